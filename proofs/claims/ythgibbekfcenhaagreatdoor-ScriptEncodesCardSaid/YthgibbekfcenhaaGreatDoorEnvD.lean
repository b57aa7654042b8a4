/- The walk of Env.Set: it answers. -/
import Derived.Test.YthgibbekfcenhaaGreatDoorEnvC
namespace Go.Proofs.YthgibbekfcenhaaGreatDoor
open Go.RowKit

/-- Something is answered; only the map in block b may have turned. -/
def SetPost (b : Nat) (w : World) (e : Ending) (w' : World) : Prop := (∃ u, e = .returned u) ∧ IsVars w' b ∧ Mod (· = b) w w'
theorem Errs.mod {S : Fp} {W W' : World} (h : Errs W) (hm : Mod S W W') (hS : ∀ g, ErrAt W g → ¬ S g) : Errs W' :=
  ⟨h.form.mod hm (hS _ h.form), h.full.mod hm (hS _ h.full), h.name.mod hm (hS _ h.name), h.range.mod hm (hS _ h.range), h.long.mod hm (hS _ h.long)⟩
theorem errAt_ne {W : World} {g b : Nat} (h : ErrAt W g) (hb : IsVars W b) : g ≠ b := by
  rintro rfl
  obtain ⟨t, x, h⟩ := h
  obtain ⟨es, clock, hb, _⟩ := hb
  simp [World.cell?, hb] at h

theorem toB {b : Nat} {W W' : World} (h : Mod (fun _ => False) W W') : Mod (· = b) W W' := h.mono fun _ _ q => q.elim

set_option maxRecDepth 10000 in
set_option maxHeartbeats 4000000 in
theorem envSet_calls (w : World) (F : Fp) (v : PVar) (a1 a2 a3 a4 : Value) (h : cVar.rd w F [a1, a2, a3, a4] v) (hlen : v.words.length ≤ 1000) (hE : Errs w) (g b : Nat) (hA : EnvAt w g b) :
    Calls Tryz.prog 57 #[.pointer (some ⟨g, 0, none⟩), .agg #[a1, a2, a3, a4]] w (SetPost b w) := by
  have Hv : Hid (∀ W, Mod (fun _ => False) w W → cVar.rd W F [a1, a2, a3, a4] v) := hidden fun W hW => cVar.mod h hW fun _ _ _ q => q
  obtain ⟨A, k1, rfl, rfl, rfl, rfl, -⟩ := var_cells h
  have HE : Hid (∀ W, Mod (fun _ => False) w W → Errs W) := hidden fun W hm => hE.mod hm fun _ _ q => q
  have HA := hidden hA
  have Hl := hidden hlen
  obtain ⟨vn, vw, vl, vh⟩ := v
  simp only at Hv HE HA ⊢
  clear h hE hA hlen
  generalize vw.length = n at Hv ⊢
  go_enter Tryz.func57, Tryz.ntmps57
  go_wp2_with fail
  refine (check_calls _ F ⟨vn, vw, vl, vh⟩ _ _ _ _ (Hv.out _ ((Mod.refl _ _).alloc _)) Hl.out (HE.out _ ((Mod.refl _ _).alloc _))).mono ?_
  rintro e w1 ⟨u, rfl, hu, hm1⟩
  have hbox := hm1.heapF (heap_alloc_new _ _)
  have hm := ((Mod.refl (fun _ => False) w).alloc _).trans hm1
  have Hm := hidden hm
  have Hbox := hidden hbox
  have HA1 : Hid (EnvAt w1 g b) := hidden ⟨hm.heapF HA.out.1, isVars_mod HA.out.2 hm fun q => q⟩
  clear hm1 hbox hm
  rcases hu with rfl | ⟨t, x, rfl⟩
  case inr =>
    go_wp2_with fail
    go_ret
    exact ⟨⟨_, rfl⟩, HA1.out.2, Hm.out.mono fun _ _ q => q.elim⟩
  go_upto_region 4 with fail
  obtain ⟨on, oA, ok, oc, ol, oh, there, hlk⟩ := vars_lookup HA1.out.2 vn
  have HS : Hid (∀ W', Mod (fun _ => False) w1 W' → W'.cell? ⟨g, 0, none⟩ = some (.map (some b)) ∧ W'.cell? ⟨w.heap.size, 0, none⟩ = some (.string vn) ∧ W'.cell? ⟨w.heap.size, 1, none⟩ = some (.slice A n k1) ∧ W'.cell? ⟨w.heap.size, 2, none⟩ = some (.int .i64 vl) ∧ W'.cell? ⟨w.heap.size, 3, none⟩ = some (.bool vh) ∧ (Instr.lookup 170 (.map (some b)) (.string vn) true).run Tryz.prog W' = .ok (.tuple #[.agg #[.string on, .slice oA ok oc, .int .i64 ol, .bool oh], .bool there]) W') := hidden fun W' h' => by
    have hbb := h'.heapF Hbox.out
    have hbm : b < w1.heap.size := by obtain ⟨es, clock, hb, _⟩ := HA1.out.2; exact (Array.getElem?_eq_some_iff.1 hb).1
    exact ⟨cell_lit (h'.heapF HA1.out.1) (j := 0) rfl, cell_lit hbb (j := 0) rfl, cell_lit hbb (j := 1) rfl, cell_lit hbb (j := 2) rfl, cell_lit hbb (j := 3) rfl, hlk W' (h'.block b hbm fun q => q)⟩
  clear hlk
  go_cut [6, 7] (fun s6 s7 wx => ∃ m, s6 = .pointer (some ⟨m, 0, none⟩) ∧ s7 = .bool there ∧ wx.heap[m]? = some (.cells #[.string on, .slice oA ok oc, .int .i64 ol, .bool oh] 98 (0, 0)) ∧ Mod (fun _ => False) w1 wx)
  case first =>
    have Hcur : Hid (Mod (fun _ => False) w1 w1.drew) := hidden (Mod.refl _ _).drew
    go_region_held3 (fun W' => W'.cell? ⟨g, 0, none⟩ = some (.map (some b)) ∧ W'.cell? ⟨w.heap.size, 0, none⟩ = some (.string vn) ∧ W'.cell? ⟨w.heap.size, 1, none⟩ = some (.slice A n k1) ∧ W'.cell? ⟨w.heap.size, 2, none⟩ = some (.int .i64 vl) ∧ W'.cell? ⟨w.heap.size, 3, none⟩ = some (.bool vh) ∧ (Instr.lookup 170 (.map (some b)) (.string vn) true).run Tryz.prog W' = .ok (.tuple #[.agg #[.string on, .slice oA ok oc, .int .i64 ol, .bool oh], .bool there]) W')
      (first | (with_reducible exact HS.out _ Hcur.out) | (with_reducible exact HS.out _ (Mod.refl _ _)) | (with_reducible exact HS.out _ (Mod.drew (Mod.alloc (Mod.refl _ _) _))) | (with_reducible exact HS.out _ (Mod.alloc Hcur.out _)))
      (fail)
    all_goals (go_wp2_with fail; go_meet)
    all_goals exact ⟨_, rfl, rfl, heap_alloc_new _ _, ((Mod.refl _ _).alloc _).drew⟩
  case rest =>
    obtain ⟨m, rfl, rfl, hold, hm2⟩ := hcut
    have HM := hidden (Hm.out.trans hm2)
    have hA2 : EnvAt wc g b := ⟨hm2.heapF HA1.out.1, isVars_mod HA1.out.2 hm2 fun q => q⟩
    have HA2 := hidden hA2
    obtain ⟨hg, es, clock, hb, -⟩ := hA2
    have hbx := hm2.heapF Hbox.out
    obtain ⟨t1, x1, e1⟩ := (HE.out _ HM.out).full
    have Hgb : Hid (¬ g = b) := hidden (by rintro rfl; rw [hg] at hb; cases hb)
    have Hbb : Hid (¬ w.heap.size = b) := hidden (by rintro rfl; rw [hbx] at hb; cases hb)
    have HS2 : Hid (∀ W', Mod (· = b) wc W' → W'.cell? ⟨g, 0, none⟩ = some (.map (some b)) ∧ W'.cell? ⟨w.heap.size, 0, none⟩ = some (.string vn) ∧ W'.cell? ⟨w.heap.size, 1, none⟩ = some (.slice A n k1) ∧ W'.cell? ⟨w.heap.size, 2, none⟩ = some (.int .i64 vl) ∧ W'.cell? ⟨w.heap.size, 3, none⟩ = some (.bool vh)) := hidden fun W' h' =>
      ⟨cell_lit (h'.heap HA2.out.1 Hgb.out) (j := 0) rfl, cell_lit (h'.heap hbx Hbb.out) (j := 0) rfl, cell_lit (h'.heap hbx Hbb.out) (j := 1) rfl, cell_lit (h'.heap hbx Hbb.out) (j := 2) rfl, cell_lit (h'.heap hbx Hbb.out) (j := 3) rfl⟩
    have o2 := cell_lit hold (j := 2) rfl
    have g0 := cell_lit hg (j := 0) rfl
    have b2 := cell_lit hbx (j := 2) rfl
    clear hold hm2 hg hbx HS
    have hln : ∀ ty, (Builtin.len_ #[170] ty #[.map (some b)]).run Tryz.prog wc = .ok (.int .i64 (es.size : Int)) wc := fun ty => run_len_map wc 170 ty b es clock (by rw [Tryz.underlying170]; rfl) hb
    clear hb
    generalize es.size = z at *
    go_wp2_with fail
    all_goals first
      | (go_ret; exact ⟨⟨_, rfl⟩, HA2.out.2, HM.out.mono fun _ _ q => q.elim⟩)
      | skip
    all_goals
      have Hcur : Hid (Mod (fun _ => False) wc wc.drew) := hidden (Mod.refl _ _).drew
      clear hln o2 g0 b2 e1
      go_region_held3 (fun W' => W'.cell? ⟨g, 0, none⟩ = some (.map (some b)) ∧ W'.cell? ⟨w.heap.size, 0, none⟩ = some (.string vn) ∧ W'.cell? ⟨w.heap.size, 1, none⟩ = some (.slice A n k1) ∧ W'.cell? ⟨w.heap.size, 2, none⟩ = some (.int .i64 vl) ∧ W'.cell? ⟨w.heap.size, 3, none⟩ = some (.bool vh))
        (first | (with_reducible exact HS2.out _ (toB Hcur.out)) | (with_reducible exact HS2.out _ (Mod.refl _ _)) | (with_reducible exact HS2.out _ (Mod.trans (toB Hcur.out) Hm4.out)))
        (first | (go_at_call 87; (with_reducible refine (apart_calls _ F ⟨vn, vw, vl, vh⟩ _ _ _ _ (Hv.out _ (Mod.trans HM.out Hcur.out)) Hl.out).mono ?_); rintro e w3 ⟨n', A', k', c', l', h', rfl, hm3⟩; obtain ⟨w4, hup, hv4, hm4⟩ := vars_update (isVars_mod (isVars_mod HA2.out.2 Hcur.out fun q => q) hm3 fun q => q) vn n' A' k' c' l' h'; replace Hcur := hidden (Hcur.out.trans hm3); have Hv4 := hidden hv4; have Hm4 := hidden hm4; clear hm3 hv4 hm4))
      all_goals (go_wp2_with fail)
      go_ret
      exact ⟨⟨_, rfl⟩, Hv4.out, ((toB HM.out).trans (toB Hcur.out)).trans' Hm4.out fun x _ q => q⟩
end Go.Proofs.YthgibbekfcenhaaGreatDoor
