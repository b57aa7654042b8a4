/- The walk of the document's Plain. -/
import Derived.Test.YthgibbekfcenhaaGreatDoorLong
namespace Go.Proofs.YthgibbekfcenhaaGreatDoor
open Go.RowKit

theorem var_shape {w : World} {F : Fp} {cs : List Value} {v : PVar} (h : cVar.rd w F cs v) : ∃ A n cap, cs = [.string v.name, .slice A n cap, .int .i64 v.level, .bool v.hidden] ∧ n = v.words.length ∧ (cSl cStr).rd w F [.slice A n cap] v.words := by
  obtain ⟨p, q, rfl, ⟨rfl, h1⟩, p', q', rfl, ⟨A, cap, rfl, h3⟩, p3, q3, rfl, ⟨rfl, h4⟩, rfl⟩ := h
  exact ⟨A, _, cap, rfl, rfl, A, cap, rfl, h3⟩

set_option maxRecDepth 10000 in
set_option maxHeartbeats 4000000 in
theorem refPlain_calls (w : World) (F : Fp) (c : PCase) (a1 a2 a3 a4 a5 a6 a7 : Value) (h : cCase.rd w F [a1, a2, a3, a4, a5, a6, a7] c) (hs : SmallC c) :
    Calls Tryz.prog 7 #[.agg #[a1, a2, a3, a4, a5, a6, a7]] w (BoolPost (okCase c) w) := by
  have E3 : Hid ((3 : Int) = ((3 : Nat) : Int)) := hidden rfl
  have L3 : Hid (3 ≤ 1000000) := hidden (by decide)
  have E5 : Hid ((5 : Int) = ((5 : Nat) : Int)) := hidden rfl
  have L5 : Hid (5 ≤ 1000000) := hidden (by decide)
  have E12 : Hid ((12 : Int) = ((12 : Nat) : Int)) := hidden rfl
  have L12 : Hid (12 ≤ 1000000) := hidden (by decide)
  have E20 : Hid ((20 : Int) = ((20 : Nat) : Int)) := hidden rfl
  have L20 : Hid (20 ≤ 1000000) := hidden (by decide)
  have Hs := hidden hs
  have bs1 := hs.world.files
  have bs2 := hs.world.vars
  have bs3 := hs.world.outputs
  have bs4 := hs.world.outcomes
  have bs5 := hs.world.verdicts
  have bs6 := hs.args
  have bs7 := hs.picks
  obtain ⟨R1, q1, R2, q2, R3, q3, R4, q4, R5, q5, R6, q6, R7, q7, he, hx1, hx2, hx3, hx4, hx5, hx6, hx7⟩ := case_cells h
  simp only [List.cons.injEq, and_true] at he
  obtain ⟨rfl, rfl, rfl, rfl, rfl, rfl, rfl⟩ := he
  have Hx1 : Hid (∀ W, Mod (fun _ => False) w W → (cSl cFile).rd W F [.slice R1 c.world.files.length q1] c.world.files) := hidden fun W hW => (cSl cFile).mod hx1 hW fun _ _ _ q => q
  have Hx2 : Hid (∀ W, Mod (fun _ => False) w W → (cSl cVar).rd W F [.slice R2 c.world.vars.length q2] c.world.vars) := hidden fun W hW => (cSl cVar).mod hx2 hW fun _ _ _ q => q
  have Hx3 : Hid (∀ W, Mod (fun _ => False) w W → (cSl cOut).rd W F [.slice R3 c.world.outputs.length q3] c.world.outputs) := hidden fun W hW => (cSl cOut).mod hx3 hW fun _ _ _ q => q
  have Hx4 : Hid (∀ W, Mod (fun _ => False) w W → (cSl cOutc).rd W F [.slice R4 c.world.outcomes.length q4] c.world.outcomes) := hidden fun W hW => (cSl cOutc).mod hx4 hW fun _ _ _ q => q
  have Hx5 : Hid (∀ W, Mod (fun _ => False) w W → (cSl cVer).rd W F [.slice R5 c.world.verdicts.length q5] c.world.verdicts) := hidden fun W hW => (cSl cVer).mod hx5 hW fun _ _ _ q => q
  have Hx6 : Hid (∀ W, Mod (fun _ => False) w W → (cSl cStr).rd W F [.slice R6 c.args.length q6] c.args) := hidden fun W hW => (cSl cStr).mod hx6 hW fun _ _ _ q => q
  have Hx7 : Hid (∀ W, Mod (fun _ => False) w W → (cSl cI64).rd W F [.slice R7 c.picks.length q7] c.picks) := hidden fun W hW => (cSl cI64).mod hx7 hW fun _ _ _ q => q
  clear h hs hx1 hx2 hx3 hx4 hx5 hx6 hx7
  generalize hn1 : c.world.files.length = n1 at *
  have Hn1 := hidden hn1
  clear hn1
  generalize hn2 : c.world.vars.length = n2 at *
  have Hn2 := hidden hn2
  clear hn2
  generalize hn3 : c.world.outputs.length = n3 at *
  have Hn3 := hidden hn3
  clear hn3
  generalize hn4 : c.world.outcomes.length = n4 at *
  have Hn4 := hidden hn4
  clear hn4
  generalize hn5 : c.world.verdicts.length = n5 at *
  have Hn5 := hidden hn5
  clear hn5
  generalize hn6 : c.args.length = n6 at *
  have Hn6 := hidden hn6
  clear hn6
  generalize hn7 : c.picks.length = n7 at *
  have Hn7 := hidden hn7
  clear hn7
  go_enter Tryz.func7, Tryz.ntmps7
  go_upto_region 2 with fail
  have hpa : (World.heap ((w.alloc (.cells #[.slice R1 n1 q1, .slice R2 n2 q2, .slice R3 n3 q3, .slice R4 n4 q4, .slice R5 n5 q5, .slice R6 n6 q6, .slice R7 n7 q7] 43)).alloc (.cells #[.slice R1 n1 q1, .slice R2 n2 q2, .slice R3 n3 q3, .slice R4 n4 q4, .slice R5 n5 q5] 41)))[w.heap.size]? = some (.cells #[.slice R1 n1 q1, .slice R2 n2 q2, .slice R3 n3 q3, .slice R4 n4 q4, .slice R5 n5 q5, .slice R6 n6 q6, .slice R7 n7 q7] 43 (0, 0)) := hmx (heap_alloc_new _ _) _
  have hpb : (World.heap ((w.alloc (.cells #[.slice R1 n1 q1, .slice R2 n2 q2, .slice R3 n3 q3, .slice R4 n4 q4, .slice R5 n5 q5, .slice R6 n6 q6, .slice R7 n7 q7] 43)).alloc (.cells #[.slice R1 n1 q1, .slice R2 n2 q2, .slice R3 n3 q3, .slice R4 n4 q4, .slice R5 n5 q5] 41)))[w.heap.size + 1]? = some (.cells #[.slice R1 n1 q1, .slice R2 n2 q2, .slice R3 n3 q3, .slice R4 n4 q4, .slice R5 n5 q5] 41 (0, 0)) := by
    have := heap_alloc_new (w.alloc (.cells #[.slice R1 n1 q1, .slice R2 n2 q2, .slice R3 n3 q3, .slice R4 n4 q4, .slice R5 n5 q5, .slice R6 n6 q6, .slice R7 n7 q7] 43)) (.cells #[.slice R1 n1 q1, .slice R2 n2 q2, .slice R3 n3 q3, .slice R4 n4 q4, .slice R5 n5 q5] 41)
    rwa [World.size_alloc] at this
  have hm0 : Mod (fun _ => False) w ((w.alloc (.cells #[.slice R1 n1 q1, .slice R2 n2 q2, .slice R3 n3 q3, .slice R4 n4 q4, .slice R5 n5 q5, .slice R6 n6 q6, .slice R7 n7 q7] 43)).alloc (.cells #[.slice R1 n1 q1, .slice R2 n2 q2, .slice R3 n3 q3, .slice R4 n4 q4, .slice R5 n5 q5] 41)) := ((Mod.refl _ _).alloc _).alloc _
  generalize (w.alloc (.cells #[.slice R1 n1 q1, .slice R2 n2 q2, .slice R3 n3 q3, .slice R4 n4 q4, .slice R5 n5 q5, .slice R6 n6 q6, .slice R7 n7 q7] 43)).alloc (.cells #[.slice R1 n1 q1, .slice R2 n2 q2, .slice R3 n3 q3, .slice R4 n4 q4, .slice R5 n5 q5] 41) = W0 at *
  have Hpa := hidden hpa
  have Hpb := hidden hpb
  have Hm0 := hidden hm0
  have ca1 := cell_lit hpa (j := 5) rfl
  have ca2 := cell_lit hpa (j := 6) rfl
  have cb0 := cell_lit hpb (j := 0) rfl
  have cb1 := cell_lit hpb (j := 1) rfl
  have cb2 := cell_lit hpb (j := 2) rfl
  have cb3 := cell_lit hpb (j := 3) rfl
  have cb4 := cell_lit hpb (j := 4) rfl
  clear hpa hpb hm0
  by_cases g1 : n1 ≤ 7
  case neg =>
    have hb : decide ((7 : Int) < (n1 : Int)) = true := decide_eq_true (by omega)
    have Hbad : Hid (okCase c = false) := hidden (by unfold okCase okMany; rw [show decide (c.world.files.length ≤ 7) = false from decide_eq_false (by rw [Hn1.out]; exact g1)]; simp only [Bool.false_and])
    go_wp2_with fail
    go_ret
    exact ⟨by rw [Hbad.out]; rfl, Hm0.out⟩
  have t1 : decide ((7 : Int) < (n1 : Int)) = false := decide_eq_false (by omega)
  have Hg1 : Hid (decide (c.world.files.length ≤ 7) = true) := hidden (decide_eq_true (by rw [Hn1.out]; exact g1))
  clear g1
  by_cases g2 : n2 ≤ 3
  case neg =>
    have hb : decide ((3 : Int) < (n2 : Int)) = true := decide_eq_true (by omega)
    have Hbad : Hid (okCase c = false) := hidden (by unfold okCase okMany; rw [show decide (c.world.vars.length ≤ 3) = false from decide_eq_false (by rw [Hn2.out]; exact g2)]; simp only [Bool.and_false, Bool.false_and])
    go_wp2_with fail
    go_ret
    exact ⟨by rw [Hbad.out]; rfl, Hm0.out⟩
  have t2 : decide ((3 : Int) < (n2 : Int)) = false := decide_eq_false (by omega)
  have Hg2 : Hid (decide (c.world.vars.length ≤ 3) = true) := hidden (decide_eq_true (by rw [Hn2.out]; exact g2))
  clear g2
  by_cases g3 : n3 ≤ 3
  case neg =>
    have hb : decide ((3 : Int) < (n3 : Int)) = true := decide_eq_true (by omega)
    have Hbad : Hid (okCase c = false) := hidden (by unfold okCase okMany; rw [show decide (c.world.outputs.length ≤ 3) = false from decide_eq_false (by rw [Hn3.out]; exact g3)]; simp only [Bool.and_false, Bool.false_and])
    go_wp2_with fail
    go_ret
    exact ⟨by rw [Hbad.out]; rfl, Hm0.out⟩
  have t3 : decide ((3 : Int) < (n3 : Int)) = false := decide_eq_false (by omega)
  have Hg3 : Hid (decide (c.world.outputs.length ≤ 3) = true) := hidden (decide_eq_true (by rw [Hn3.out]; exact g3))
  clear g3
  by_cases g4 : n4 ≤ 5
  case neg =>
    have hb : decide ((5 : Int) < (n4 : Int)) = true := decide_eq_true (by omega)
    have Hbad : Hid (okCase c = false) := hidden (by unfold okCase okMany; rw [show decide (c.world.outcomes.length ≤ 5) = false from decide_eq_false (by rw [Hn4.out]; exact g4)]; simp only [Bool.and_false, Bool.false_and])
    go_wp2_with fail
    go_ret
    exact ⟨by rw [Hbad.out]; rfl, Hm0.out⟩
  have t4 : decide ((5 : Int) < (n4 : Int)) = false := decide_eq_false (by omega)
  have Hg4 : Hid (decide (c.world.outcomes.length ≤ 5) = true) := hidden (decide_eq_true (by rw [Hn4.out]; exact g4))
  clear g4
  by_cases g5 : n5 ≤ 3
  case neg =>
    have hb : decide ((3 : Int) < (n5 : Int)) = true := decide_eq_true (by omega)
    have Hbad : Hid (okCase c = false) := hidden (by unfold okCase okMany; rw [show decide (c.world.verdicts.length ≤ 3) = false from decide_eq_false (by rw [Hn5.out]; exact g5)]; simp only [Bool.and_false, Bool.false_and])
    go_wp2_with fail
    go_ret
    exact ⟨by rw [Hbad.out]; rfl, Hm0.out⟩
  have t5 : decide ((3 : Int) < (n5 : Int)) = false := decide_eq_false (by omega)
  have Hg5 : Hid (decide (c.world.verdicts.length ≤ 3) = true) := hidden (decide_eq_true (by rw [Hn5.out]; exact g5))
  clear g5
  by_cases g6 : okMany 5 (okText 20) c.args = true
  case neg =>
    have HL : Hid ((!okMany 5 (okText 20) c.args) = true) := hidden (by simp [g6])
    have Hbad : Hid (okCase c = false) := hidden (by unfold okCase; rw [Bool.not_eq_true] at g6; rw [g6]; simp only [Bool.and_false, Bool.false_and])
    clear g6
    go_wp2_with (go_at_call 20; (with_reducible refine (long_calls _ _ _ _ _ 5 20 E5.out E20.out _ _ _ Hn6.out.symm (Hx6.out _ Hm0.out) bs6 L5.out L20.out).mono ?_); rintro e w2 ⟨he, hm2⟩; rw [HL.out] at he; subst he; have Hc := hidden ((Mod.refl (fun _ => False) W0).trans hm2); have hpa := hm2.heapF Hpa.out; have hpb := hm2.heapF Hpb.out; have ca2 := cell_lit hpa (j := 6) rfl; clear hpa hpb; clear hm2)
    go_ret
    exact ⟨by rw [Hbad.out]; rfl, Hm0.out.trans Hc.out⟩
  have HL : Hid ((!okMany 5 (okText 20) c.args) = false) := hidden (by simp [g6])
  have Hg6 := hidden g6
  clear g6
  by_cases g7 : n7 ≤ 11
  case neg =>
    have hb : decide ((11 : Int) < (n7 : Int)) = true := decide_eq_true (by omega)
    have Hbad : Hid (okCase c = false) := hidden (by unfold okCase okMany; rw [show decide (c.picks.length ≤ 11) = false from decide_eq_false (by rw [Hn7.out]; exact g7)]; simp only [Bool.and_false, Bool.false_and])
    go_wp2_with (go_at_call 20; (with_reducible refine (long_calls _ _ _ _ _ 5 20 E5.out E20.out _ _ _ Hn6.out.symm (Hx6.out _ Hm0.out) bs6 L5.out L20.out).mono ?_); rintro e w2 ⟨he, hm2⟩; rw [HL.out] at he; subst he; have Hc := hidden ((Mod.refl (fun _ => False) W0).trans hm2); have hpa := hm2.heapF Hpa.out; have hpb := hm2.heapF Hpb.out; have ca2 := cell_lit hpa (j := 6) rfl; clear hpa hpb; clear hm2)
    go_ret
    exact ⟨by rw [Hbad.out]; rfl, Hm0.out.trans Hc.out⟩
  have t7 : decide ((11 : Int) < (n7 : Int)) = false := decide_eq_false (by omega)
  have Hg7 : Hid (decide (c.picks.length ≤ 11) = true) := hidden (decide_eq_true (by rw [Hn7.out]; exact g7))
  clear g7
  go_upto_region 4 with (go_at_call 20; (with_reducible refine (long_calls _ _ _ _ _ 5 20 E5.out E20.out _ _ _ Hn6.out.symm (Hx6.out _ Hm0.out) bs6 L5.out L20.out).mono ?_); rintro e w2 ⟨he, hm2⟩; rw [HL.out] at he; subst he; have Hc := hidden ((Mod.refl (fun _ => False) W0).trans hm2); have hpa := hm2.heapF Hpa.out; have hpb := hm2.heapF Hpb.out; have ca2 := cell_lit hpa (j := 6) rfl; clear hpa hpb; clear hm2)
  replace Hpa := hidden (Hc.out.heapF Hpa.out)
  replace Hpb := hidden (Hc.out.heapF Hpb.out)
  replace Hm0 := hidden (Hm0.out.trans Hc.out)
  have hpa := Hpa.out
  have hpb := Hpb.out
  clear t1 t2 t3 t4 t5 t7 ca1 ca2 cb0 cb1 cb2 cb3 cb4 Hc HL
  have ca1 := cell_lit hpa (j := 5) rfl
  have ca2 := cell_lit hpa (j := 6) rfl
  have cb0 := cell_lit hpb (j := 0) rfl
  have cb1 := cell_lit hpb (j := 1) rfl
  have cb2 := cell_lit hpb (j := 2) rfl
  have cb3 := cell_lit hpb (j := 3) rfl
  have cb4 := cell_lit hpb (j := 4) rfl
  clear hpa hpb
  go_wp2_with fail
  clear ca1 ca2 cb0 cb1 cb2 cb3 cb4
  go_loopw [62] (fun i wr => ∃ k : Nat, k ≤ n1 ∧ i = .int .i64 k ∧ (c.world.files.take k).all okFile = true ∧ Mod (fun _ => False) w2 wr) (fun i _ => n1 - (intOf i).toNat)
  case atStart => exact ⟨0, Nat.zero_le _, rfl, rfl, Mod.refl _ _⟩
  obtain ⟨k, hk, rfl, htk, hmod⟩ := hrel
  have Htk := hidden htk
  have Hmod1 := hidden hmod
  have hpa := hmod.heapF Hpa.out
  have hpb := hmod.heapF Hpb.out
  have ca1 := cell_lit hpa (j := 5) rfl
  have ca2 := cell_lit hpa (j := 6) rfl
  have cb0 := cell_lit hpb (j := 0) rfl
  have cb1 := cell_lit hpb (j := 1) rfl
  have cb2 := cell_lit hpb (j := 2) rfl
  have cb3 := cell_lit hpb (j := 3) rfl
  have cb4 := cell_lit hpb (j := 4) rfl
  clear htk hpa hpb hmod
  by_cases hlt : k < n1
  case pos =>
    have hkx : k < c.world.files.length := by rw [Hn1.out]; exact hlt
    obtain ⟨x, hx⟩ : ∃ x, c.world.files[k]? = some x := ⟨_, List.getElem?_eq_getElem hkx⟩
    have hrx := Hx1.out _ (Hm0.out.trans Hmod1.out)
    rw [← Hn1.out] at hrx
    obtain ⟨bx, offx, hA, _, hbx, hrx⟩ := cSl_at hrx (by intro q; rw [q] at hkx; simp at hkx)
    obtain ⟨cs, hcx', hcx⟩ := hrx.get k x hx
    have hknz : (k : Int) < n1 := by omega
    have h0k : (0 : Int) ≤ k := by omega
    have Hst := hidden (all_step (ok := okFile) hx)
    have Hno := hidden (all_not (ok := okFile) hx)
    subst hA
    obtain ⟨rfl, hox⟩ := cFile_iff.1 hcx'
    have cx0 := hcx 0 (by decide)
    have cx1 := hcx 1 (by decide)
    have cx2 := hcx 2 (by decide)
    simp only [show cFile.size = 3 from rfl, Nat.add_zero, List.getElem?_cons_zero, List.getElem?_cons_succ] at cx0 cx1 cx2
    clear hrx hcx hx hcx' 
    by_cases g0 : x.name.size ≤ 12
    case neg =>
      have hb : decide ((12 : Int) < (x.name.size : Int)) = true := decide_eq_true (by omega)
      have Hq : Hid (okFile x = false) := hidden (by cases hq : okFile x with | false => rfl | true => (simp only [okFile, okText, okNum, Bool.and_eq_true, decide_eq_true_eq] at hq; omega))
      have Hbad : Hid (okCase c = false) := hidden (by unfold okCase okMany; rw [show c.world.files.all okFile = false from Hno.out Hq.out]; simp only [Bool.and_false, Bool.false_and])
      clear g0
      go_wp2_with fail
      go_ret
      exact ⟨by rw [Hbad.out]; rfl, Hm0.out.trans (Hmod1.out.alloc _)⟩
    have t0 : decide ((12 : Int) < (x.name.size : Int)) = false := decide_eq_false (by omega)
    have G0 := hidden g0
    clear g0
    by_cases g1 : x.content.size ≤ 200
    case neg =>
      have hb : decide ((200 : Int) < (x.content.size : Int)) = true := decide_eq_true (by omega)
      have Hq : Hid (okFile x = false) := hidden (by cases hq : okFile x with | false => rfl | true => (simp only [okFile, okText, okNum, Bool.and_eq_true, decide_eq_true_eq] at hq; omega))
      have Hbad : Hid (okCase c = false) := hidden (by unfold okCase okMany; rw [show c.world.files.all okFile = false from Hno.out Hq.out]; simp only [Bool.and_false, Bool.false_and])
      clear g1
      go_wp2_with fail
      go_ret
      exact ⟨by rw [Hbad.out]; rfl, Hm0.out.trans (Hmod1.out.alloc _)⟩
    have t1 : decide ((200 : Int) < (x.content.size : Int)) = false := decide_eq_false (by omega)
    have G1 := hidden g1
    clear g1
    by_cases g2 : 1 ≤ x.time
    case neg =>
      have hb : decide (x.time < 1) = true := decide_eq_true (by omega)
      have Hq : Hid (okFile x = false) := hidden (by cases hq : okFile x with | false => rfl | true => (simp only [okFile, okText, okNum, Bool.and_eq_true, decide_eq_true_eq] at hq; omega))
      have Hbad : Hid (okCase c = false) := hidden (by unfold okCase okMany; rw [show c.world.files.all okFile = false from Hno.out Hq.out]; simp only [Bool.and_false, Bool.false_and])
      clear g2
      go_wp2_with fail
      go_ret
      exact ⟨by rw [Hbad.out]; rfl, Hm0.out.trans (Hmod1.out.alloc _)⟩
    have t2 : decide (x.time < 1) = false := decide_eq_false (by omega)
    have G2 := hidden g2
    clear g2
    by_cases g3 : x.time ≤ 256
    case neg =>
      have hb : decide (256 < x.time) = true := decide_eq_true (by omega)
      have Hq : Hid (okFile x = false) := hidden (by cases hq : okFile x with | false => rfl | true => (simp only [okFile, okText, okNum, Bool.and_eq_true, decide_eq_true_eq] at hq; omega))
      have Hbad : Hid (okCase c = false) := hidden (by unfold okCase okMany; rw [show c.world.files.all okFile = false from Hno.out Hq.out]; simp only [Bool.and_false, Bool.false_and])
      clear g3
      go_wp2_with fail
      go_ret
      exact ⟨by rw [Hbad.out]; rfl, Hm0.out.trans (Hmod1.out.alloc _)⟩
    have t3 : decide (256 < x.time) = false := decide_eq_false (by omega)
    have G3 := hidden g3
    clear g3
    have Hok : Hid (okFile x = true) := hidden (by have q0 := G0.out; have q1 := G1.out; have q2 := G2.out; have q3 := G3.out; simp only [okFile, okText, okNum, Bool.and_eq_true, decide_eq_true_eq]; omega)
    go_wp2_with fail
    go_roundw
    case rel => exact ⟨k + 1, by omega, by go_num, by rw [Hst.out, Htk.out, Hok.out]; rfl, Hmod1.out.alloc _⟩
    case measure => simp [intOf]; omega
  obtain rfl : k = n1 := by omega
  have Hall1 := hidden (all_full Hn1.out.symm Htk.out)
  have hkn : ¬ (k : Int) < k := by omega
  go_wp2_with fail
  clear hkn ca1 ca2 cb0 cb1 cb2 cb3 cb4 Htk
  go_loopw [90] (fun i wr => ∃ k : Nat, k ≤ n2 ∧ i = .int .i64 k ∧ (c.world.vars.take k).all okVar = true ∧ Mod (fun _ => False) w2 wr) (fun i _ => n2 - (intOf i).toNat)
  case atStart => exact ⟨0, Nat.zero_le _, rfl, rfl, Hmod1.out⟩
  obtain ⟨k, hk, rfl, htk, hmod⟩ := hrel
  have Htk := hidden htk
  have Hmod2 := hidden hmod
  have hpa := hmod.heapF Hpa.out
  have hpb := hmod.heapF Hpb.out
  have ca1 := cell_lit hpa (j := 5) rfl
  have ca2 := cell_lit hpa (j := 6) rfl
  have cb0 := cell_lit hpb (j := 0) rfl
  have cb1 := cell_lit hpb (j := 1) rfl
  have cb2 := cell_lit hpb (j := 2) rfl
  have cb3 := cell_lit hpb (j := 3) rfl
  have cb4 := cell_lit hpb (j := 4) rfl
  clear htk hpa hpb hmod
  by_cases hlt : k < n2
  case pos =>
    have hkx : k < c.world.vars.length := by rw [Hn2.out]; exact hlt
    obtain ⟨x, hx⟩ : ∃ x, c.world.vars[k]? = some x := ⟨_, List.getElem?_eq_getElem hkx⟩
    have hrx := Hx2.out _ (Hm0.out.trans Hmod2.out)
    rw [← Hn2.out] at hrx
    obtain ⟨bx, offx, hA, _, hbx, hrx⟩ := cSl_at hrx (by intro q; rw [q] at hkx; simp at hkx)
    obtain ⟨cs, hcx', hcx⟩ := hrx.get k x hx
    have hknz : (k : Int) < n2 := by omega
    have h0k : (0 : Int) ≤ k := by omega
    have Hst := hidden (all_step (ok := okVar) hx)
    have Hno := hidden (all_not (ok := okVar) hx)
    subst hA
    obtain ⟨A', n', cap', rfl, hn', hwr⟩ := var_shape hcx'
    have hwl := Hs.out.words x (List.mem_of_getElem? hx)
    rw [← hn'] at hwl
    have Hl := hidden hn'
    have Hwr := hidden hwr
    clear hn' hwr
    have cx0 := hcx 0 (by decide)
    have cx1 := hcx 1 (by decide)
    have cx2 := hcx 2 (by decide)
    have cx3 := hcx 3 (by decide)
    simp only [show cVar.size = 4 from rfl, Nat.add_zero, List.getElem?_cons_zero, List.getElem?_cons_succ] at cx0 cx1 cx2 cx3
    clear hrx hcx hx hcx' 
    by_cases g0 : x.name.size ≤ 12
    case neg =>
      have hb : decide ((12 : Int) < (x.name.size : Int)) = true := decide_eq_true (by omega)
      have Hq : Hid (okVar x = false) := hidden (by cases hq : okVar x with | false => rfl | true => (simp only [okVar, okText, okNum, okMany, Bool.and_eq_true, decide_eq_true_eq] at hq; omega))
      have Hbad : Hid (okCase c = false) := hidden (by unfold okCase okMany; rw [show c.world.vars.all okVar = false from Hno.out Hq.out]; simp only [Bool.and_false, Bool.false_and])
      clear g0
      go_wp2_with fail
      go_ret
      exact ⟨by rw [Hbad.out]; rfl, Hm0.out.trans (Hmod2.out.alloc _)⟩
    have t0 : decide ((12 : Int) < (x.name.size : Int)) = false := decide_eq_false (by omega)
    have G0 := hidden g0
    clear g0
    by_cases g6 : okMany 3 (okText 12) x.words = true
    case neg =>
      have HL : Hid ((!okMany 3 (okText 12) x.words) = true) := hidden (by simp [g6])
      have Hq : Hid (okVar x = false) := hidden (by unfold okVar; rw [Bool.not_eq_true] at g6; rw [g6]; simp only [Bool.and_false, Bool.false_and])
      have Hbad : Hid (okCase c = false) := hidden (by unfold okCase okMany; rw [show c.world.vars.all okVar = false from Hno.out Hq.out]; simp only [Bool.and_false, Bool.false_and])
      clear g6
      go_wp2_with (go_at_call 20; (with_reducible refine (long_calls _ _ _ _ _ 3 12 E3.out E12.out _ _ _ Hl.out ((cSl cStr).alloc Hwr.out _) hwl L3.out L12.out).mono ?_); rintro e w2 ⟨he, hm2⟩; rw [HL.out] at he; subst he; have Hc := hidden ((Hmod2.out.alloc _).trans hm2); have cd2 := cell_lit (hm2.heapF (heap_alloc_new _ _)) (j := 2) rfl; clear hm2)
      go_ret
      exact ⟨by rw [Hbad.out]; rfl, Hm0.out.trans Hc.out⟩
    have HL : Hid ((!okMany 3 (okText 12) x.words) = false) := hidden (by simp [g6])
    have Hgw := hidden g6
    clear g6
    have T0 := hidden t0
    have GN := hidden G0.out
    clear G0
    by_cases g0 : 0 ≤ x.level
    case neg =>
      have hb : decide (x.level < 0) = true := decide_eq_true (by omega)
      have Hq : Hid (okVar x = false) := hidden (by cases hq : okVar x with | false => rfl | true => (simp only [okVar, okText, okNum, okMany, Bool.and_eq_true, decide_eq_true_eq] at hq; omega))
      have Hbad : Hid (okCase c = false) := hidden (by unfold okCase okMany; rw [show c.world.vars.all okVar = false from Hno.out Hq.out]; simp only [Bool.and_false, Bool.false_and])
      clear g0
      go_wp2_with (go_at_call 20; (with_reducible refine (long_calls _ _ _ _ _ 3 12 E3.out E12.out _ _ _ Hl.out ((cSl cStr).alloc Hwr.out _) hwl L3.out L12.out).mono ?_); rintro e w2 ⟨he, hm2⟩; rw [HL.out] at he; subst he; have Hc := hidden ((Hmod2.out.alloc _).trans hm2); have cd2 := cell_lit (hm2.heapF (heap_alloc_new _ _)) (j := 2) rfl; clear hm2)
      go_ret
      exact ⟨by rw [Hbad.out]; rfl, Hm0.out.trans Hc.out⟩
    have t7 : decide (x.level < 0) = false := decide_eq_false (by omega)
    have G0 := hidden g0
    clear g0
    by_cases g1 : x.level ≤ 2
    case neg =>
      have hb : decide (2 < x.level) = true := decide_eq_true (by omega)
      have Hq : Hid (okVar x = false) := hidden (by cases hq : okVar x with | false => rfl | true => (simp only [okVar, okText, okNum, okMany, Bool.and_eq_true, decide_eq_true_eq] at hq; omega))
      have Hbad : Hid (okCase c = false) := hidden (by unfold okCase okMany; rw [show c.world.vars.all okVar = false from Hno.out Hq.out]; simp only [Bool.and_false, Bool.false_and])
      clear g1
      go_wp2_with (go_at_call 20; (with_reducible refine (long_calls _ _ _ _ _ 3 12 E3.out E12.out _ _ _ Hl.out ((cSl cStr).alloc Hwr.out _) hwl L3.out L12.out).mono ?_); rintro e w2 ⟨he, hm2⟩; rw [HL.out] at he; subst he; have Hc := hidden ((Hmod2.out.alloc _).trans hm2); have cd2 := cell_lit (hm2.heapF (heap_alloc_new _ _)) (j := 2) rfl; clear hm2)
      go_ret
      exact ⟨by rw [Hbad.out]; rfl, Hm0.out.trans Hc.out⟩
    have t8 : decide (2 < x.level) = false := decide_eq_false (by omega)
    have G1 := hidden g1
    clear g1
    have Hok : Hid (okVar x = true) := hidden (by have q0 := GN.out; have q1 := G0.out; have q2 := G1.out; unfold okVar; rw [Hgw.out]; simp only [okText, okNum, Bool.and_eq_true, decide_eq_true_eq, Bool.true_and]; omega)
    go_wp2_with (go_at_call 20; (with_reducible refine (long_calls _ _ _ _ _ 3 12 E3.out E12.out _ _ _ Hl.out ((cSl cStr).alloc Hwr.out _) hwl L3.out L12.out).mono ?_); rintro e w2 ⟨he, hm2⟩; rw [HL.out] at he; subst he; have Hc := hidden ((Hmod2.out.alloc _).trans hm2); have cd2 := cell_lit (hm2.heapF (heap_alloc_new _ _)) (j := 2) rfl; clear hm2)
    go_roundw
    case rel => exact ⟨k + 1, by omega, by go_num, by rw [Hst.out, Htk.out, Hok.out]; rfl, Hc.out⟩
    case measure => simp [intOf]; omega
  obtain rfl : k = n2 := by omega
  have Hall2 := hidden (all_full Hn2.out.symm Htk.out)
  have hkn : ¬ (k : Int) < k := by omega
  go_wp2_with fail
  clear hkn ca1 ca2 cb0 cb1 cb2 cb3 cb4 Htk
  go_loopw [117] (fun i wr => ∃ k : Nat, k ≤ n3 ∧ i = .int .i64 k ∧ (c.world.outputs.take k).all okOut = true ∧ Mod (fun _ => False) w2 wr) (fun i _ => n3 - (intOf i).toNat)
  case atStart => exact ⟨0, Nat.zero_le _, rfl, rfl, Hmod2.out⟩
  obtain ⟨k, hk, rfl, htk, hmod⟩ := hrel
  have Htk := hidden htk
  have Hmod3 := hidden hmod
  have hpa := hmod.heapF Hpa.out
  have hpb := hmod.heapF Hpb.out
  have ca1 := cell_lit hpa (j := 5) rfl
  have ca2 := cell_lit hpa (j := 6) rfl
  have cb0 := cell_lit hpb (j := 0) rfl
  have cb1 := cell_lit hpb (j := 1) rfl
  have cb2 := cell_lit hpb (j := 2) rfl
  have cb3 := cell_lit hpb (j := 3) rfl
  have cb4 := cell_lit hpb (j := 4) rfl
  clear htk hpa hpb hmod
  by_cases hlt : k < n3
  case pos =>
    have hkx : k < c.world.outputs.length := by rw [Hn3.out]; exact hlt
    obtain ⟨x, hx⟩ : ∃ x, c.world.outputs[k]? = some x := ⟨_, List.getElem?_eq_getElem hkx⟩
    have hrx := Hx3.out _ (Hm0.out.trans Hmod3.out)
    rw [← Hn3.out] at hrx
    obtain ⟨bx, offx, hA, _, hbx, hrx⟩ := cSl_at hrx (by intro q; rw [q] at hkx; simp at hkx)
    obtain ⟨cs, hcx', hcx⟩ := hrx.get k x hx
    have hknz : (k : Int) < n3 := by omega
    have h0k : (0 : Int) ≤ k := by omega
    have Hst := hidden (all_step (ok := okOut) hx)
    have Hno := hidden (all_not (ok := okOut) hx)
    subst hA
    obtain ⟨rfl, hox⟩ := cOut_iff.1 hcx'
    have cx0 := hcx 0 (by decide)
    have cx1 := hcx 1 (by decide)
    simp only [show cOut.size = 2 from rfl, Nat.add_zero, List.getElem?_cons_zero, List.getElem?_cons_succ] at cx0 cx1
    clear hrx hcx hx hcx' 
    by_cases g0 : x.command.size ≤ 12
    case neg =>
      have hb : decide ((12 : Int) < (x.command.size : Int)) = true := decide_eq_true (by omega)
      have Hq : Hid (okOut x = false) := hidden (by cases hq : okOut x with | false => rfl | true => (simp only [okOut, okText, Bool.and_eq_true, decide_eq_true_eq] at hq; omega))
      have Hbad : Hid (okCase c = false) := hidden (by unfold okCase okMany; rw [show c.world.outputs.all okOut = false from Hno.out Hq.out]; simp only [Bool.and_false, Bool.false_and])
      clear g0
      go_wp2_with fail
      go_ret
      exact ⟨by rw [Hbad.out]; rfl, Hm0.out.trans (Hmod3.out.alloc _)⟩
    have t0 : decide ((12 : Int) < (x.command.size : Int)) = false := decide_eq_false (by omega)
    have G0 := hidden g0
    clear g0
    by_cases g1 : x.text.size ≤ 60
    case neg =>
      have hb : decide ((60 : Int) < (x.text.size : Int)) = true := decide_eq_true (by omega)
      have Hq : Hid (okOut x = false) := hidden (by cases hq : okOut x with | false => rfl | true => (simp only [okOut, okText, Bool.and_eq_true, decide_eq_true_eq] at hq; omega))
      have Hbad : Hid (okCase c = false) := hidden (by unfold okCase okMany; rw [show c.world.outputs.all okOut = false from Hno.out Hq.out]; simp only [Bool.and_false, Bool.false_and])
      clear g1
      go_wp2_with fail
      go_ret
      exact ⟨by rw [Hbad.out]; rfl, Hm0.out.trans (Hmod3.out.alloc _)⟩
    have t1 : decide ((60 : Int) < (x.text.size : Int)) = false := decide_eq_false (by omega)
    have G1 := hidden g1
    clear g1
    have Hok : Hid (okOut x = true) := hidden (by have q0 := G0.out; have q1 := G1.out; simp only [okOut, okText, Bool.and_eq_true, decide_eq_true_eq]; omega)
    go_wp2_with fail
    go_roundw
    case rel => exact ⟨k + 1, by omega, by go_num, by rw [Hst.out, Htk.out, Hok.out]; rfl, Hmod3.out.alloc _⟩
    case measure => simp [intOf]; omega
  obtain rfl : k = n3 := by omega
  have Hall3 := hidden (all_full Hn3.out.symm Htk.out)
  have hkn : ¬ (k : Int) < k := by omega
  go_wp2_with fail
  clear hkn ca1 ca2 cb0 cb1 cb2 cb3 cb4 Htk
  go_loopw [135] (fun i wr => ∃ k : Nat, k ≤ n4 ∧ i = .int .i64 k ∧ (c.world.outcomes.take k).all okOutc = true ∧ Mod (fun _ => False) w2 wr) (fun i _ => n4 - (intOf i).toNat)
  case atStart => exact ⟨0, Nat.zero_le _, rfl, rfl, Hmod3.out⟩
  obtain ⟨k, hk, rfl, htk, hmod⟩ := hrel
  have Htk := hidden htk
  have Hmod4 := hidden hmod
  have hpa := hmod.heapF Hpa.out
  have hpb := hmod.heapF Hpb.out
  have ca1 := cell_lit hpa (j := 5) rfl
  have ca2 := cell_lit hpa (j := 6) rfl
  have cb0 := cell_lit hpb (j := 0) rfl
  have cb1 := cell_lit hpb (j := 1) rfl
  have cb2 := cell_lit hpb (j := 2) rfl
  have cb3 := cell_lit hpb (j := 3) rfl
  have cb4 := cell_lit hpb (j := 4) rfl
  clear htk hpa hpb hmod
  by_cases hlt : k < n4
  case pos =>
    have hkx : k < c.world.outcomes.length := by rw [Hn4.out]; exact hlt
    obtain ⟨x, hx⟩ : ∃ x, c.world.outcomes[k]? = some x := ⟨_, List.getElem?_eq_getElem hkx⟩
    have hrx := Hx4.out _ (Hm0.out.trans Hmod4.out)
    rw [← Hn4.out] at hrx
    obtain ⟨bx, offx, hA, _, hbx, hrx⟩ := cSl_at hrx (by intro q; rw [q] at hkx; simp at hkx)
    obtain ⟨cs, hcx', hcx⟩ := hrx.get k x hx
    have hknz : (k : Int) < n4 := by omega
    have h0k : (0 : Int) ≤ k := by omega
    have Hst := hidden (all_step (ok := okOutc) hx)
    have Hno := hidden (all_not (ok := okOutc) hx)
    subst hA
    obtain ⟨A', n', cap', rfl, hn', hox, hox2, hex⟩ := cOutc_iff.1 hcx'
    have Hl := hidden hn'
    have Hex := hidden hex
    clear hn' hex
    have cx0 := hcx 0 (by decide)
    have cx1 := hcx 1 (by decide)
    have cx2 := hcx 2 (by decide)
    simp only [show cOutc.size = 3 from rfl, Nat.add_zero, List.getElem?_cons_zero, List.getElem?_cons_succ] at cx0 cx1 cx2
    clear hrx hcx hx hcx' 
    by_cases g0 : x.target.size ≤ 12
    case neg =>
      have hb : decide ((12 : Int) < (x.target.size : Int)) = true := decide_eq_true (by omega)
      have Hq : Hid (okOutc x = false) := hidden (by cases hq : okOutc x with | false => rfl | true => (simp only [okOutc, okText, okNum, okMany, Bool.and_eq_true, decide_eq_true_eq] at hq; omega))
      have Hbad : Hid (okCase c = false) := hidden (by unfold okCase okMany; rw [show c.world.outcomes.all okOutc = false from Hno.out Hq.out]; simp only [Bool.and_false, Bool.false_and])
      clear g0
      go_wp2_with fail
      go_ret
      exact ⟨by rw [Hbad.out]; rfl, Hm0.out.trans (Hmod4.out.alloc _)⟩
    have t0 : decide ((12 : Int) < (x.target.size : Int)) = false := decide_eq_false (by omega)
    have G0 := hidden g0
    clear g0
    by_cases g1 : 0 ≤ x.exit
    case neg =>
      have hb : decide (x.exit < 0) = true := decide_eq_true (by omega)
      have Hq : Hid (okOutc x = false) := hidden (by cases hq : okOutc x with | false => rfl | true => (simp only [okOutc, okText, okNum, okMany, Bool.and_eq_true, decide_eq_true_eq] at hq; omega))
      have Hbad : Hid (okCase c = false) := hidden (by unfold okCase okMany; rw [show c.world.outcomes.all okOutc = false from Hno.out Hq.out]; simp only [Bool.and_false, Bool.false_and])
      clear g1
      go_wp2_with fail
      go_ret
      exact ⟨by rw [Hbad.out]; rfl, Hm0.out.trans (Hmod4.out.alloc _)⟩
    have t1 : decide (x.exit < 0) = false := decide_eq_false (by omega)
    have G1 := hidden g1
    clear g1
    by_cases g2 : x.exit ≤ 3
    case neg =>
      have hb : decide (3 < x.exit) = true := decide_eq_true (by omega)
      have Hq : Hid (okOutc x = false) := hidden (by cases hq : okOutc x with | false => rfl | true => (simp only [okOutc, okText, okNum, okMany, Bool.and_eq_true, decide_eq_true_eq] at hq; omega))
      have Hbad : Hid (okCase c = false) := hidden (by unfold okCase okMany; rw [show c.world.outcomes.all okOutc = false from Hno.out Hq.out]; simp only [Bool.and_false, Bool.false_and])
      clear g2
      go_wp2_with fail
      go_ret
      exact ⟨by rw [Hbad.out]; rfl, Hm0.out.trans (Hmod4.out.alloc _)⟩
    have t2 : decide (3 < x.exit) = false := decide_eq_false (by omega)
    have G2 := hidden g2
    clear g2
    by_cases g6 : n' ≤ 2
    case neg =>
      have hb : decide ((2 : Int) < (n' : Int)) = true := decide_eq_true (by omega)
      have Hq : Hid (okOutc x = false) := hidden (by unfold okOutc okMany; rw [show decide (x.effects.length ≤ 2) = false from decide_eq_false (by rw [← Hl.out]; exact g6)]; simp only [Bool.and_false, Bool.false_and])
      have Hbad : Hid (okCase c = false) := hidden (by unfold okCase okMany; rw [show c.world.outcomes.all okOutc = false from Hno.out Hq.out]; simp only [Bool.and_false, Bool.false_and])
      clear g6
      go_wp2_with fail
      go_ret
      exact ⟨by rw [Hbad.out]; rfl, Hm0.out.trans (Hmod4.out.alloc _)⟩
    have t6 : decide ((2 : Int) < (n' : Int)) = false := decide_eq_false (by omega)
    have G6 := hidden g6
    have hnb : n' ≤ 1000000 := by omega
    clear g6
    go_upto_region 27 with fail
    have hqa : (World.heap (wr.alloc (.cells #[.string x.target, .int .i64 x.exit, .slice A' n' cap'] 77)))[wr.heap.size]? = some (.cells #[.string x.target, .int .i64 x.exit, .slice A' n' cap'] 77 (0, 0)) := heap_alloc_new _ _
    have hqm : Mod (fun _ => False) wr (wr.alloc (.cells #[.string x.target, .int .i64 x.exit, .slice A' n' cap'] 77)) := (Mod.refl _ _).alloc _
    generalize wr.alloc (.cells #[.string x.target, .int .i64 x.exit, .slice A' n' cap'] 77) = W1 at *
    have Hqm := hidden (Hmod4.out.trans hqm)
    have Hq1 := hidden hqm
    have da2 := cell_lit hqa (j := 2) rfl
    clear hqa hqm ca1 ca2 cb0 cb1 cb2 cb3 cb4 t0 t1 t2 t6
    go_wp2_with fail
    clear da2
    go_loopw [162] (fun i wq => ∃ q : Nat, q ≤ n' ∧ i = .int .i64 q ∧ (x.effects.take q).all okEff = true ∧ Mod (fun _ => False) W1 wq) (fun i _ => n' - (intOf i).toNat)
    case atStart => exact ⟨0, Nat.zero_le _, rfl, rfl, Mod.refl _ _⟩
    obtain ⟨q, hq, rfl, htq, hmq⟩ := hrel
    have Htq := hidden htq
    have Hmq := hidden hmq
    clear htq hmq
    by_cases hlq : q < n'
    case pos =>
      have hkx : q < x.effects.length := by rw [← Hl.out]; exact hlq
      obtain ⟨e, he⟩ : ∃ e, x.effects[q]? = some e := ⟨_, List.getElem?_eq_getElem hkx⟩
      have hrx := (cSl cEff).mod Hex.out (Hq1.out.trans Hmq.out) fun _ _ _ q => q
      rw [Hl.out] at hrx
      obtain ⟨ex, oex, hA', _, hbe, hrx⟩ := cSl_at hrx (by intro q; rw [q] at hkx; simp at hkx)
      obtain ⟨cs, hcx', hcx⟩ := hrx.get q e he
      have hknz : (q : Int) < n' := by omega
      have h0k : (0 : Int) ≤ q := by omega
      have Hst2 := hidden (all_step (ok := okEff) he)
      have Hno2 := hidden (all_not (ok := okEff) he)
      subst hA'
      obtain ⟨rfl, hoe⟩ := cEff_iff.1 hcx'
      have ey0 := hcx 0 (by decide)
      have ey1 := hcx 1 (by decide)
      have ey2 := hcx 2 (by decide)
      simp only [show cEff.size = 3 from rfl, Nat.add_zero, List.getElem?_cons_zero, List.getElem?_cons_succ] at ey0 ey1 ey2
      clear hrx hcx he hcx' 
      by_cases g0 : 1 ≤ e.op
      case neg =>
        have hb : decide (e.op < 1) = true := decide_eq_true (by omega)
        have Hq : Hid (okEff e = false) := hidden (by cases hq : okEff e with | false => rfl | true => (simp only [okEff, okText, okNum, Bool.and_eq_true, decide_eq_true_eq] at hq; omega))
        have Hbad : Hid (okCase c = false) := hidden (by unfold okCase okMany; rw [show c.world.outcomes.all okOutc = false from Hno.out (by unfold okOutc okMany; rw [show x.effects.all okEff = false from Hno2.out Hq.out]; simp only [Bool.and_false])]; simp only [Bool.and_false, Bool.false_and])
        clear g0
        go_wp2_with fail
        go_ret
        exact ⟨by rw [Hbad.out]; rfl, Hm0.out.trans (Hqm.out.trans (Hmq.out.alloc _))⟩
      have t0 : decide (e.op < 1) = false := decide_eq_false (by omega)
      have P0 := hidden g0
      clear g0
      by_cases g1 : e.op ≤ 3
      case neg =>
        have hb : decide (3 < e.op) = true := decide_eq_true (by omega)
        have Hq : Hid (okEff e = false) := hidden (by cases hq : okEff e with | false => rfl | true => (simp only [okEff, okText, okNum, Bool.and_eq_true, decide_eq_true_eq] at hq; omega))
        have Hbad : Hid (okCase c = false) := hidden (by unfold okCase okMany; rw [show c.world.outcomes.all okOutc = false from Hno.out (by unfold okOutc okMany; rw [show x.effects.all okEff = false from Hno2.out Hq.out]; simp only [Bool.and_false])]; simp only [Bool.and_false, Bool.false_and])
        clear g1
        go_wp2_with fail
        go_ret
        exact ⟨by rw [Hbad.out]; rfl, Hm0.out.trans (Hqm.out.trans (Hmq.out.alloc _))⟩
      have t1 : decide (3 < e.op) = false := decide_eq_false (by omega)
      have P1 := hidden g1
      clear g1
      by_cases g2 : e.name.size ≤ 12
      case neg =>
        have hb : decide ((12 : Int) < (e.name.size : Int)) = true := decide_eq_true (by omega)
        have Hq : Hid (okEff e = false) := hidden (by cases hq : okEff e with | false => rfl | true => (simp only [okEff, okText, okNum, Bool.and_eq_true, decide_eq_true_eq] at hq; omega))
        have Hbad : Hid (okCase c = false) := hidden (by unfold okCase okMany; rw [show c.world.outcomes.all okOutc = false from Hno.out (by unfold okOutc okMany; rw [show x.effects.all okEff = false from Hno2.out Hq.out]; simp only [Bool.and_false])]; simp only [Bool.and_false, Bool.false_and])
        clear g2
        go_wp2_with fail
        go_ret
        exact ⟨by rw [Hbad.out]; rfl, Hm0.out.trans (Hqm.out.trans (Hmq.out.alloc _))⟩
      have t2 : decide ((12 : Int) < (e.name.size : Int)) = false := decide_eq_false (by omega)
      have P2 := hidden g2
      clear g2
      by_cases g3 : e.text.size ≤ 12
      case neg =>
        have hb : decide ((12 : Int) < (e.text.size : Int)) = true := decide_eq_true (by omega)
        have Hq : Hid (okEff e = false) := hidden (by cases hq : okEff e with | false => rfl | true => (simp only [okEff, okText, okNum, Bool.and_eq_true, decide_eq_true_eq] at hq; omega))
        have Hbad : Hid (okCase c = false) := hidden (by unfold okCase okMany; rw [show c.world.outcomes.all okOutc = false from Hno.out (by unfold okOutc okMany; rw [show x.effects.all okEff = false from Hno2.out Hq.out]; simp only [Bool.and_false])]; simp only [Bool.and_false, Bool.false_and])
        clear g3
        go_wp2_with fail
        go_ret
        exact ⟨by rw [Hbad.out]; rfl, Hm0.out.trans (Hqm.out.trans (Hmq.out.alloc _))⟩
      have t3 : decide ((12 : Int) < (e.text.size : Int)) = false := decide_eq_false (by omega)
      have P3 := hidden g3
      clear g3
      have Hok : Hid (okEff e = true) := hidden (by have q0 := P0.out; have q1 := P1.out; have q2 := P2.out; have q3 := P3.out; simp only [okEff, okText, okNum, Bool.and_eq_true, decide_eq_true_eq]; omega)
      go_wp2_with fail
      go_roundw
      case rel => exact ⟨q + 1, by omega, by go_num, by rw [Hst2.out, Htq.out, Hok.out]; rfl, Hmq.out.alloc _⟩
      case measure => simp [intOf]; omega
    obtain rfl : q = n' := by omega
    have Halle := hidden (all_full Hl.out Htq.out)
    have Hok : Hid (okOutc x = true) := hidden (by
      unfold okOutc okMany
      rw [Halle.out, show decide (x.effects.length ≤ 2) = true from decide_eq_true (by rw [← Hl.out]; exact G6.out)]
      have q0 := G0.out; have q1 := G1.out; have q2 := G2.out
      simp only [okText, okNum, Bool.and_eq_true, decide_eq_true_eq, Bool.and_true]; omega)
    have hkn' : ¬ (q : Int) < q := by omega
    go_wp2_with fail
    go_roundw
    case rel => exact ⟨k + 1, by omega, by go_num, by rw [Hst.out, Htk.out, Hok.out]; rfl, Hqm.out.trans Hmq.out⟩
    case measure => simp [intOf]; omega
  obtain rfl : k = n4 := by omega
  have Hall4 := hidden (all_full Hn4.out.symm Htk.out)
  have hkn : ¬ (k : Int) < k := by omega
  go_wp2_with fail
  clear hkn ca1 ca2 cb0 cb1 cb2 cb3 cb4 Htk
  go_loopw [191] (fun i wr => ∃ k : Nat, k ≤ n5 ∧ i = .int .i64 k ∧ (c.world.verdicts.take k).all okVer = true ∧ Mod (fun _ => False) w2 wr) (fun i _ => n5 - (intOf i).toNat)
  case atStart => exact ⟨0, Nat.zero_le _, rfl, rfl, Hmod4.out⟩
  obtain ⟨k, hk, rfl, htk, hmod⟩ := hrel
  have Htk := hidden htk
  have Hmod5 := hidden hmod
  have hpa := hmod.heapF Hpa.out
  have hpb := hmod.heapF Hpb.out
  have ca1 := cell_lit hpa (j := 5) rfl
  have ca2 := cell_lit hpa (j := 6) rfl
  have cb0 := cell_lit hpb (j := 0) rfl
  have cb1 := cell_lit hpb (j := 1) rfl
  have cb2 := cell_lit hpb (j := 2) rfl
  have cb3 := cell_lit hpb (j := 3) rfl
  have cb4 := cell_lit hpb (j := 4) rfl
  clear htk hpa hpb hmod
  by_cases hlt : k < n5
  case pos =>
    have hkx : k < c.world.verdicts.length := by rw [Hn5.out]; exact hlt
    obtain ⟨x, hx⟩ : ∃ x, c.world.verdicts[k]? = some x := ⟨_, List.getElem?_eq_getElem hkx⟩
    have hrx := Hx5.out _ (Hm0.out.trans Hmod5.out)
    rw [← Hn5.out] at hrx
    obtain ⟨bx, offx, hA, _, hbx, hrx⟩ := cSl_at hrx (by intro q; rw [q] at hkx; simp at hkx)
    obtain ⟨cs, hcx', hcx⟩ := hrx.get k x hx
    have hknz : (k : Int) < n5 := by omega
    have h0k : (0 : Int) ≤ k := by omega
    have Hst := hidden (all_step (ok := okVer) hx)
    have Hno := hidden (all_not (ok := okVer) hx)
    subst hA
    obtain ⟨rfl, hox⟩ := cVer_iff.1 hcx'
    have cx0 := hcx 0 (by decide)
    have cx1 := hcx 1 (by decide)
    have cx2 := hcx 2 (by decide)
    have cx3 := hcx 3 (by decide)
    simp only [show cVer.size = 4 from rfl, Nat.add_zero, List.getElem?_cons_zero, List.getElem?_cons_succ] at cx0 cx1 cx2 cx3
    clear hrx hcx hx hcx' 
    by_cases g0 : x.prog.size ≤ 6
    case neg =>
      have hb : decide ((6 : Int) < (x.prog.size : Int)) = true := decide_eq_true (by omega)
      have Hq : Hid (okVer x = false) := hidden (by cases hq : okVer x with | false => rfl | true => (simp only [okVer, okText, Bool.and_eq_true, decide_eq_true_eq] at hq; omega))
      have Hbad : Hid (okCase c = false) := hidden (by unfold okCase okMany; rw [show c.world.verdicts.all okVer = false from Hno.out Hq.out]; simp only [Bool.and_false, Bool.false_and])
      clear g0
      go_wp2_with fail
      go_ret
      exact ⟨by rw [Hbad.out]; rfl, Hm0.out.trans (Hmod5.out.alloc _)⟩
    have t0 : decide ((6 : Int) < (x.prog.size : Int)) = false := decide_eq_false (by omega)
    have G0 := hidden g0
    clear g0
    by_cases g1 : x.target.size ≤ 12
    case neg =>
      have hb : decide ((12 : Int) < (x.target.size : Int)) = true := decide_eq_true (by omega)
      have Hq : Hid (okVer x = false) := hidden (by cases hq : okVer x with | false => rfl | true => (simp only [okVer, okText, Bool.and_eq_true, decide_eq_true_eq] at hq; omega))
      have Hbad : Hid (okCase c = false) := hidden (by unfold okCase okMany; rw [show c.world.verdicts.all okVer = false from Hno.out Hq.out]; simp only [Bool.and_false, Bool.false_and])
      clear g1
      go_wp2_with fail
      go_ret
      exact ⟨by rw [Hbad.out]; rfl, Hm0.out.trans (Hmod5.out.alloc _)⟩
    have t1 : decide ((12 : Int) < (x.target.size : Int)) = false := decide_eq_false (by omega)
    have G1 := hidden g1
    clear g1
    by_cases g2 : x.prereq.size ≤ 12
    case neg =>
      have hb : decide ((12 : Int) < (x.prereq.size : Int)) = true := decide_eq_true (by omega)
      have Hq : Hid (okVer x = false) := hidden (by cases hq : okVer x with | false => rfl | true => (simp only [okVer, okText, Bool.and_eq_true, decide_eq_true_eq] at hq; omega))
      have Hbad : Hid (okCase c = false) := hidden (by unfold okCase okMany; rw [show c.world.verdicts.all okVer = false from Hno.out Hq.out]; simp only [Bool.and_false, Bool.false_and])
      clear g2
      go_wp2_with fail
      go_ret
      exact ⟨by rw [Hbad.out]; rfl, Hm0.out.trans (Hmod5.out.alloc _)⟩
    have t2 : decide ((12 : Int) < (x.prereq.size : Int)) = false := decide_eq_false (by omega)
    have G2 := hidden g2
    clear g2
    have Hok : Hid (okVer x = true) := hidden (by have q0 := G0.out; have q1 := G1.out; have q2 := G2.out; simp only [okVer, okText, Bool.and_eq_true, decide_eq_true_eq]; omega)
    go_wp2_with fail
    go_roundw
    case rel => exact ⟨k + 1, by omega, by go_num, by rw [Hst.out, Htk.out, Hok.out]; rfl, Hmod5.out.alloc _⟩
    case measure => simp [intOf]; omega
  obtain rfl : k = n5 := by omega
  have Hall5 := hidden (all_full Hn5.out.symm Htk.out)
  have hkn : ¬ (k : Int) < k := by omega
  go_wp2_with fail
  clear hkn ca1 ca2 cb0 cb1 cb2 cb3 cb4 Htk
  go_loopw [215] (fun i wr => ∃ k : Nat, k ≤ n7 ∧ i = .int .i64 k ∧ (c.picks.take k).all (okNum 256) = true ∧ Mod (fun _ => False) w2 wr) (fun i _ => n7 - (intOf i).toNat)
  case atStart => exact ⟨0, Nat.zero_le _, rfl, rfl, Hmod5.out⟩
  obtain ⟨k, hk, rfl, htk, hmod⟩ := hrel
  have Htk := hidden htk
  have Hmod7 := hidden hmod
  have hpa := hmod.heapF Hpa.out
  have hpb := hmod.heapF Hpb.out
  have ca1 := cell_lit hpa (j := 5) rfl
  have ca2 := cell_lit hpa (j := 6) rfl
  have cb0 := cell_lit hpb (j := 0) rfl
  have cb1 := cell_lit hpb (j := 1) rfl
  have cb2 := cell_lit hpb (j := 2) rfl
  have cb3 := cell_lit hpb (j := 3) rfl
  have cb4 := cell_lit hpb (j := 4) rfl
  clear htk hpa hpb hmod
  by_cases hlt : k < n7
  case pos =>
    have hkx : k < c.picks.length := by rw [Hn7.out]; exact hlt
    obtain ⟨x, hx⟩ : ∃ x, c.picks[k]? = some x := ⟨_, List.getElem?_eq_getElem hkx⟩
    have hrx := Hx7.out _ (Hm0.out.trans Hmod7.out)
    rw [← Hn7.out] at hrx
    obtain ⟨bx, offx, hA, _, hbx, hrx⟩ := cSl_at hrx (by intro q; rw [q] at hkx; simp at hkx)
    obtain ⟨cs, hcx', hcx⟩ := hrx.get k x hx
    have hknz : (k : Int) < n7 := by omega
    have h0k : (0 : Int) ≤ k := by omega
    have Hst := hidden (all_step (ok := (okNum 256)) hx)
    have Hno := hidden (all_not (ok := (okNum 256)) hx)
    subst hA
    obtain ⟨rfl, hox⟩ := hcx'
    have cx0 := hcx 0 (by decide)
    simp only [show cI64.size = 1 from rfl, Nat.add_zero, Nat.mul_one, List.getElem?_cons_zero] at cx0
    clear hrx hcx hx 
    by_cases g0 : 0 ≤ x
    case neg =>
      have hb : decide (x < 0) = true := decide_eq_true (by omega)
      have Hq : Hid ((okNum 256) x = false) := hidden (by cases hq : (okNum 256) x with | false => rfl | true => (simp only [okNum, Bool.and_eq_true, decide_eq_true_eq] at hq; omega))
      have Hbad : Hid (okCase c = false) := hidden (by unfold okCase okMany; rw [show c.picks.all (okNum 256) = false from Hno.out Hq.out]; simp only [Bool.and_false])
      clear g0
      go_wp2_with fail
      go_ret
      exact ⟨by rw [Hbad.out]; rfl, Hm0.out.trans (Hmod7.out)⟩
    have t0 : decide (x < 0) = false := decide_eq_false (by omega)
    have G0 := hidden g0
    clear g0
    by_cases g1 : x ≤ 255
    case neg =>
      have hb : decide (255 < x) = true := decide_eq_true (by omega)
      have Hq : Hid ((okNum 256) x = false) := hidden (by cases hq : (okNum 256) x with | false => rfl | true => (simp only [okNum, Bool.and_eq_true, decide_eq_true_eq] at hq; omega))
      have Hbad : Hid (okCase c = false) := hidden (by unfold okCase okMany; rw [show c.picks.all (okNum 256) = false from Hno.out Hq.out]; simp only [Bool.and_false])
      clear g1
      go_wp2_with fail
      go_ret
      exact ⟨by rw [Hbad.out]; rfl, Hm0.out.trans (Hmod7.out)⟩
    have t1 : decide (255 < x) = false := decide_eq_false (by omega)
    have G1 := hidden g1
    clear g1
    have Hok : Hid ((okNum 256) x = true) := hidden (by have q0 := G0.out; have q1 := G1.out; simp only [okNum, Bool.and_eq_true, decide_eq_true_eq]; omega)
    go_wp2_with fail
    go_roundw
    case rel => exact ⟨k + 1, by omega, by go_num, by rw [Hst.out, Htk.out, Hok.out]; rfl, Hmod7.out⟩
    case measure => simp [intOf]; omega
  obtain rfl : k = n7 := by omega
  have Hall7 := hidden (all_full Hn7.out.symm Htk.out)
  have hkn : ¬ (k : Int) < k := by omega
  go_wp2_with fail
  go_ret
  exact ⟨by unfold okCase; rw [Hg6.out]; unfold okMany; rw [Hg1.out, Hg2.out, Hg3.out, Hg4.out, Hg5.out, Hg7.out, Hall1.out, Hall2.out, Hall3.out, Hall4.out, Hall5.out, Hall7.out]; rfl, Hm0.out.trans Hmod7.out⟩
end Go.Proofs.YthgibbekfcenhaaGreatDoor
