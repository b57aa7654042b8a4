/- The walk of the document's comparison of worlds. -/
import Derived.Test.YthgibbekfcenhaaGreatDoorEqs
namespace Go.Proofs.YthgibbekfcenhaaGreatDoor
open Go.RowKit

theorem world_ne {a b : PWorld} (h : a.files ≠ b.files ∨ a.vars ≠ b.vars ∨ a.outputs ≠ b.outputs ∨ a.outcomes ≠ b.outcomes ∨ a.verdicts ≠ b.verdicts) : decide (a = b) = false := by
  refine decide_eq_false ?_
  rintro rfl
  simp at h
theorem len_ne {α : Type} {xs ys : List α} {n m : Nat} (hn : xs.length = n) (hm : ys.length = m) (h : ¬ n = m) : xs ≠ ys := by
  rintro rfl
  exact h (hn.symm.trans hm)
theorem bne_of_ne {n m : Nat} (h : ¬ n = m) : ((n : Int) != (m : Int)) = true := by
  rw [bne_iff_ne]; omega
theorem take_all {α : Type} {xs ys : List α} {n : Nat} (hn : xs.length = n) (hm : ys.length = n) (h : xs.take n = ys.take n) : xs = ys := by
  rwa [List.take_of_length_le (by omega), List.take_of_length_le (by omega)] at h

theorem mod_cell {w w' : World} (hm : Mod (fun _ => False) w w') {b o : Nat} {v : Value} (h : w.cell? ⟨b, o, none⟩ = some v) : w'.cell? ⟨b, o, none⟩ = some v := by
  have hb : b < w.heap.size := by
    rcases Nat.lt_or_ge b w.heap.size with q | q
    · exact q
    · simp [World.cell?, Array.getElem?_eq_none q] at h
  rw [World.cell?_of_block (w := w) (hm.block b hb fun q => q)]
  exact h

set_option maxRecDepth 10000 in
set_option maxHeartbeats 4000000 in
theorem sameWorld_calls (w : World) (F G : Fp) (c d : PWorld) (a1 a2 a3 a4 a5 b1 b2 b3 b4 b5 : Value) (h : cWorld.rd w F [a1, a2, a3, a4, a5] c) (h' : cWorld.rd w G [b1, b2, b3, b4, b5] d) (hs : SmallW c) (hwd : ∀ v ∈ c.vars, v.words.length ≤ 1000000) :
    Calls Tryz.prog 25 #[.agg #[a1, a2, a3, a4, a5], .agg #[b1, b2, b3, b4, b5]] w (BoolPost (decide (c = d)) w) := by
  obtain ⟨A1, k1, A2, k2, A3, k3, A4, k4, A5, k5, he, hx1, hx2, hx3, hx4, hx5⟩ := world_cells h
  simp only [List.cons.injEq, and_true] at he
  obtain ⟨rfl, rfl, rfl, rfl, rfl⟩ := he
  obtain ⟨B1, l1, B2, l2, B3, l3, B4, l4, B5, l5, he, hy1, hy2, hy3, hy4, hy5⟩ := world_cells h'
  simp only [List.cons.injEq, and_true] at he
  obtain ⟨rfl, rfl, rfl, rfl, rfl⟩ := he
  have Hs := hidden hs
  have Hwd := hidden hwd
  have bs1 := hs.files
  have bs2 := hs.vars
  have bs3 := hs.outputs
  have bs4 := hs.outcomes
  have bs5 := hs.verdicts
  have Hx1 : Hid (∀ W, Mod (fun _ => False) w W → (cSl cFile).rd W F [.slice A1 c.files.length k1] c.files) := hidden fun W hW => (cSl cFile).mod hx1 hW fun _ _ _ q => q
  have Hy1 : Hid (∀ W, Mod (fun _ => False) w W → (cSl cFile).rd W G [.slice B1 d.files.length l1] d.files) := hidden fun W hW => (cSl cFile).mod hy1 hW fun _ _ _ q => q
  have Hx2 : Hid (∀ W, Mod (fun _ => False) w W → (cSl cVar).rd W F [.slice A2 c.vars.length k2] c.vars) := hidden fun W hW => (cSl cVar).mod hx2 hW fun _ _ _ q => q
  have Hy2 : Hid (∀ W, Mod (fun _ => False) w W → (cSl cVar).rd W G [.slice B2 d.vars.length l2] d.vars) := hidden fun W hW => (cSl cVar).mod hy2 hW fun _ _ _ q => q
  have Hx3 : Hid (∀ W, Mod (fun _ => False) w W → (cSl cOut).rd W F [.slice A3 c.outputs.length k3] c.outputs) := hidden fun W hW => (cSl cOut).mod hx3 hW fun _ _ _ q => q
  have Hy3 : Hid (∀ W, Mod (fun _ => False) w W → (cSl cOut).rd W G [.slice B3 d.outputs.length l3] d.outputs) := hidden fun W hW => (cSl cOut).mod hy3 hW fun _ _ _ q => q
  have Hx4 : Hid (∀ W, Mod (fun _ => False) w W → (cSl cOutc).rd W F [.slice A4 c.outcomes.length k4] c.outcomes) := hidden fun W hW => (cSl cOutc).mod hx4 hW fun _ _ _ q => q
  have Hy4 : Hid (∀ W, Mod (fun _ => False) w W → (cSl cOutc).rd W G [.slice B4 d.outcomes.length l4] d.outcomes) := hidden fun W hW => (cSl cOutc).mod hy4 hW fun _ _ _ q => q
  have Hx5 : Hid (∀ W, Mod (fun _ => False) w W → (cSl cVer).rd W F [.slice A5 c.verdicts.length k5] c.verdicts) := hidden fun W hW => (cSl cVer).mod hx5 hW fun _ _ _ q => q
  have Hy5 : Hid (∀ W, Mod (fun _ => False) w W → (cSl cVer).rd W G [.slice B5 d.verdicts.length l5] d.verdicts) := hidden fun W hW => (cSl cVer).mod hy5 hW fun _ _ _ q => q
  clear h h' hs hwd hx1 hy1 hx2 hy2 hx3 hy3 hx4 hy4 hx5 hy5
  generalize hn1 : c.files.length = n1 at *
  generalize hm1 : d.files.length = m1 at *
  have Hn1 := hidden hn1
  have Hm1 := hidden hm1
  clear hn1 hm1
  generalize hn2 : c.vars.length = n2 at *
  generalize hm2 : d.vars.length = m2 at *
  have Hn2 := hidden hn2
  have Hm2 := hidden hm2
  clear hn2 hm2
  generalize hn3 : c.outputs.length = n3 at *
  generalize hm3 : d.outputs.length = m3 at *
  have Hn3 := hidden hn3
  have Hm3 := hidden hm3
  clear hn3 hm3
  generalize hn4 : c.outcomes.length = n4 at *
  generalize hm4 : d.outcomes.length = m4 at *
  have Hn4 := hidden hn4
  have Hm4 := hidden hm4
  clear hn4 hm4
  generalize hn5 : c.verdicts.length = n5 at *
  generalize hm5 : d.verdicts.length = m5 at *
  have Hn5 := hidden hn5
  have Hm5 := hidden hm5
  clear hn5 hm5
  have Hma : Hid (∀ o o', Mod (fun _ => False) w ((w.alloc o).alloc o')) := hidden fun o o' => ((Mod.refl _ _).alloc _).alloc _
  by_cases he1 : n1 = m1
  case neg =>
    have Hne := hidden (world_ne (a := c) (b := d) (.inl (len_ne Hn1.out Hm1.out he1)))
    have hb := bne_of_ne he1
    clear he1
    go_enter Tryz.func25, Tryz.ntmps25
    go_wp2_with fail
    go_ret
    exact ⟨by rw [Hne.out]; rfl, Hma.out _ _⟩
  subst he1
  by_cases he2 : n2 = m2
  case neg =>
    have Hne := hidden (world_ne (a := c) (b := d) (.inr (.inl (len_ne Hn2.out Hm2.out he2))))
    have hb := bne_of_ne he2
    clear he2
    go_enter Tryz.func25, Tryz.ntmps25
    go_wp2_with fail
    go_ret
    exact ⟨by rw [Hne.out]; rfl, Hma.out _ _⟩
  subst he2
  by_cases he3 : n3 = m3
  case neg =>
    have Hne := hidden (world_ne (a := c) (b := d) (.inr (.inr (.inl (len_ne Hn3.out Hm3.out he3)))))
    have hb := bne_of_ne he3
    clear he3
    go_enter Tryz.func25, Tryz.ntmps25
    go_wp2_with fail
    go_ret
    exact ⟨by rw [Hne.out]; rfl, Hma.out _ _⟩
  subst he3
  by_cases he4 : n4 = m4
  case neg =>
    have Hne := hidden (world_ne (a := c) (b := d) (.inr (.inr (.inr (.inl (len_ne Hn4.out Hm4.out he4))))))
    have hb := bne_of_ne he4
    clear he4
    go_enter Tryz.func25, Tryz.ntmps25
    go_wp2_with fail
    go_ret
    exact ⟨by rw [Hne.out]; rfl, Hma.out _ _⟩
  subst he4
  by_cases he5 : n5 = m5
  case neg =>
    have Hne := hidden (world_ne (a := c) (b := d) (.inr (.inr (.inr (.inr ((len_ne Hn5.out Hm5.out he5)))))))
    have hb := bne_of_ne he5
    clear he5
    go_enter Tryz.func25, Tryz.ntmps25
    go_wp2_with fail
    go_ret
    exact ⟨by rw [Hne.out]; rfl, Hma.out _ _⟩
  subst he5
  go_enter Tryz.func25, Tryz.ntmps25
  go_upto_region 1 with fail
  have hpa : (World.heap ((w.alloc (.cells #[.slice A1 n1 k1, .slice A2 n2 k2, .slice A3 n3 k3, .slice A4 n4 k4, .slice A5 n5 k5] 41)).alloc (.cells #[.slice B1 n1 l1, .slice B2 n2 l2, .slice B3 n3 l3, .slice B4 n4 l4, .slice B5 n5 l5] 41)))[w.heap.size]? = some (.cells #[.slice A1 n1 k1, .slice A2 n2 k2, .slice A3 n3 k3, .slice A4 n4 k4, .slice A5 n5 k5] 41 (0, 0)) := hmx (heap_alloc_new _ _) _
  have hpb : (World.heap ((w.alloc (.cells #[.slice A1 n1 k1, .slice A2 n2 k2, .slice A3 n3 k3, .slice A4 n4 k4, .slice A5 n5 k5] 41)).alloc (.cells #[.slice B1 n1 l1, .slice B2 n2 l2, .slice B3 n3 l3, .slice B4 n4 l4, .slice B5 n5 l5] 41)))[w.heap.size + 1]? = some (.cells #[.slice B1 n1 l1, .slice B2 n2 l2, .slice B3 n3 l3, .slice B4 n4 l4, .slice B5 n5 l5] 41 (0, 0)) := by
    have := heap_alloc_new (w.alloc (.cells #[.slice A1 n1 k1, .slice A2 n2 k2, .slice A3 n3 k3, .slice A4 n4 k4, .slice A5 n5 k5] 41)) (.cells #[.slice B1 n1 l1, .slice B2 n2 l2, .slice B3 n3 l3, .slice B4 n4 l4, .slice B5 n5 l5] 41)
    rwa [World.size_alloc] at this
  have Hm0 : Hid (Mod (fun _ => False) w ((w.alloc (.cells #[.slice A1 n1 k1, .slice A2 n2 k2, .slice A3 n3 k3, .slice A4 n4 k4, .slice A5 n5 k5] 41)).alloc (.cells #[.slice B1 n1 l1, .slice B2 n2 l2, .slice B3 n3 l3, .slice B4 n4 l4, .slice B5 n5 l5] 41))) := Hma.out _ _
  generalize (w.alloc (.cells #[.slice A1 n1 k1, .slice A2 n2 k2, .slice A3 n3 k3, .slice A4 n4 k4, .slice A5 n5 k5] 41)).alloc (.cells #[.slice B1 n1 l1, .slice B2 n2 l2, .slice B3 n3 l3, .slice B4 n4 l4, .slice B5 n5 l5] 41) = W0 at *
  have Hpa := hidden hpa
  have Hpb := hidden hpb
  have ca0 := cell_lit hpa (j := 0) rfl
  have cb0 := cell_lit hpb (j := 0) rfl
  have ca1 := cell_lit hpa (j := 1) rfl
  have cb1 := cell_lit hpb (j := 1) rfl
  have ca2 := cell_lit hpa (j := 2) rfl
  have cb2 := cell_lit hpb (j := 2) rfl
  have ca3 := cell_lit hpa (j := 3) rfl
  have cb3 := cell_lit hpb (j := 3) rfl
  have ca4 := cell_lit hpa (j := 4) rfl
  have cb4 := cell_lit hpb (j := 4) rfl
  clear hpa hpb
  go_wp2_with fail
  clear ca0 cb0 ca1 cb1 ca2 cb2 ca3 cb3 ca4 cb4
  go_loopw [59] (fun i wr => ∃ k : Nat, k ≤ n1 ∧ i = .int .i64 k ∧ c.files.take k = d.files.take k ∧ Mod (fun _ => False) W0 wr) (fun i _ => n1 - (intOf i).toNat)
  case atStart => exact ⟨0, Nat.zero_le _, rfl, rfl, Mod.refl _ _⟩
  obtain ⟨k, hk, rfl, htk, hmod⟩ := hrel
  have Htk := hidden htk
  have Hmod1 := hidden hmod
  have hpa := hmod.heapF Hpa.out
  have hpb := hmod.heapF Hpb.out
  have ca0 := cell_lit hpa (j := 0) rfl
  have cb0 := cell_lit hpb (j := 0) rfl
  have ca1 := cell_lit hpa (j := 1) rfl
  have cb1 := cell_lit hpb (j := 1) rfl
  have ca2 := cell_lit hpa (j := 2) rfl
  have cb2 := cell_lit hpb (j := 2) rfl
  have ca3 := cell_lit hpa (j := 3) rfl
  have cb3 := cell_lit hpb (j := 3) rfl
  have ca4 := cell_lit hpa (j := 4) rfl
  have cb4 := cell_lit hpb (j := 4) rfl
  clear htk hpa hpb hmod
  by_cases hlt : k < n1
  case pos =>
    have hkx : k < c.files.length := by rw [Hn1.out]; exact hlt
    have hky : k < d.files.length := by rw [Hm1.out]; exact hlt
    obtain ⟨x, hx⟩ : ∃ x, c.files[k]? = some x := ⟨_, List.getElem?_eq_getElem hkx⟩
    obtain ⟨y, hy⟩ : ∃ y, d.files[k]? = some y := ⟨_, List.getElem?_eq_getElem hky⟩
    have hrx := Hx1.out _ (Hm0.out.trans Hmod1.out)
    have hry := Hy1.out _ (Hm0.out.trans Hmod1.out)
    rw [← Hn1.out] at hrx
    rw [← Hm1.out] at hry
    obtain ⟨bx, offx, hA, _, _, hrx⟩ := cSl_at hrx (by intro q; rw [q] at hkx; simp at hkx)
    obtain ⟨bY, offy, hB, _, _, hry⟩ := cSl_at hry (by intro q; rw [q] at hky; simp at hky)
    obtain ⟨cs, hcx', hcx⟩ := hrx.get k x hx
    obtain ⟨ds, hcy', hcy⟩ := hry.get k y hy
    have hknz : (k : Int) < n1 := by omega
    have h0k : (0 : Int) ≤ k := by omega
    have Hst := hidden (take_eq_step hx hy)
    have Hne := hidden (ne_of_step hx hy)
    subst hA hB
    obtain ⟨rfl, hox⟩ := cFile_iff.1 hcx'
    obtain ⟨rfl, hoy⟩ := cFile_iff.1 hcy'
    have hcmp := eqFile x y
    have cx0 := hcx 0 (by decide)
    have cy0 := hcy 0 (by decide)
    have cx1 := hcx 1 (by decide)
    have cy1 := hcy 1 (by decide)
    have cx2 := hcx 2 (by decide)
    have cy2 := hcy 2 (by decide)
    simp only [show cFile.size = 3 from rfl, Nat.add_zero, List.getElem?_cons_zero, List.getElem?_cons_succ] at cx0 cy0 cx1 cy1 cx2 cy2
    clear hrx hry hcx hcy hx hy hcx' hcy'
    go_wp2_with fail
    go_region
    by_cases hxy : x = y
    · rw [show (!decide (x = y)) = false by simp [hxy]]
      go_wp2_with fail
      go_roundw
      case rel => exact ⟨k + 1, by omega, by go_num, Hst.out.2 ⟨Htk.out, hxy⟩, Hmod1.out.drew⟩
      case measure => simp [intOf]; omega
    · have Hw := hidden (world_ne (a := c) (b := d) (.inl (Hne.out hxy)))
      rw [show (!decide (x = y)) = true by simp [hxy]]
      go_wp2_with fail
      go_ret
      exact ⟨by rw [Hw.out]; rfl, Hm0.out.trans (Hmod1.out.drew)⟩
  obtain rfl : k = n1 := by omega
  have Heq1 : Hid (c.files = d.files) := hidden (take_all Hn1.out Hm1.out Htk.out)
  have hkn1 : ¬ (k : Int) < k := by omega
  go_wp2_with fail
  clear ca0 cb0 ca1 cb1 ca2 cb2 ca3 cb3 ca4 cb4 Htk
  go_loopw [77] (fun i wr => ∃ k : Nat, k ≤ n2 ∧ i = .int .i64 k ∧ c.vars.take k = d.vars.take k ∧ Mod (fun _ => False) W0 wr) (fun i _ => n2 - (intOf i).toNat)
  case atStart => exact ⟨0, Nat.zero_le _, rfl, rfl, Hmod1.out⟩
  obtain ⟨k, hk, rfl, htk, hmod⟩ := hrel
  have Htk := hidden htk
  have Hmod2 := hidden hmod
  have hpa := hmod.heapF Hpa.out
  have hpb := hmod.heapF Hpb.out
  have ca0 := cell_lit hpa (j := 0) rfl
  have cb0 := cell_lit hpb (j := 0) rfl
  have ca1 := cell_lit hpa (j := 1) rfl
  have cb1 := cell_lit hpb (j := 1) rfl
  have ca2 := cell_lit hpa (j := 2) rfl
  have cb2 := cell_lit hpb (j := 2) rfl
  have ca3 := cell_lit hpa (j := 3) rfl
  have cb3 := cell_lit hpb (j := 3) rfl
  have ca4 := cell_lit hpa (j := 4) rfl
  have cb4 := cell_lit hpb (j := 4) rfl
  clear htk hpa hpb hmod
  by_cases hlt : k < n2
  case pos =>
    have hkx : k < c.vars.length := by rw [Hn2.out]; exact hlt
    have hky : k < d.vars.length := by rw [Hm2.out]; exact hlt
    obtain ⟨x, hx⟩ : ∃ x, c.vars[k]? = some x := ⟨_, List.getElem?_eq_getElem hkx⟩
    obtain ⟨y, hy⟩ : ∃ y, d.vars[k]? = some y := ⟨_, List.getElem?_eq_getElem hky⟩
    have hrx := Hx2.out _ (Hm0.out.trans Hmod2.out)
    have hry := Hy2.out _ (Hm0.out.trans Hmod2.out)
    rw [← Hn2.out] at hrx
    rw [← Hm2.out] at hry
    obtain ⟨bx, offx, hA, _, _, hrx⟩ := cSl_at hrx (by intro q; rw [q] at hkx; simp at hkx)
    obtain ⟨bY, offy, hB, _, _, hry⟩ := cSl_at hry (by intro q; rw [q] at hky; simp at hky)
    obtain ⟨cs, hcx', hcx⟩ := hrx.get k x hx
    obtain ⟨ds, hcy', hcy⟩ := hry.get k y hy
    have hknz : (k : Int) < n2 := by omega
    have h0k : (0 : Int) ≤ k := by omega
    have Hst := hidden (take_eq_step hx hy)
    have Hne := hidden (ne_of_step hx hy)
    subst hA hB
    obtain ⟨A', n', cap', rfl⟩ := cVar_shape hcx'
    obtain ⟨B', m', cbp', rfl⟩ := cVar_shape hcy'
    have Hvx : Hid (cVar.rd wr.drew F [.string x.name, .slice A' n' cap', .int .i64 x.level, .bool x.hidden] x) := hidden (cVar.mod hcx' ((Mod.refl (fun _ => False) _).drew) fun _ _ _ q => q)
    have Hvy : Hid (cVar.rd wr.drew G [.string y.name, .slice B' m' cbp', .int .i64 y.level, .bool y.hidden] y) := hidden (cVar.mod hcy' ((Mod.refl (fun _ => False) _).drew) fun _ _ _ q => q)
    have hwl := Hwd.out x (List.mem_of_getElem? hx)
    have cx0 := hcx 0 (by decide)
    have cy0 := hcy 0 (by decide)
    have cx1 := hcx 1 (by decide)
    have cy1 := hcy 1 (by decide)
    have cx2 := hcx 2 (by decide)
    have cy2 := hcy 2 (by decide)
    have cx3 := hcx 3 (by decide)
    have cy3 := hcy 3 (by decide)
    simp only [show cVar.size = 4 from rfl, Nat.add_zero, List.getElem?_cons_zero, List.getElem?_cons_succ] at cx0 cy0 cx1 cy1 cx2 cy2 cx3 cy3
    clear hrx hry hcx hcy hx hy hcx' hcy'
    have HS := hidden (show wr.cell? ⟨w.heap.size, 1, none⟩ = some (.slice (some ⟨bx, offx, none⟩) n2 k2) ∧ wr.cell? ⟨w.heap.size + 1, 1, none⟩ = some (.slice (some ⟨bY, offy, none⟩) n2 l2) ∧ wr.cell? ⟨bx, offx + k * 4, none⟩ = some (.string x.name) ∧ wr.cell? ⟨bx, offx + k * 4 + 1, none⟩ = some (.slice A' n' cap') ∧ wr.cell? ⟨bx, offx + k * 4 + 2, none⟩ = some (.int .i64 x.level) ∧ wr.cell? ⟨bx, offx + k * 4 + 3, none⟩ = some (.bool x.hidden) ∧ wr.cell? ⟨bY, offy + k * 4, none⟩ = some (.string y.name) ∧ wr.cell? ⟨bY, offy + k * 4 + 1, none⟩ = some (.slice B' m' cbp') ∧ wr.cell? ⟨bY, offy + k * 4 + 2, none⟩ = some (.int .i64 y.level) ∧ wr.cell? ⟨bY, offy + k * 4 + 3, none⟩ = some (.bool y.hidden) from ⟨ca1, cb1, cx0, cx1, cx2, cx3, cy0, cy1, cy2, cy3⟩)
    have HSd := hidden (show wr.drew.cell? ⟨w.heap.size, 1, none⟩ = some (.slice (some ⟨bx, offx, none⟩) n2 k2) ∧ wr.drew.cell? ⟨w.heap.size + 1, 1, none⟩ = some (.slice (some ⟨bY, offy, none⟩) n2 l2) ∧ wr.drew.cell? ⟨bx, offx + k * 4, none⟩ = some (.string x.name) ∧ wr.drew.cell? ⟨bx, offx + k * 4 + 1, none⟩ = some (.slice A' n' cap') ∧ wr.drew.cell? ⟨bx, offx + k * 4 + 2, none⟩ = some (.int .i64 x.level) ∧ wr.drew.cell? ⟨bx, offx + k * 4 + 3, none⟩ = some (.bool x.hidden) ∧ wr.drew.cell? ⟨bY, offy + k * 4, none⟩ = some (.string y.name) ∧ wr.drew.cell? ⟨bY, offy + k * 4 + 1, none⟩ = some (.slice B' m' cbp') ∧ wr.drew.cell? ⟨bY, offy + k * 4 + 2, none⟩ = some (.int .i64 y.level) ∧ wr.drew.cell? ⟨bY, offy + k * 4 + 3, none⟩ = some (.bool y.hidden) from HS.out)
    go_wp2_with fail
    go_region_held3 (fun W' => W'.cell? ⟨w.heap.size, 1, none⟩ = some (.slice (some ⟨bx, offx, none⟩) n2 k2) ∧ W'.cell? ⟨w.heap.size + 1, 1, none⟩ = some (.slice (some ⟨bY, offy, none⟩) n2 l2) ∧ W'.cell? ⟨bx, offx + k * 4, none⟩ = some (.string x.name) ∧ W'.cell? ⟨bx, offx + k * 4 + 1, none⟩ = some (.slice A' n' cap') ∧ W'.cell? ⟨bx, offx + k * 4 + 2, none⟩ = some (.int .i64 x.level) ∧ W'.cell? ⟨bx, offx + k * 4 + 3, none⟩ = some (.bool x.hidden) ∧ W'.cell? ⟨bY, offy + k * 4, none⟩ = some (.string y.name) ∧ W'.cell? ⟨bY, offy + k * 4 + 1, none⟩ = some (.slice B' m' cbp') ∧ W'.cell? ⟨bY, offy + k * 4 + 2, none⟩ = some (.int .i64 y.level) ∧ W'.cell? ⟨bY, offy + k * 4 + 3, none⟩ = some (.bool y.hidden))
      (first | (with_reducible exact HS.out) | (with_reducible exact HSd.out) | (with_reducible exact HS2.out))
      ((go_at_call 80; (with_reducible refine (sameVar_calls _ _ _ _ _ _ _ _ _ _ _ _ _ Hvx.out Hvy.out hwl).mono ?_); rintro e w2 ⟨rfl, hm2⟩; have Hcl := hidden ((Mod.refl (fun _ => False) wr).drew.trans hm2); have HS2 := hidden (show w2.cell? ⟨w.heap.size, 1, none⟩ = some (.slice (some ⟨bx, offx, none⟩) n2 k2) ∧ w2.cell? ⟨w.heap.size + 1, 1, none⟩ = some (.slice (some ⟨bY, offy, none⟩) n2 l2) ∧ w2.cell? ⟨bx, offx + k * 4, none⟩ = some (.string x.name) ∧ w2.cell? ⟨bx, offx + k * 4 + 1, none⟩ = some (.slice A' n' cap') ∧ w2.cell? ⟨bx, offx + k * 4 + 2, none⟩ = some (.int .i64 x.level) ∧ w2.cell? ⟨bx, offx + k * 4 + 3, none⟩ = some (.bool x.hidden) ∧ w2.cell? ⟨bY, offy + k * 4, none⟩ = some (.string y.name) ∧ w2.cell? ⟨bY, offy + k * 4 + 1, none⟩ = some (.slice B' m' cbp') ∧ w2.cell? ⟨bY, offy + k * 4 + 2, none⟩ = some (.int .i64 y.level) ∧ w2.cell? ⟨bY, offy + k * 4 + 3, none⟩ = some (.bool y.hidden) from ⟨mod_cell hm2 HSd.out.1, mod_cell hm2 HSd.out.2.1, mod_cell hm2 HSd.out.2.2.1, mod_cell hm2 HSd.out.2.2.2.1, mod_cell hm2 HSd.out.2.2.2.2.1, mod_cell hm2 HSd.out.2.2.2.2.2.1, mod_cell hm2 HSd.out.2.2.2.2.2.2.1, mod_cell hm2 HSd.out.2.2.2.2.2.2.2.1, mod_cell hm2 HSd.out.2.2.2.2.2.2.2.2.1, mod_cell hm2 HSd.out.2.2.2.2.2.2.2.2.2⟩); clear hm2))
    by_cases hxy : x = y
    · rw [show (!decide (x = y)) = false by simp [hxy]]
      go_wp2_with fail
      go_roundw
      case rel => exact ⟨k + 1, by omega, by go_num, Hst.out.2 ⟨Htk.out, hxy⟩, Hmod2.out.trans Hcl.out⟩
      case measure => simp [intOf]; omega
    · have Hw := hidden (world_ne (a := c) (b := d) (.inr (.inl (Hne.out hxy))))
      rw [show (!decide (x = y)) = true by simp [hxy]]
      go_wp2_with fail
      go_ret
      exact ⟨by rw [Hw.out]; rfl, Hm0.out.trans (Hmod2.out.trans Hcl.out)⟩
  obtain rfl : k = n2 := by omega
  have Heq2 : Hid (c.vars = d.vars) := hidden (take_all Hn2.out Hm2.out Htk.out)
  have hkn2 : ¬ (k : Int) < k := by omega
  go_wp2_with fail
  clear ca0 cb0 ca1 cb1 ca2 cb2 ca3 cb3 ca4 cb4 Htk
  go_loopw [96] (fun i wr => ∃ k : Nat, k ≤ n3 ∧ i = .int .i64 k ∧ c.outputs.take k = d.outputs.take k ∧ Mod (fun _ => False) W0 wr) (fun i _ => n3 - (intOf i).toNat)
  case atStart => exact ⟨0, Nat.zero_le _, rfl, rfl, Hmod2.out⟩
  obtain ⟨k, hk, rfl, htk, hmod⟩ := hrel
  have Htk := hidden htk
  have Hmod3 := hidden hmod
  have hpa := hmod.heapF Hpa.out
  have hpb := hmod.heapF Hpb.out
  have ca0 := cell_lit hpa (j := 0) rfl
  have cb0 := cell_lit hpb (j := 0) rfl
  have ca1 := cell_lit hpa (j := 1) rfl
  have cb1 := cell_lit hpb (j := 1) rfl
  have ca2 := cell_lit hpa (j := 2) rfl
  have cb2 := cell_lit hpb (j := 2) rfl
  have ca3 := cell_lit hpa (j := 3) rfl
  have cb3 := cell_lit hpb (j := 3) rfl
  have ca4 := cell_lit hpa (j := 4) rfl
  have cb4 := cell_lit hpb (j := 4) rfl
  clear htk hpa hpb hmod
  by_cases hlt : k < n3
  case pos =>
    have hkx : k < c.outputs.length := by rw [Hn3.out]; exact hlt
    have hky : k < d.outputs.length := by rw [Hm3.out]; exact hlt
    obtain ⟨x, hx⟩ : ∃ x, c.outputs[k]? = some x := ⟨_, List.getElem?_eq_getElem hkx⟩
    obtain ⟨y, hy⟩ : ∃ y, d.outputs[k]? = some y := ⟨_, List.getElem?_eq_getElem hky⟩
    have hrx := Hx3.out _ (Hm0.out.trans Hmod3.out)
    have hry := Hy3.out _ (Hm0.out.trans Hmod3.out)
    rw [← Hn3.out] at hrx
    rw [← Hm3.out] at hry
    obtain ⟨bx, offx, hA, _, _, hrx⟩ := cSl_at hrx (by intro q; rw [q] at hkx; simp at hkx)
    obtain ⟨bY, offy, hB, _, _, hry⟩ := cSl_at hry (by intro q; rw [q] at hky; simp at hky)
    obtain ⟨cs, hcx', hcx⟩ := hrx.get k x hx
    obtain ⟨ds, hcy', hcy⟩ := hry.get k y hy
    have hknz : (k : Int) < n3 := by omega
    have h0k : (0 : Int) ≤ k := by omega
    have Hst := hidden (take_eq_step hx hy)
    have Hne := hidden (ne_of_step hx hy)
    subst hA hB
    obtain ⟨rfl, hox⟩ := cOut_iff.1 hcx'
    obtain ⟨rfl, hoy⟩ := cOut_iff.1 hcy'
    have hcmp := eqOut x y
    have cx0 := hcx 0 (by decide)
    have cy0 := hcy 0 (by decide)
    have cx1 := hcx 1 (by decide)
    have cy1 := hcy 1 (by decide)
    simp only [show cOut.size = 2 from rfl, Nat.add_zero, List.getElem?_cons_zero, List.getElem?_cons_succ] at cx0 cy0 cx1 cy1
    clear hrx hry hcx hcy hx hy hcx' hcy'
    go_wp2_with fail
    go_region
    by_cases hxy : x = y
    · rw [show (!decide (x = y)) = false by simp [hxy]]
      go_wp2_with fail
      go_roundw
      case rel => exact ⟨k + 1, by omega, by go_num, Hst.out.2 ⟨Htk.out, hxy⟩, Hmod3.out.drew⟩
      case measure => simp [intOf]; omega
    · have Hw := hidden (world_ne (a := c) (b := d) (.inr (.inr (.inl (Hne.out hxy)))))
      rw [show (!decide (x = y)) = true by simp [hxy]]
      go_wp2_with fail
      go_ret
      exact ⟨by rw [Hw.out]; rfl, Hm0.out.trans (Hmod3.out.drew)⟩
  obtain rfl : k = n3 := by omega
  have Heq3 : Hid (c.outputs = d.outputs) := hidden (take_all Hn3.out Hm3.out Htk.out)
  have hkn3 : ¬ (k : Int) < k := by omega
  go_wp2_with fail
  clear ca0 cb0 ca1 cb1 ca2 cb2 ca3 cb3 ca4 cb4 Htk
  go_loopw [114] (fun i wr => ∃ k : Nat, k ≤ n4 ∧ i = .int .i64 k ∧ c.outcomes.take k = d.outcomes.take k ∧ Mod (fun _ => False) W0 wr) (fun i _ => n4 - (intOf i).toNat)
  case atStart => exact ⟨0, Nat.zero_le _, rfl, rfl, Hmod3.out⟩
  obtain ⟨k, hk, rfl, htk, hmod⟩ := hrel
  have Htk := hidden htk
  have Hmod4 := hidden hmod
  have hpa := hmod.heapF Hpa.out
  have hpb := hmod.heapF Hpb.out
  have ca0 := cell_lit hpa (j := 0) rfl
  have cb0 := cell_lit hpb (j := 0) rfl
  have ca1 := cell_lit hpa (j := 1) rfl
  have cb1 := cell_lit hpb (j := 1) rfl
  have ca2 := cell_lit hpa (j := 2) rfl
  have cb2 := cell_lit hpb (j := 2) rfl
  have ca3 := cell_lit hpa (j := 3) rfl
  have cb3 := cell_lit hpb (j := 3) rfl
  have ca4 := cell_lit hpa (j := 4) rfl
  have cb4 := cell_lit hpb (j := 4) rfl
  clear htk hpa hpb hmod
  by_cases hlt : k < n4
  case pos =>
    have hkx : k < c.outcomes.length := by rw [Hn4.out]; exact hlt
    have hky : k < d.outcomes.length := by rw [Hm4.out]; exact hlt
    obtain ⟨x, hx⟩ : ∃ x, c.outcomes[k]? = some x := ⟨_, List.getElem?_eq_getElem hkx⟩
    obtain ⟨y, hy⟩ : ∃ y, d.outcomes[k]? = some y := ⟨_, List.getElem?_eq_getElem hky⟩
    have hrx := Hx4.out _ (Hm0.out.trans Hmod4.out)
    have hry := Hy4.out _ (Hm0.out.trans Hmod4.out)
    rw [← Hn4.out] at hrx
    rw [← Hm4.out] at hry
    obtain ⟨bx, offx, hA, _, _, hrx⟩ := cSl_at hrx (by intro q; rw [q] at hkx; simp at hkx)
    obtain ⟨bY, offy, hB, _, _, hry⟩ := cSl_at hry (by intro q; rw [q] at hky; simp at hky)
    obtain ⟨cs, hcx', hcx⟩ := hrx.get k x hx
    obtain ⟨ds, hcy', hcy⟩ := hry.get k y hy
    have hknz : (k : Int) < n4 := by omega
    have h0k : (0 : Int) ≤ k := by omega
    have Hst := hidden (take_eq_step hx hy)
    have Hne := hidden (ne_of_step hx hy)
    subst hA hB
    obtain ⟨A', n', cap', rfl, hn', hox, hox2, hex⟩ := cOutc_iff.1 hcx'
    obtain ⟨B', m', cbp', rfl, hm', hoy, hoy2, hey⟩ := cOutc_iff.1 hcy'
    have hel := Hs.out.effects x (List.mem_of_getElem? hx)
    rw [← hn'] at hel
    have Hn' := hidden hn'
    have Hm' := hidden hm'
    have Hex := hidden hex
    have Hey := hidden hey
    clear hex hey hn' hm'
    have cx0 := hcx 0 (by decide)
    have cy0 := hcy 0 (by decide)
    have cx1 := hcx 1 (by decide)
    have cy1 := hcy 1 (by decide)
    have cx2 := hcx 2 (by decide)
    have cy2 := hcy 2 (by decide)
    simp only [show cOutc.size = 3 from rfl, Nat.add_zero, List.getElem?_cons_zero, List.getElem?_cons_succ] at cx0 cy0 cx1 cy1 cx2 cy2
    clear hrx hry hcx hcy hx hy hcx' hcy'
    have hwne1 : w.heap.size + 1 ≠ wr.heap.size := by
      have := (Array.getElem?_eq_some_iff.1 (Hmod4.out.heapF Hpb.out)).1
      omega
    have hwlt : w.heap.size + 1 < wr.heap.size := (Array.getElem?_eq_some_iff.1 (Hmod4.out.heapF Hpb.out)).1
    have hwlt0 : w.heap.size < wr.heap.size := by omega
    have hbY : bY < wr.heap.size := by assumption
    have hbX : bx < wr.heap.size := by assumption
    by_cases hq : x.target = y.target
    case neg =>
      have Hw := hidden (world_ne (a := c) (b := d) (.inr (.inr (.inr (.inl (Hne.out (by rintro rfl; exact hq rfl)))))))
      have hb := show (!x.target.toList == y.target.toList) = true by rw [toList_beq, decide_eq_false hq]; rfl
      clear hq
      go_wp2_with fail
      go_ret
      exact ⟨by rw [Hw.out]; rfl, Hm0.out.trans ((Hmod4.out.alloc _).alloc _)⟩
    have Ht := hidden hq
    have hb1 : (!x.target.toList == y.target.toList) = false := by rw [hq]; simp
    clear hq
    by_cases hq : x.exit = y.exit
    case neg =>
      have Hw := hidden (world_ne (a := c) (b := d) (.inr (.inr (.inr (.inl (Hne.out (by rintro rfl; exact hq rfl)))))))
      have hb := show (x.exit != y.exit) = true by simp [hq]
      clear hq
      go_wp2_with fail
      go_ret
      exact ⟨by rw [Hw.out]; rfl, Hm0.out.trans ((Hmod4.out.alloc _).alloc _)⟩
    have He := hidden hq
    have hb2 : (x.exit != y.exit) = false := by simp [hq]
    clear hq
    by_cases hq : n' = m'
    case neg =>
      have Hw := hidden (world_ne (a := c) (b := d) (.inr (.inr (.inr (.inl (Hne.out (by rintro rfl; exact hq (Hn'.out.trans Hm'.out.symm))))))))
      have hb := bne_of_ne hq
      clear hq
      go_wp2_with fail
      go_ret
      exact ⟨by rw [Hw.out]; rfl, Hm0.out.trans ((Hmod4.out.alloc _).alloc _)⟩
    subst hq
    go_upto_region 27 with fail
    have hqa : (World.heap ((wr.alloc (.cells #[.string x.target, .int .i64 x.exit, .slice A' n' cap'] 77)).alloc (.cells #[.string y.target, .int .i64 y.exit, .slice B' n' cbp'] 77)))[wr.heap.size]? = some (.cells #[.string x.target, .int .i64 x.exit, .slice A' n' cap'] 77 (0, 0)) := hmx (heap_alloc_new _ _) _
    have hqb : (World.heap ((wr.alloc (.cells #[.string x.target, .int .i64 x.exit, .slice A' n' cap'] 77)).alloc (.cells #[.string y.target, .int .i64 y.exit, .slice B' n' cbp'] 77)))[wr.heap.size + 1]? = some (.cells #[.string y.target, .int .i64 y.exit, .slice B' n' cbp'] 77 (0, 0)) := by
      have := heap_alloc_new (wr.alloc (.cells #[.string x.target, .int .i64 x.exit, .slice A' n' cap'] 77)) (.cells #[.string y.target, .int .i64 y.exit, .slice B' n' cbp'] 77)
      rwa [World.size_alloc] at this
    have hqm : Mod (fun _ => False) wr ((wr.alloc (.cells #[.string x.target, .int .i64 x.exit, .slice A' n' cap'] 77)).alloc (.cells #[.string y.target, .int .i64 y.exit, .slice B' n' cbp'] 77)) := ((Mod.refl _ _).alloc _).alloc _
    generalize (wr.alloc (.cells #[.string x.target, .int .i64 x.exit, .slice A' n' cap'] 77)).alloc (.cells #[.string y.target, .int .i64 y.exit, .slice B' n' cbp'] 77) = W1 at *
    have Hqa := hidden hqa
    have Hqb := hidden hqb
    have Hqm := hidden (Hmod4.out.trans hqm)
    have Hq1 := hidden hqm
    have da2 := cell_lit hqa (j := 2) rfl
    have db2 := cell_lit hqb (j := 2) rfl
    clear hqa hqb hqm ca0 cb0 ca1 cb1 ca2 cb2 ca3 cb3 ca4 cb4
    go_wp2_with fail
    clear da2 db2
    go_loopw [148] (fun i wq => ∃ q : Nat, q ≤ n' ∧ i = .int .i64 q ∧ x.effects.take q = y.effects.take q ∧ Mod (fun _ => False) W1 wq) (fun i _ => n' - (intOf i).toNat)
    case atStart => exact ⟨0, Nat.zero_le _, rfl, rfl, Mod.refl _ _⟩
    obtain ⟨q, hq, rfl, htq, hmq⟩ := hrel
    have Htq := hidden htq
    have Hmq := hidden hmq
    have hqa := hmq.heapF Hqa.out
    have hqb := hmq.heapF Hqb.out
    have da2 := cell_lit hqa (j := 2) rfl
    have db2 := cell_lit hqb (j := 2) rfl
    clear htq hqa hqb hmq
    by_cases hlq : q < n'
    case pos =>
      have hkx : q < x.effects.length := by rw [← Hn'.out]; exact hlq
      have hky : q < y.effects.length := by rw [← Hm'.out]; exact hlq
      obtain ⟨e, he⟩ : ∃ e, x.effects[q]? = some e := ⟨_, List.getElem?_eq_getElem hkx⟩
      obtain ⟨f, hf⟩ : ∃ f, y.effects[q]? = some f := ⟨_, List.getElem?_eq_getElem hky⟩
      have hrx := (cSl cEff).mod Hex.out (Hq1.out.trans Hmq.out) fun _ _ _ q => q
      have hry := (cSl cEff).mod Hey.out (Hq1.out.trans Hmq.out) fun _ _ _ q => q
      rw [Hn'.out] at hrx
      rw [Hm'.out] at hry
      obtain ⟨ex, oex, hA', _, _, hrx⟩ := cSl_at hrx (by intro q; rw [q] at hkx; simp at hkx)
      obtain ⟨eY, oey, hB', _, _, hry⟩ := cSl_at hry (by intro q; rw [q] at hky; simp at hky)
      obtain ⟨cs, hcx', hcx⟩ := hrx.get q e he
      obtain ⟨ds, hcy', hcy⟩ := hry.get q f hf
      have hknz : (q : Int) < n' := by omega
      have h0k : (0 : Int) ≤ q := by omega
      have Hst2 := hidden (take_eq_step he hf)
      have Hne2 := hidden (ne_of_step he hf)
      subst hA' hB'
      obtain ⟨rfl, hoe⟩ := cEff_iff.1 hcx'
      obtain ⟨rfl, hof⟩ := cEff_iff.1 hcy'
      have hcmp := eqEff e f
      have ex_0 := hcx 0 (by decide)
      have ey_0 := hcy 0 (by decide)
      have ex_1 := hcx 1 (by decide)
      have ey_1 := hcy 1 (by decide)
      have ex_2 := hcx 2 (by decide)
      have ey_2 := hcy 2 (by decide)
      simp only [show cEff.size = 3 from rfl, Nat.add_zero, List.getElem?_cons_zero, List.getElem?_cons_succ] at ex_0 ey_0 ex_1 ey_1 ex_2 ey_2
      clear hrx hry hcx hcy he hf hcx' hcy'
      go_wp2_with fail
      go_region
      by_cases hxy : e = f
      · rw [show (!decide (e = f)) = false by simp [hxy]]
        go_wp2_with fail
        go_roundw
        case rel => exact ⟨q + 1, by omega, by go_num, Hst2.out.2 ⟨Htq.out, hxy⟩, Hmq.out.drew⟩
        case measure => simp [intOf]; omega
      · have Hw := hidden (world_ne (a := c) (b := d) (.inr (.inr (.inr (.inl (Hne.out (by rintro rfl; exact Hne2.out hxy rfl)))))))
        rw [show (!decide (e = f)) = true by simp [hxy]]
        go_wp2_with fail
        go_ret
        exact ⟨by rw [Hw.out]; rfl, Hm0.out.trans (Hqm.out.trans Hmq.out.drew)⟩
    obtain rfl : q = n' := by omega
    have Heqe : Hid (x.effects = y.effects) := hidden (take_all Hn'.out.symm Hm'.out.symm Htq.out)
    have Hxy : Hid (x = y) := hidden (by
      obtain ⟨x1, x2, x3⟩ := x
      obtain ⟨y1, y2, y3⟩ := y
      rw [POutc.mk.injEq]
      exact ⟨Ht.out, He.out, Heqe.out⟩)
    have hkn' : ¬ (q : Int) < q := by omega
    clear da2 db2
    go_wp2_with fail
    go_roundw
    case rel => exact ⟨k + 1, by omega, by go_num, Hst.out.2 ⟨Htk.out, Hxy.out⟩, Hqm.out.trans Hmq.out⟩
    case measure => simp [intOf]; omega
  obtain rfl : k = n4 := by omega
  have Heq4 : Hid (c.outcomes = d.outcomes) := hidden (take_all Hn4.out Hm4.out Htk.out)
  have hkn4 : ¬ (k : Int) < k := by omega
  go_wp2_with fail
  clear ca0 cb0 ca1 cb1 ca2 cb2 ca3 cb3 ca4 cb4 Htk
  go_loopw [167] (fun i wr => ∃ k : Nat, k ≤ n5 ∧ i = .int .i64 k ∧ c.verdicts.take k = d.verdicts.take k ∧ Mod (fun _ => False) W0 wr) (fun i _ => n5 - (intOf i).toNat)
  case atStart => exact ⟨0, Nat.zero_le _, rfl, rfl, Hmod4.out⟩
  obtain ⟨k, hk, rfl, htk, hmod⟩ := hrel
  have Htk := hidden htk
  have Hmod5 := hidden hmod
  have hpa := hmod.heapF Hpa.out
  have hpb := hmod.heapF Hpb.out
  have ca0 := cell_lit hpa (j := 0) rfl
  have cb0 := cell_lit hpb (j := 0) rfl
  have ca1 := cell_lit hpa (j := 1) rfl
  have cb1 := cell_lit hpb (j := 1) rfl
  have ca2 := cell_lit hpa (j := 2) rfl
  have cb2 := cell_lit hpb (j := 2) rfl
  have ca3 := cell_lit hpa (j := 3) rfl
  have cb3 := cell_lit hpb (j := 3) rfl
  have ca4 := cell_lit hpa (j := 4) rfl
  have cb4 := cell_lit hpb (j := 4) rfl
  clear htk hpa hpb hmod
  by_cases hlt : k < n5
  case pos =>
    have hkx : k < c.verdicts.length := by rw [Hn5.out]; exact hlt
    have hky : k < d.verdicts.length := by rw [Hm5.out]; exact hlt
    obtain ⟨x, hx⟩ : ∃ x, c.verdicts[k]? = some x := ⟨_, List.getElem?_eq_getElem hkx⟩
    obtain ⟨y, hy⟩ : ∃ y, d.verdicts[k]? = some y := ⟨_, List.getElem?_eq_getElem hky⟩
    have hrx := Hx5.out _ (Hm0.out.trans Hmod5.out)
    have hry := Hy5.out _ (Hm0.out.trans Hmod5.out)
    rw [← Hn5.out] at hrx
    rw [← Hm5.out] at hry
    obtain ⟨bx, offx, hA, _, _, hrx⟩ := cSl_at hrx (by intro q; rw [q] at hkx; simp at hkx)
    obtain ⟨bY, offy, hB, _, _, hry⟩ := cSl_at hry (by intro q; rw [q] at hky; simp at hky)
    obtain ⟨cs, hcx', hcx⟩ := hrx.get k x hx
    obtain ⟨ds, hcy', hcy⟩ := hry.get k y hy
    have hknz : (k : Int) < n5 := by omega
    have h0k : (0 : Int) ≤ k := by omega
    have Hst := hidden (take_eq_step hx hy)
    have Hne := hidden (ne_of_step hx hy)
    subst hA hB
    obtain ⟨rfl, hox⟩ := cVer_iff.1 hcx'
    obtain ⟨rfl, hoy⟩ := cVer_iff.1 hcy'
    have hcmp := eqVer x y
    have cx0 := hcx 0 (by decide)
    have cy0 := hcy 0 (by decide)
    have cx1 := hcx 1 (by decide)
    have cy1 := hcy 1 (by decide)
    have cx2 := hcx 2 (by decide)
    have cy2 := hcy 2 (by decide)
    have cx3 := hcx 3 (by decide)
    have cy3 := hcy 3 (by decide)
    simp only [show cVer.size = 4 from rfl, Nat.add_zero, List.getElem?_cons_zero, List.getElem?_cons_succ] at cx0 cy0 cx1 cy1 cx2 cy2 cx3 cy3
    clear hrx hry hcx hcy hx hy hcx' hcy'
    go_wp2_with fail
    go_region
    by_cases hxy : x = y
    · rw [show (!decide (x = y)) = false by simp [hxy]]
      go_wp2_with fail
      go_roundw
      case rel => exact ⟨k + 1, by omega, by go_num, Hst.out.2 ⟨Htk.out, hxy⟩, Hmod5.out.drew⟩
      case measure => simp [intOf]; omega
    · have Hw := hidden (world_ne (a := c) (b := d) (.inr (.inr (.inr (.inr ((Hne.out hxy)))))))
      rw [show (!decide (x = y)) = true by simp [hxy]]
      go_wp2_with fail
      go_ret
      exact ⟨by rw [Hw.out]; rfl, Hm0.out.trans (Hmod5.out.drew)⟩
  obtain rfl : k = n5 := by omega
  have Heq5 : Hid (c.verdicts = d.verdicts) := hidden (take_all Hn5.out Hm5.out Htk.out)
  have hkn5 : ¬ (k : Int) < k := by omega
  go_wp2_with fail
  have Hall : Hid (c = d) := hidden (by
    obtain ⟨c1, c2, c3, c4, c5⟩ := c
    obtain ⟨d1, d2, d3, d4, d5⟩ := d
    rw [PWorld.mk.injEq]
    exact ⟨Heq1.out, Heq2.out, Heq3.out, Heq4.out, Heq5.out⟩)
  go_ret
  exact ⟨by rw [decide_eq_true Hall.out]; rfl, Hm0.out.trans Hmod5.out⟩
end Go.Proofs.YthgibbekfcenhaaGreatDoor
