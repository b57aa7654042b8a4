/- The walks of slices.EqualFunc. -/
import Derived.Test.YthgibbekfcenhaaGreatDoorClos
namespace Go.Proofs.YthgibbekfcenhaaGreatDoor
open Go.RowKit

set_option maxHeartbeats 1000000 in
theorem eqVars_calls (A B : Option Addr) (n m k1 k2 : Nat) (w : World) (F G : Fp) (xs ys : List PVar) (hn : n = xs.length) (hm : m = ys.length) (h : (cSl cVar).rd w F [.slice A n k1] xs) (h' : (cSl cVar).rd w G [.slice B m k2] ys) (hlen : n ≤ 1000000) (hsm : ∀ v ∈ xs, v.words.length ≤ 1000000) :
    Calls Tryz.prog 38 #[.slice A n k1, .slice B m k2, .func (.func 31) #[] #[]] w (BoolPost (decide (xs = ys)) w) := by
  have Hn := hidden hn
  have Hm := hidden hm
  have Hsm := hidden hsm
  have Hx : Hid (∀ W, Mod (fun _ => False) w W → (cSl cVar).rd W F [.slice A n k1] xs) := hidden fun W hW => (cSl cVar).mod h hW fun _ _ _ q => q
  have Hy : Hid (∀ W, Mod (fun _ => False) w W → (cSl cVar).rd W G [.slice B m k2] ys) := hidden fun W hW => (cSl cVar).mod h' hW fun _ _ _ q => q
  clear hn hm h h' hsm
  by_cases hnm : n = m
  · subst hnm
    go_enter Tryz.func38, Tryz.ntmps38
    go_wp2_with fail
    go_loopw [17] (fun i wr => ∃ k : Nat, k ≤ n ∧ i = .int .i64 k ∧ xs.take k = ys.take k ∧ Mod (fun _ => False) w wr) (fun i _ => n - (intOf i).toNat)
    case atStart => exact ⟨0, Nat.zero_le _, rfl, rfl, Mod.refl _ _⟩
    obtain ⟨k, hk, rfl, htk, hmod⟩ := hrel
    have Htk := hidden htk
    have Hmod := hidden hmod
    clear htk hmod
    by_cases hlt : k < n
    case pos =>
      have hkx : k < xs.length := by rw [← Hn.out]; exact hlt
      have hky : k < ys.length := by rw [← Hm.out]; exact hlt
      obtain ⟨x, hx⟩ : ∃ x, xs[k]? = some x := ⟨_, List.getElem?_eq_getElem hkx⟩
      obtain ⟨y, hy⟩ : ∃ y, ys[k]? = some y := ⟨_, List.getElem?_eq_getElem hky⟩
      have hrx := Hx.out wr Hmod.out
      have hry := Hy.out wr Hmod.out
      rw [Hn.out] at hrx
      rw [Hm.out] at hry
      obtain ⟨bx, offx, hA, _, hbx, hrx⟩ := cSl_at hrx (by rintro rfl; simp at hkx)
      obtain ⟨bY, offy, hB, _, hbY, hry⟩ := cSl_at hry (by rintro rfl; simp at hky)
      obtain ⟨cs, hcx', hcx⟩ := hrx.get k x hx
      obtain ⟨ds, hcy', hcy⟩ := hry.get k y hy
      obtain ⟨A', n', cap', rfl⟩ := cVar_shape hcx'
      obtain ⟨B', m', cbp', rfl⟩ := cVar_shape hcy'
      have c0 := hcx 0 (by decide)
      have d0 := hcy 0 (by decide)
      have c1 := hcx 1 (by decide)
      have d1 := hcy 1 (by decide)
      have c2 := hcx 2 (by decide)
      have d2 := hcy 2 (by decide)
      have c3 := hcx 3 (by decide)
      have d3 := hcy 3 (by decide)
      simp only [show cVar.size = 4 from rfl, Nat.add_zero, List.getElem?_cons_zero, List.getElem?_cons_succ] at c0 d0 c1 d1 c2 d2 c3 d3
      have hs1 := Hsm.out x (List.mem_of_getElem? hx)
      have hkn : (k : Int) < n := by omega
      have h0k : (0 : Int) ≤ k := by omega
      have hne1 : bY ≠ wr.heap.size := by omega
      have Hst := hidden (take_eq_step hx hy)
      have Hne := hidden (ne_of_step hx hy)
      have HX := hidden hcx'
      have HY := hidden hcy'
      have Hs1 := hidden hs1
      subst hA hB
      clear hrx hry hcx hcy hx hy hcx' hcy' hs1
      go_wp2_with fail
      refine (eqVar_calls _ F G x y _ _ _ _ _ _ _ _ (Cd.alloc _ (Cd.alloc _ HX.out _) _) (Cd.alloc _ (Cd.alloc _ HY.out _) _) Hs1.out).mono ?_
      rintro e w2 ⟨rfl, hm2⟩
      have Hm2 := hidden (Hmod.out.trans ((((Mod.refl (fun _ => False) wr).alloc _).alloc _).trans hm2))
      clear hm2
      by_cases hxy : x = y
      · have Hc := hidden (decide_eq_true hxy)
        rw [Hc.out]
        go_wp2_with fail
        go_roundw
        case rel => exact ⟨k + 1, by omega, by go_num, Hst.out.2 ⟨Htk.out, hxy⟩, Hm2.out⟩
        case measure => simp [intOf]; omega
      · have Hc := hidden (decide_eq_false hxy)
        have Hn2 := hidden (decide_eq_false (Hne.out hxy))
        rw [Hc.out]
        go_wp2_with fail
        go_ret
        exact ⟨by rw [Hn2.out]; rfl, Hm2.out⟩
    obtain rfl : k = n := by omega
    have Heq : Hid (xs = ys) := hidden (by
      have := Htk.out
      rwa [List.take_of_length_le (by rw [Hn.out]; exact Nat.le_refl _), List.take_of_length_le (by rw [Hm.out]; exact Nat.le_refl _)] at this)
    have hkn : ¬ (k : Int) < k := by omega
    go_wp2_with fail
    go_ret
    exact ⟨by rw [decide_eq_true Heq.out]; rfl, Hmod.out⟩
  · have Hne : Hid (xs ≠ ys) := hidden (by rintro rfl; exact hnm (Hn.out.trans Hm.out.symm))
    have hnm' : ¬ (n : Int) = m := by omega
    go_enter Tryz.func38, Tryz.ntmps38
    go_wp2_with fail
    go_ret
    exact ⟨by rw [decide_eq_false Hne.out]; rfl, Mod.refl _ _⟩
set_option maxHeartbeats 1000000 in
theorem eqOutcs_calls (A B : Option Addr) (n m k1 k2 : Nat) (w : World) (F G : Fp) (xs ys : List POutc) (hn : n = xs.length) (hm : m = ys.length) (h : (cSl cOutc).rd w F [.slice A n k1] xs) (h' : (cSl cOutc).rd w G [.slice B m k2] ys) (hlen : n ≤ 1000000) (hsm : ∀ o ∈ xs, o.effects.length ≤ 1000000) :
    Calls Tryz.prog 39 #[.slice A n k1, .slice B m k2, .func (.func 33) #[] #[]] w (BoolPost (decide (xs = ys)) w) := by
  have Hn := hidden hn
  have Hm := hidden hm
  have Hsm := hidden hsm
  have Hx : Hid (∀ W, Mod (fun _ => False) w W → (cSl cOutc).rd W F [.slice A n k1] xs) := hidden fun W hW => (cSl cOutc).mod h hW fun _ _ _ q => q
  have Hy : Hid (∀ W, Mod (fun _ => False) w W → (cSl cOutc).rd W G [.slice B m k2] ys) := hidden fun W hW => (cSl cOutc).mod h' hW fun _ _ _ q => q
  clear hn hm h h' hsm
  by_cases hnm : n = m
  · subst hnm
    go_enter Tryz.func39, Tryz.ntmps39
    go_wp2_with fail
    go_loopw [17] (fun i wr => ∃ k : Nat, k ≤ n ∧ i = .int .i64 k ∧ xs.take k = ys.take k ∧ Mod (fun _ => False) w wr) (fun i _ => n - (intOf i).toNat)
    case atStart => exact ⟨0, Nat.zero_le _, rfl, rfl, Mod.refl _ _⟩
    obtain ⟨k, hk, rfl, htk, hmod⟩ := hrel
    have Htk := hidden htk
    have Hmod := hidden hmod
    clear htk hmod
    by_cases hlt : k < n
    case pos =>
      have hkx : k < xs.length := by rw [← Hn.out]; exact hlt
      have hky : k < ys.length := by rw [← Hm.out]; exact hlt
      obtain ⟨x, hx⟩ : ∃ x, xs[k]? = some x := ⟨_, List.getElem?_eq_getElem hkx⟩
      obtain ⟨y, hy⟩ : ∃ y, ys[k]? = some y := ⟨_, List.getElem?_eq_getElem hky⟩
      have hrx := Hx.out wr Hmod.out
      have hry := Hy.out wr Hmod.out
      rw [Hn.out] at hrx
      rw [Hm.out] at hry
      obtain ⟨bx, offx, hA, _, hbx, hrx⟩ := cSl_at hrx (by rintro rfl; simp at hkx)
      obtain ⟨bY, offy, hB, _, hbY, hry⟩ := cSl_at hry (by rintro rfl; simp at hky)
      obtain ⟨cs, hcx', hcx⟩ := hrx.get k x hx
      obtain ⟨ds, hcy', hcy⟩ := hry.get k y hy
      obtain ⟨A', n', cap', rfl, -⟩ := cOutc_iff.1 hcx'
      obtain ⟨B', m', cbp', rfl, -⟩ := cOutc_iff.1 hcy'
      have c0 := hcx 0 (by decide)
      have d0 := hcy 0 (by decide)
      have c1 := hcx 1 (by decide)
      have d1 := hcy 1 (by decide)
      have c2 := hcx 2 (by decide)
      have d2 := hcy 2 (by decide)
      simp only [show cOutc.size = 3 from rfl, Nat.add_zero, List.getElem?_cons_zero, List.getElem?_cons_succ] at c0 d0 c1 d1 c2 d2
      have hs1 := Hsm.out x (List.mem_of_getElem? hx)
      have hkn : (k : Int) < n := by omega
      have h0k : (0 : Int) ≤ k := by omega
      have hne1 : bY ≠ wr.heap.size := by omega
      have Hst := hidden (take_eq_step hx hy)
      have Hne := hidden (ne_of_step hx hy)
      have HX := hidden hcx'
      have HY := hidden hcy'
      have Hs1 := hidden hs1
      subst hA hB
      clear hrx hry hcx hcy hx hy hcx' hcy' hs1
      go_wp2_with fail
      refine (eqOutc_calls _ F G x y [_, _, _] [_, _, _] (Cd.alloc _ (Cd.alloc _ HX.out _) _) (Cd.alloc _ (Cd.alloc _ HY.out _) _) Hs1.out).mono ?_
      rintro e w2 ⟨rfl, hm2⟩
      have Hm2 := hidden (Hmod.out.trans ((((Mod.refl (fun _ => False) wr).alloc _).alloc _).trans hm2))
      clear hm2
      by_cases hxy : x = y
      · have Hc := hidden (decide_eq_true hxy)
        rw [Hc.out]
        go_wp2_with fail
        go_roundw
        case rel => exact ⟨k + 1, by omega, by go_num, Hst.out.2 ⟨Htk.out, hxy⟩, Hm2.out⟩
        case measure => simp [intOf]; omega
      · have Hc := hidden (decide_eq_false hxy)
        have Hn2 := hidden (decide_eq_false (Hne.out hxy))
        rw [Hc.out]
        go_wp2_with fail
        go_ret
        exact ⟨by rw [Hn2.out]; rfl, Hm2.out⟩
    obtain rfl : k = n := by omega
    have Heq : Hid (xs = ys) := hidden (by
      have := Htk.out
      rwa [List.take_of_length_le (by rw [Hn.out]; exact Nat.le_refl _), List.take_of_length_le (by rw [Hm.out]; exact Nat.le_refl _)] at this)
    have hkn : ¬ (k : Int) < k := by omega
    go_wp2_with fail
    go_ret
    exact ⟨by rw [decide_eq_true Heq.out]; rfl, Hmod.out⟩
  · have Hne : Hid (xs ≠ ys) := hidden (by rintro rfl; exact hnm (Hn.out.trans Hm.out.symm))
    have hnm' : ¬ (n : Int) = m := by omega
    go_enter Tryz.func39, Tryz.ntmps39
    go_wp2_with fail
    go_ret
    exact ⟨by rw [decide_eq_false Hne.out]; rfl, Mod.refl _ _⟩
end Go.Proofs.YthgibbekfcenhaaGreatDoor
