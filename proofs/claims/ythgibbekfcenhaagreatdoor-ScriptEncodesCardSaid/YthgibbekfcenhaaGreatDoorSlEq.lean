/- The walks of slices.Equal. -/
import Derived.Test.YthgibbekfcenhaaGreatDoorEncode
namespace Go.Proofs.YthgibbekfcenhaaGreatDoor
open Go.RowKit

set_option maxHeartbeats 1000000 in
theorem eqStrings_calls (A B : Option Addr) (n m k1 k2 : Nat) (w : World) (F G : Fp) (xs ys : List ByteArray) (hn : n = xs.length) (hm : m = ys.length) (h : (cSl cStr).rd w F [.slice A n k1] xs) (h' : (cSl cStr).rd w G [.slice B m k2] ys) (hlen : n ≤ 1000000) :
    Calls Tryz.prog 32 #[.slice A n k1, .slice B m k2] w (BoolPost (decide (xs = ys)) w) := by
  have Hn := hidden hn
  have Hm := hidden hm
  have Hx : Hid (∀ W, Mod (fun _ => False) w W → (cSl cStr).rd W F [.slice A n k1] xs) := hidden fun W hW => (cSl cStr).mod h hW fun _ _ _ q => q
  have Hy : Hid (∀ W, Mod (fun _ => False) w W → (cSl cStr).rd W G [.slice B m k2] ys) := hidden fun W hW => (cSl cStr).mod h' hW fun _ _ _ q => q
  clear hn hm h h'
  by_cases hnm : n = m
  · subst hnm
    go_enter Tryz.func32, Tryz.ntmps32
    go_wp2_with fail
    go_loopw [13] (fun i wr => ∃ k : Nat, k ≤ n ∧ i = .int .i64 k ∧ xs.take k = ys.take k ∧ Mod (fun _ => False) w wr) (fun i _ => n - (intOf i).toNat)
    case atStart => exact ⟨0, Nat.zero_le _, rfl, rfl, Mod.refl _ _⟩
    case round =>
      obtain ⟨k, hk, rfl, htk, hm⟩ := hrel
      have Htk := hidden htk
      have Hmod := hidden hm
      clear htk
      by_cases hlt : k < n
      · have hkx : k < xs.length := by rw [← Hn.out]; exact hlt
        have hky : k < ys.length := by rw [← Hm.out]; exact hlt
        obtain ⟨x, hx⟩ : ∃ x, xs[k]? = some x := ⟨_, List.getElem?_eq_getElem hkx⟩
        obtain ⟨y, hy⟩ : ∃ y, ys[k]? = some y := ⟨_, List.getElem?_eq_getElem hky⟩
        have hrx := Hx.out wr hm
        have hry := Hy.out wr hm
        rw [Hn.out] at hrx
        rw [Hm.out] at hry
        obtain ⟨bx, offx, hA, _, _, hrx⟩ := cSl_at hrx (by rintro rfl; simp at hkx)
        obtain ⟨by_, offy, hB, _, _, hry⟩ := cSl_at hry (by rintro rfl; simp at hky)
        obtain ⟨cs, ⟨rfl, hxs⟩, hcx⟩ := hrx.get k x hx
        obtain ⟨cs, ⟨rfl, hys⟩, hcy⟩ := hry.get k y hy
        have c0 := hcx 0 (by decide)
        have d0 := hcy 0 (by decide)
        simp only [show cStr.size = 1 from rfl, Nat.mul_one, Nat.add_zero, List.getElem?_cons_zero] at c0 d0
        subst hA hB
        have hkn : (k : Int) < n := by omega
        have h0k : (0 : Int) ≤ k := by omega
        have Hst := hidden (take_eq_step hx hy)
        have Hne := hidden (ne_of_step hx hy)
        clear hrx hry hcx hcy hx hy hm
        go_wp2_with fail
        go_region
        by_cases hxy : x = y
        · have hcmp : (!x.toList == y.toList) = false := by rw [hxy]; simp
          rw [hcmp]
          go_wp2_with fail
          go_roundw
          case rel => exact ⟨k + 1, by omega, by go_num, Hst.out.2 ⟨Htk.out, hxy⟩, Hmod.out.drew⟩
          case measure => simp [intOf]; omega
        · have hcmp : (!x.toList == y.toList) = true := by rw [toList_beq, decide_eq_false hxy]; rfl
          rw [hcmp]
          go_wp2_with fail
          go_ret
          exact ⟨by rw [decide_eq_false (Hne.out hxy)]; rfl, Hmod.out.drew⟩
      · obtain rfl : k = n := by omega
        have Heq : Hid (xs = ys) := hidden (by
          have := Htk.out
          rwa [List.take_of_length_le (by rw [Hn.out]; exact Nat.le_refl _), List.take_of_length_le (by rw [Hm.out]; exact Nat.le_refl _)] at this)
        have hkn : ¬ (k : Int) < k := by omega
        clear hm
        go_wp2_with fail
        go_ret
        exact ⟨by rw [decide_eq_true Heq.out]; rfl, Hmod.out⟩
  · have Hne : Hid (xs ≠ ys) := hidden (by rintro rfl; exact hnm (Hn.out.trans Hm.out.symm))
    have hnm' : ¬ (n : Int) = m := by omega
    go_enter Tryz.func32, Tryz.ntmps32
    go_wp2_with fail
    go_ret
    exact ⟨by rw [decide_eq_false Hne.out]; rfl, Mod.refl _ _⟩
set_option maxHeartbeats 1000000 in
theorem eqInts_calls (A B : Option Addr) (n m k1 k2 : Nat) (w : World) (F G : Fp) (xs ys : List Int) (hn : n = xs.length) (hm : m = ys.length) (h : (cSl cI64).rd w F [.slice A n k1] xs) (h' : (cSl cI64).rd w G [.slice B m k2] ys) (hlen : n ≤ 1000000) :
    Calls Tryz.prog 40 #[.slice A n k1, .slice B m k2] w (BoolPost (decide (xs = ys)) w) := by
  have Hn := hidden hn
  have Hm := hidden hm
  have Hx : Hid (∀ W, Mod (fun _ => False) w W → (cSl cI64).rd W F [.slice A n k1] xs) := hidden fun W hW => (cSl cI64).mod h hW fun _ _ _ q => q
  have Hy : Hid (∀ W, Mod (fun _ => False) w W → (cSl cI64).rd W G [.slice B m k2] ys) := hidden fun W hW => (cSl cI64).mod h' hW fun _ _ _ q => q
  clear hn hm h h'
  by_cases hnm : n = m
  · subst hnm
    go_enter Tryz.func40, Tryz.ntmps40
    go_wp2_with fail
    go_loopw [13] (fun i wr => ∃ k : Nat, k ≤ n ∧ i = .int .i64 k ∧ xs.take k = ys.take k ∧ Mod (fun _ => False) w wr) (fun i _ => n - (intOf i).toNat)
    case atStart => exact ⟨0, Nat.zero_le _, rfl, rfl, Mod.refl _ _⟩
    case round =>
      obtain ⟨k, hk, rfl, htk, hm⟩ := hrel
      have Htk := hidden htk
      have Hmod := hidden hm
      clear htk
      by_cases hlt : k < n
      · have hkx : k < xs.length := by rw [← Hn.out]; exact hlt
        have hky : k < ys.length := by rw [← Hm.out]; exact hlt
        obtain ⟨x, hx⟩ : ∃ x, xs[k]? = some x := ⟨_, List.getElem?_eq_getElem hkx⟩
        obtain ⟨y, hy⟩ : ∃ y, ys[k]? = some y := ⟨_, List.getElem?_eq_getElem hky⟩
        have hrx := Hx.out wr hm
        have hry := Hy.out wr hm
        rw [Hn.out] at hrx
        rw [Hm.out] at hry
        obtain ⟨bx, offx, hA, _, _, hrx⟩ := cSl_at hrx (by rintro rfl; simp at hkx)
        obtain ⟨by_, offy, hB, _, _, hry⟩ := cSl_at hry (by rintro rfl; simp at hky)
        obtain ⟨cs, ⟨rfl, hxs⟩, hcx⟩ := hrx.get k x hx
        obtain ⟨cs, ⟨rfl, hys⟩, hcy⟩ := hry.get k y hy
        have c0 := hcx 0 (by decide)
        have d0 := hcy 0 (by decide)
        simp only [show cI64.size = 1 from rfl, Nat.mul_one, Nat.add_zero, List.getElem?_cons_zero] at c0 d0
        subst hA hB
        have hkn : (k : Int) < n := by omega
        have h0k : (0 : Int) ≤ k := by omega
        have Hst := hidden (take_eq_step hx hy)
        have Hne := hidden (ne_of_step hx hy)
        clear hrx hry hcx hcy hx hy hm
        go_wp2_with fail
        go_region
        by_cases hxy : x = y
        · have hcmp : (x != y) = false := by rw [hxy]; simp
          rw [hcmp]
          go_wp2_with fail
          go_roundw
          case rel => exact ⟨k + 1, by omega, by go_num, Hst.out.2 ⟨Htk.out, hxy⟩, Hmod.out.drew⟩
          case measure => simp [intOf]; omega
        · have hcmp : (x != y) = true := by simp [hxy]
          rw [hcmp]
          go_wp2_with fail
          go_ret
          exact ⟨by rw [decide_eq_false (Hne.out hxy)]; rfl, Hmod.out.drew⟩
      · obtain rfl : k = n := by omega
        have Heq : Hid (xs = ys) := hidden (by
          have := Htk.out
          rwa [List.take_of_length_le (by rw [Hn.out]; exact Nat.le_refl _), List.take_of_length_le (by rw [Hm.out]; exact Nat.le_refl _)] at this)
        have hkn : ¬ (k : Int) < k := by omega
        clear hm
        go_wp2_with fail
        go_ret
        exact ⟨by rw [decide_eq_true Heq.out]; rfl, Hmod.out⟩
  · have Hne : Hid (xs ≠ ys) := hidden (by rintro rfl; exact hnm (Hn.out.trans Hm.out.symm))
    have hnm' : ¬ (n : Int) = m := by omega
    go_enter Tryz.func40, Tryz.ntmps40
    go_wp2_with fail
    go_ret
    exact ⟨by rw [decide_eq_false Hne.out]; rfl, Mod.refl _ _⟩

set_option maxHeartbeats 1000000 in
theorem eqFiles_calls (A B : Option Addr) (n m k1 k2 : Nat) (w : World) (F G : Fp) (xs ys : List PFile) (hn : n = xs.length) (hm : m = ys.length) (h : (cSl cFile).rd w F [.slice A n k1] xs) (h' : (cSl cFile).rd w G [.slice B m k2] ys) (hlen : n ≤ 1000000) :
    Calls Tryz.prog 35 #[.slice A n k1, .slice B m k2] w (BoolPost (decide (xs = ys)) w) := by
  have Hn := hidden hn
  have Hm := hidden hm
  have Hx : Hid (∀ W, Mod (fun _ => False) w W → (cSl cFile).rd W F [.slice A n k1] xs) := hidden fun W hW => (cSl cFile).mod h hW fun _ _ _ q => q
  have Hy : Hid (∀ W, Mod (fun _ => False) w W → (cSl cFile).rd W G [.slice B m k2] ys) := hidden fun W hW => (cSl cFile).mod h' hW fun _ _ _ q => q
  clear hn hm h h'
  by_cases hnm : n = m
  · subst hnm
    go_enter Tryz.func35, Tryz.ntmps35
    go_wp2_with fail
    go_loopw [13] (fun i wr => ∃ k : Nat, k ≤ n ∧ i = .int .i64 k ∧ xs.take k = ys.take k ∧ Mod (fun _ => False) w wr) (fun i _ => n - (intOf i).toNat)
    case atStart => exact ⟨0, Nat.zero_le _, rfl, rfl, Mod.refl _ _⟩
    case round =>
      obtain ⟨k, hk, rfl, htk, hm⟩ := hrel
      have Htk := hidden htk
      have Hmod := hidden hm
      clear htk
      by_cases hlt : k < n
      · have hkx : k < xs.length := by rw [← Hn.out]; exact hlt
        have hky : k < ys.length := by rw [← Hm.out]; exact hlt
        obtain ⟨x, hx⟩ : ∃ x, xs[k]? = some x := ⟨_, List.getElem?_eq_getElem hkx⟩
        obtain ⟨y, hy⟩ : ∃ y, ys[k]? = some y := ⟨_, List.getElem?_eq_getElem hky⟩
        have hrx := Hx.out wr hm
        have hry := Hy.out wr hm
        rw [Hn.out] at hrx
        rw [Hm.out] at hry
        obtain ⟨bx, offx, hA, _, _, hrx⟩ := cSl_at hrx (by rintro rfl; simp at hkx)
        obtain ⟨by_, offy, hB, _, _, hry⟩ := cSl_at hry (by rintro rfl; simp at hky)
        obtain ⟨cs, hcx', hcx⟩ := hrx.get k x hx
        obtain ⟨ds, hcy', hcy⟩ := hry.get k y hy
        obtain ⟨rfl, hxs⟩ := cFile_iff.1 hcx'
        obtain ⟨rfl, hys⟩ := cFile_iff.1 hcy'
        have hcmp0 := eqFileS x y
        have c0 := hcx 0 (by decide)
        have d0 := hcy 0 (by decide)
        have c1 := hcx 1 (by decide)
        have d1 := hcy 1 (by decide)
        have c2 := hcx 2 (by decide)
        have d2 := hcy 2 (by decide)
        simp only [show cFile.size = 3 from rfl, Nat.add_zero, List.getElem?_cons_zero, List.getElem?_cons_succ] at c0 d0 c1 d1 c2 d2
        subst hA hB
        have hkn : (k : Int) < n := by omega
        have h0k : (0 : Int) ≤ k := by omega
        have Hst := hidden (take_eq_step hx hy)
        have Hne := hidden (ne_of_step hx hy)
        clear hrx hry hcx hcy hx hy hm hcx' hcy'
        go_wp2_with fail
        go_region
        by_cases hxy : x = y
        · have hcmp : (!decide (x = y)) = false := by simp [hxy]
          rw [hcmp]
          go_wp2_with fail
          go_roundw
          case rel => exact ⟨k + 1, by omega, by go_num, Hst.out.2 ⟨Htk.out, hxy⟩, Hmod.out.drew⟩
          case measure => simp [intOf]; omega
        · have hcmp : (!decide (x = y)) = true := by simp [hxy]
          rw [hcmp]
          go_wp2_with fail
          go_ret
          exact ⟨by rw [decide_eq_false (Hne.out hxy)]; rfl, Hmod.out.drew⟩
      · obtain rfl : k = n := by omega
        have Heq : Hid (xs = ys) := hidden (by
          have := Htk.out
          rwa [List.take_of_length_le (by rw [Hn.out]; exact Nat.le_refl _), List.take_of_length_le (by rw [Hm.out]; exact Nat.le_refl _)] at this)
        have hkn : ¬ (k : Int) < k := by omega
        clear hm
        go_wp2_with fail
        go_ret
        exact ⟨by rw [decide_eq_true Heq.out]; rfl, Hmod.out⟩
  · have Hne : Hid (xs ≠ ys) := hidden (by rintro rfl; exact hnm (Hn.out.trans Hm.out.symm))
    have hnm' : ¬ (n : Int) = m := by omega
    go_enter Tryz.func35, Tryz.ntmps35
    go_wp2_with fail
    go_ret
    exact ⟨by rw [decide_eq_false Hne.out]; rfl, Mod.refl _ _⟩
set_option maxHeartbeats 1000000 in
theorem eqOuts_calls (A B : Option Addr) (n m k1 k2 : Nat) (w : World) (F G : Fp) (xs ys : List POut) (hn : n = xs.length) (hm : m = ys.length) (h : (cSl cOut).rd w F [.slice A n k1] xs) (h' : (cSl cOut).rd w G [.slice B m k2] ys) (hlen : n ≤ 1000000) :
    Calls Tryz.prog 36 #[.slice A n k1, .slice B m k2] w (BoolPost (decide (xs = ys)) w) := by
  have Hn := hidden hn
  have Hm := hidden hm
  have Hx : Hid (∀ W, Mod (fun _ => False) w W → (cSl cOut).rd W F [.slice A n k1] xs) := hidden fun W hW => (cSl cOut).mod h hW fun _ _ _ q => q
  have Hy : Hid (∀ W, Mod (fun _ => False) w W → (cSl cOut).rd W G [.slice B m k2] ys) := hidden fun W hW => (cSl cOut).mod h' hW fun _ _ _ q => q
  clear hn hm h h'
  by_cases hnm : n = m
  · subst hnm
    go_enter Tryz.func36, Tryz.ntmps36
    go_wp2_with fail
    go_loopw [13] (fun i wr => ∃ k : Nat, k ≤ n ∧ i = .int .i64 k ∧ xs.take k = ys.take k ∧ Mod (fun _ => False) w wr) (fun i _ => n - (intOf i).toNat)
    case atStart => exact ⟨0, Nat.zero_le _, rfl, rfl, Mod.refl _ _⟩
    case round =>
      obtain ⟨k, hk, rfl, htk, hm⟩ := hrel
      have Htk := hidden htk
      have Hmod := hidden hm
      clear htk
      by_cases hlt : k < n
      · have hkx : k < xs.length := by rw [← Hn.out]; exact hlt
        have hky : k < ys.length := by rw [← Hm.out]; exact hlt
        obtain ⟨x, hx⟩ : ∃ x, xs[k]? = some x := ⟨_, List.getElem?_eq_getElem hkx⟩
        obtain ⟨y, hy⟩ : ∃ y, ys[k]? = some y := ⟨_, List.getElem?_eq_getElem hky⟩
        have hrx := Hx.out wr hm
        have hry := Hy.out wr hm
        rw [Hn.out] at hrx
        rw [Hm.out] at hry
        obtain ⟨bx, offx, hA, _, _, hrx⟩ := cSl_at hrx (by rintro rfl; simp at hkx)
        obtain ⟨by_, offy, hB, _, _, hry⟩ := cSl_at hry (by rintro rfl; simp at hky)
        obtain ⟨cs, hcx', hcx⟩ := hrx.get k x hx
        obtain ⟨ds, hcy', hcy⟩ := hry.get k y hy
        obtain ⟨rfl, hxs⟩ := cOut_iff.1 hcx'
        obtain ⟨rfl, hys⟩ := cOut_iff.1 hcy'
        have hcmp0 := eqOutS x y
        have c0 := hcx 0 (by decide)
        have d0 := hcy 0 (by decide)
        have c1 := hcx 1 (by decide)
        have d1 := hcy 1 (by decide)
        simp only [show cOut.size = 2 from rfl, Nat.add_zero, List.getElem?_cons_zero, List.getElem?_cons_succ] at c0 d0 c1 d1
        subst hA hB
        have hkn : (k : Int) < n := by omega
        have h0k : (0 : Int) ≤ k := by omega
        have Hst := hidden (take_eq_step hx hy)
        have Hne := hidden (ne_of_step hx hy)
        clear hrx hry hcx hcy hx hy hm hcx' hcy'
        go_wp2_with fail
        go_region
        by_cases hxy : x = y
        · have hcmp : (!decide (x = y)) = false := by simp [hxy]
          rw [hcmp]
          go_wp2_with fail
          go_roundw
          case rel => exact ⟨k + 1, by omega, by go_num, Hst.out.2 ⟨Htk.out, hxy⟩, Hmod.out.drew⟩
          case measure => simp [intOf]; omega
        · have hcmp : (!decide (x = y)) = true := by simp [hxy]
          rw [hcmp]
          go_wp2_with fail
          go_ret
          exact ⟨by rw [decide_eq_false (Hne.out hxy)]; rfl, Hmod.out.drew⟩
      · obtain rfl : k = n := by omega
        have Heq : Hid (xs = ys) := hidden (by
          have := Htk.out
          rwa [List.take_of_length_le (by rw [Hn.out]; exact Nat.le_refl _), List.take_of_length_le (by rw [Hm.out]; exact Nat.le_refl _)] at this)
        have hkn : ¬ (k : Int) < k := by omega
        clear hm
        go_wp2_with fail
        go_ret
        exact ⟨by rw [decide_eq_true Heq.out]; rfl, Hmod.out⟩
  · have Hne : Hid (xs ≠ ys) := hidden (by rintro rfl; exact hnm (Hn.out.trans Hm.out.symm))
    have hnm' : ¬ (n : Int) = m := by omega
    go_enter Tryz.func36, Tryz.ntmps36
    go_wp2_with fail
    go_ret
    exact ⟨by rw [decide_eq_false Hne.out]; rfl, Mod.refl _ _⟩
set_option maxHeartbeats 1000000 in
theorem eqVers_calls (A B : Option Addr) (n m k1 k2 : Nat) (w : World) (F G : Fp) (xs ys : List PVer) (hn : n = xs.length) (hm : m = ys.length) (h : (cSl cVer).rd w F [.slice A n k1] xs) (h' : (cSl cVer).rd w G [.slice B m k2] ys) (hlen : n ≤ 1000000) :
    Calls Tryz.prog 37 #[.slice A n k1, .slice B m k2] w (BoolPost (decide (xs = ys)) w) := by
  have Hn := hidden hn
  have Hm := hidden hm
  have Hx : Hid (∀ W, Mod (fun _ => False) w W → (cSl cVer).rd W F [.slice A n k1] xs) := hidden fun W hW => (cSl cVer).mod h hW fun _ _ _ q => q
  have Hy : Hid (∀ W, Mod (fun _ => False) w W → (cSl cVer).rd W G [.slice B m k2] ys) := hidden fun W hW => (cSl cVer).mod h' hW fun _ _ _ q => q
  clear hn hm h h'
  by_cases hnm : n = m
  · subst hnm
    go_enter Tryz.func37, Tryz.ntmps37
    go_wp2_with fail
    go_loopw [13] (fun i wr => ∃ k : Nat, k ≤ n ∧ i = .int .i64 k ∧ xs.take k = ys.take k ∧ Mod (fun _ => False) w wr) (fun i _ => n - (intOf i).toNat)
    case atStart => exact ⟨0, Nat.zero_le _, rfl, rfl, Mod.refl _ _⟩
    case round =>
      obtain ⟨k, hk, rfl, htk, hm⟩ := hrel
      have Htk := hidden htk
      have Hmod := hidden hm
      clear htk
      by_cases hlt : k < n
      · have hkx : k < xs.length := by rw [← Hn.out]; exact hlt
        have hky : k < ys.length := by rw [← Hm.out]; exact hlt
        obtain ⟨x, hx⟩ : ∃ x, xs[k]? = some x := ⟨_, List.getElem?_eq_getElem hkx⟩
        obtain ⟨y, hy⟩ : ∃ y, ys[k]? = some y := ⟨_, List.getElem?_eq_getElem hky⟩
        have hrx := Hx.out wr hm
        have hry := Hy.out wr hm
        rw [Hn.out] at hrx
        rw [Hm.out] at hry
        obtain ⟨bx, offx, hA, _, _, hrx⟩ := cSl_at hrx (by rintro rfl; simp at hkx)
        obtain ⟨by_, offy, hB, _, _, hry⟩ := cSl_at hry (by rintro rfl; simp at hky)
        obtain ⟨cs, hcx', hcx⟩ := hrx.get k x hx
        obtain ⟨ds, hcy', hcy⟩ := hry.get k y hy
        obtain ⟨rfl, hxs⟩ := cVer_iff.1 hcx'
        obtain ⟨rfl, hys⟩ := cVer_iff.1 hcy'
        have hcmp0 := eqVerS x y
        have c0 := hcx 0 (by decide)
        have d0 := hcy 0 (by decide)
        have c1 := hcx 1 (by decide)
        have d1 := hcy 1 (by decide)
        have c2 := hcx 2 (by decide)
        have d2 := hcy 2 (by decide)
        have c3 := hcx 3 (by decide)
        have d3 := hcy 3 (by decide)
        simp only [show cVer.size = 4 from rfl, Nat.add_zero, List.getElem?_cons_zero, List.getElem?_cons_succ] at c0 d0 c1 d1 c2 d2 c3 d3
        subst hA hB
        have hkn : (k : Int) < n := by omega
        have h0k : (0 : Int) ≤ k := by omega
        have Hst := hidden (take_eq_step hx hy)
        have Hne := hidden (ne_of_step hx hy)
        clear hrx hry hcx hcy hx hy hm hcx' hcy'
        go_wp2_with fail
        go_region
        by_cases hxy : x = y
        · have hcmp : (!decide (x = y)) = false := by simp [hxy]
          rw [hcmp]
          go_wp2_with fail
          go_roundw
          case rel => exact ⟨k + 1, by omega, by go_num, Hst.out.2 ⟨Htk.out, hxy⟩, Hmod.out.drew⟩
          case measure => simp [intOf]; omega
        · have hcmp : (!decide (x = y)) = true := by simp [hxy]
          rw [hcmp]
          go_wp2_with fail
          go_ret
          exact ⟨by rw [decide_eq_false (Hne.out hxy)]; rfl, Hmod.out.drew⟩
      · obtain rfl : k = n := by omega
        have Heq : Hid (xs = ys) := hidden (by
          have := Htk.out
          rwa [List.take_of_length_le (by rw [Hn.out]; exact Nat.le_refl _), List.take_of_length_le (by rw [Hm.out]; exact Nat.le_refl _)] at this)
        have hkn : ¬ (k : Int) < k := by omega
        clear hm
        go_wp2_with fail
        go_ret
        exact ⟨by rw [decide_eq_true Heq.out]; rfl, Hmod.out⟩
  · have Hne : Hid (xs ≠ ys) := hidden (by rintro rfl; exact hnm (Hn.out.trans Hm.out.symm))
    have hnm' : ¬ (n : Int) = m := by omega
    go_enter Tryz.func37, Tryz.ntmps37
    go_wp2_with fail
    go_ret
    exact ⟨by rw [decide_eq_false Hne.out]; rfl, Mod.refl _ _⟩
set_option maxHeartbeats 1000000 in
theorem eqEffs_calls (A B : Option Addr) (n m k1 k2 : Nat) (w : World) (F G : Fp) (xs ys : List PEff) (hn : n = xs.length) (hm : m = ys.length) (h : (cSl cEff).rd w F [.slice A n k1] xs) (h' : (cSl cEff).rd w G [.slice B m k2] ys) (hlen : n ≤ 1000000) :
    Calls Tryz.prog 34 #[.slice A n k1, .slice B m k2] w (BoolPost (decide (xs = ys)) w) := by
  have Hn := hidden hn
  have Hm := hidden hm
  have Hx : Hid (∀ W, Mod (fun _ => False) w W → (cSl cEff).rd W F [.slice A n k1] xs) := hidden fun W hW => (cSl cEff).mod h hW fun _ _ _ q => q
  have Hy : Hid (∀ W, Mod (fun _ => False) w W → (cSl cEff).rd W G [.slice B m k2] ys) := hidden fun W hW => (cSl cEff).mod h' hW fun _ _ _ q => q
  clear hn hm h h'
  by_cases hnm : n = m
  · subst hnm
    go_enter Tryz.func34, Tryz.ntmps34
    go_wp2_with fail
    go_loopw [13] (fun i wr => ∃ k : Nat, k ≤ n ∧ i = .int .i64 k ∧ xs.take k = ys.take k ∧ Mod (fun _ => False) w wr) (fun i _ => n - (intOf i).toNat)
    case atStart => exact ⟨0, Nat.zero_le _, rfl, rfl, Mod.refl _ _⟩
    case round =>
      obtain ⟨k, hk, rfl, htk, hm⟩ := hrel
      have Htk := hidden htk
      have Hmod := hidden hm
      clear htk
      by_cases hlt : k < n
      · have hkx : k < xs.length := by rw [← Hn.out]; exact hlt
        have hky : k < ys.length := by rw [← Hm.out]; exact hlt
        obtain ⟨x, hx⟩ : ∃ x, xs[k]? = some x := ⟨_, List.getElem?_eq_getElem hkx⟩
        obtain ⟨y, hy⟩ : ∃ y, ys[k]? = some y := ⟨_, List.getElem?_eq_getElem hky⟩
        have hrx := Hx.out wr hm
        have hry := Hy.out wr hm
        rw [Hn.out] at hrx
        rw [Hm.out] at hry
        obtain ⟨bx, offx, hA, _, _, hrx⟩ := cSl_at hrx (by rintro rfl; simp at hkx)
        obtain ⟨by_, offy, hB, _, _, hry⟩ := cSl_at hry (by rintro rfl; simp at hky)
        obtain ⟨cs, hcx', hcx⟩ := hrx.get k x hx
        obtain ⟨ds, hcy', hcy⟩ := hry.get k y hy
        obtain ⟨rfl, hxs⟩ := cEff_iff.1 hcx'
        obtain ⟨rfl, hys⟩ := cEff_iff.1 hcy'
        have hcmp0 := eqEffS x y
        have c0 := hcx 0 (by decide)
        have d0 := hcy 0 (by decide)
        have c1 := hcx 1 (by decide)
        have d1 := hcy 1 (by decide)
        have c2 := hcx 2 (by decide)
        have d2 := hcy 2 (by decide)
        simp only [show cEff.size = 3 from rfl, Nat.add_zero, List.getElem?_cons_zero, List.getElem?_cons_succ] at c0 d0 c1 d1 c2 d2
        subst hA hB
        have hkn : (k : Int) < n := by omega
        have h0k : (0 : Int) ≤ k := by omega
        have Hst := hidden (take_eq_step hx hy)
        have Hne := hidden (ne_of_step hx hy)
        clear hrx hry hcx hcy hx hy hm hcx' hcy'
        go_wp2_with fail
        go_region
        by_cases hxy : x = y
        · have hcmp : (!decide (x = y)) = false := by simp [hxy]
          rw [hcmp]
          go_wp2_with fail
          go_roundw
          case rel => exact ⟨k + 1, by omega, by go_num, Hst.out.2 ⟨Htk.out, hxy⟩, Hmod.out.drew⟩
          case measure => simp [intOf]; omega
        · have hcmp : (!decide (x = y)) = true := by simp [hxy]
          rw [hcmp]
          go_wp2_with fail
          go_ret
          exact ⟨by rw [decide_eq_false (Hne.out hxy)]; rfl, Hmod.out.drew⟩
      · obtain rfl : k = n := by omega
        have Heq : Hid (xs = ys) := hidden (by
          have := Htk.out
          rwa [List.take_of_length_le (by rw [Hn.out]; exact Nat.le_refl _), List.take_of_length_le (by rw [Hm.out]; exact Nat.le_refl _)] at this)
        have hkn : ¬ (k : Int) < k := by omega
        clear hm
        go_wp2_with fail
        go_ret
        exact ⟨by rw [decide_eq_true Heq.out]; rfl, Hmod.out⟩
  · have Hne : Hid (xs ≠ ys) := hidden (by rintro rfl; exact hnm (Hn.out.trans Hm.out.symm))
    have hnm' : ¬ (n : Int) = m := by omega
    go_enter Tryz.func34, Tryz.ntmps34
    go_wp2_with fail
    go_ret
    exact ⟨by rw [decide_eq_false Hne.out]; rfl, Mod.refl _ _⟩
end Go.Proofs.YthgibbekfcenhaaGreatDoor
