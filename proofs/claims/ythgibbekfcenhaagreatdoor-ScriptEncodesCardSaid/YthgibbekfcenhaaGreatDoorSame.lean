/- The walks of the document's comparisons. -/
import Derived.Test.YthgibbekfcenhaaGreatDoorCopyE
import Derived.BigRegion
namespace Go.Proofs.YthgibbekfcenhaaGreatDoor
open Go.RowKit

/-- An answer that is one bool. -/
def BoolPost (b : Bool) (w : World) (e : Ending) (w' : World) : Prop := e = .returned (.bool b) ∧ Mod (fun _ => False) w w'
theorem toList_beq (x y : ByteArray) : (x.toList == y.toList) = decide (x = y) := by
  rw [ByteArray.toList_eq, ByteArray.toList_eq]
  by_cases h : x = y
  · subst h; simp
  · rw [decide_eq_false h, beq_eq_false_iff_ne]
    exact fun q => h (ByteArray.ext (Array.ext' q))
theorem take_eq_step {α : Type} {xs ys : List α} {k : Nat} {x y : α} (hx : xs[k]? = some x) (hy : ys[k]? = some y) : xs.take (k + 1) = ys.take (k + 1) ↔ xs.take k = ys.take k ∧ x = y := by
  rw [List.take_add_one, List.take_add_one, hx, hy]
  have hl : (xs.take k).length = (ys.take k).length := by
    have := (List.getElem?_eq_some_iff.1 hx).1
    have := (List.getElem?_eq_some_iff.1 hy).1
    simp; omega
  constructor
  · intro h
    obtain ⟨h1, h2⟩ := List.append_inj h hl
    exact ⟨h1, by simpa using h2⟩
  · rintro ⟨h1, rfl⟩
    rw [h1]
theorem ne_of_step {α : Type} {xs ys : List α} {k : Nat} {x y : α} (hx : xs[k]? = some x) (hy : ys[k]? = some y) (h : x ≠ y) : xs ≠ ys := by
  rintro rfl
  rw [hx] at hy
  exact h (by simpa using hy)

set_option maxHeartbeats 1000000 in
theorem sameTexts_calls (A B : Option Addr) (n m k1 k2 : Nat) (w : World) (F G : Fp) (xs ys : List ByteArray) (hn : n = xs.length) (hm : m = ys.length) (h : (cSl cStr).rd w F [.slice A n k1] xs) (h' : (cSl cStr).rd w G [.slice B m k2] ys) (hlen : n ≤ 1000000) :
    Calls Tryz.prog 26 #[.slice A n k1, .slice B m k2] w (BoolPost (decide (xs = ys)) w) := by
  have Hn := hidden hn
  have Hm := hidden hm
  have Hx : Hid (∀ W, Mod (fun _ => False) w W → (cSl cStr).rd W F [.slice A n k1] xs) := hidden fun W hW => (cSl cStr).mod h hW fun _ _ _ q => q
  have Hy : Hid (∀ W, Mod (fun _ => False) w W → (cSl cStr).rd W G [.slice B m k2] ys) := hidden fun W hW => (cSl cStr).mod h' hW fun _ _ _ q => q
  clear hn hm h h'
  by_cases hnm : n = m
  · subst hnm
    go_enter Tryz.func26, Tryz.ntmps26
    go_wp2_with fail
    go_loopw [13] (fun i wr => ∃ k : Nat, k ≤ n ∧ i = .int .i64 k ∧ xs.take k = ys.take k ∧ Mod (fun _ => False) w wr) (fun i _ => n - (intOf i).toNat)
    case atStart => exact ⟨0, Nat.zero_le _, rfl, rfl, Mod.refl _ _⟩
    case round =>
      obtain ⟨k, hk, rfl, htk, hm⟩ := hrel
      have Htk := hidden htk
      have Hmod := hidden hm
      clear htk
      by_cases hlt : k < n
      · have hkx : k < xs.length := by rw [← Hn.out]; exact hlt
        have hky : k < ys.length := by rw [← Hm.out]; exact hlt
        obtain ⟨x, hx⟩ : ∃ x, xs[k]? = some x := ⟨_, List.getElem?_eq_getElem hkx⟩
        obtain ⟨y, hy⟩ : ∃ y, ys[k]? = some y := ⟨_, List.getElem?_eq_getElem hky⟩
        have hrx := Hx.out wr hm
        have hry := Hy.out wr hm
        rw [Hn.out] at hrx
        rw [Hm.out] at hry
        obtain ⟨bx, offx, hA, _, _, hrx⟩ := cSl_at hrx (by rintro rfl; simp at hkx)
        obtain ⟨by_, offy, hB, _, _, hry⟩ := cSl_at hry (by rintro rfl; simp at hky)
        obtain ⟨cs, ⟨rfl, hxs⟩, hcx⟩ := hrx.get k x hx
        obtain ⟨cs, ⟨rfl, hys⟩, hcy⟩ := hry.get k y hy
        have c0 := hcx 0 (by decide)
        have d0 := hcy 0 (by decide)
        simp only [show cStr.size = 1 from rfl, Nat.mul_one, Nat.add_zero, List.getElem?_cons_zero] at c0 d0
        subst hA hB
        have hkn : (k : Int) < n := by omega
        have h0k : (0 : Int) ≤ k := by omega
        have Hst := hidden (take_eq_step hx hy)
        have Hne := hidden (ne_of_step hx hy)
        clear hrx hry hcx hcy hx hy hm
        go_wp2_with fail
        go_region
        by_cases hxy : x = y
        · have hcmp : (!x.toList == y.toList) = false := by rw [hxy]; simp
          rw [hcmp]
          go_wp2_with fail
          go_roundw
          case rel => exact ⟨k + 1, by omega, by go_num, Hst.out.2 ⟨Htk.out, hxy⟩, Hmod.out.drew⟩
          case measure => simp [intOf]; omega
        · have hcmp : (!x.toList == y.toList) = true := by rw [toList_beq, decide_eq_false hxy]; rfl
          rw [hcmp]
          go_wp2_with fail
          go_ret
          exact ⟨by rw [decide_eq_false (Hne.out hxy)]; rfl, Hmod.out.drew⟩
      · obtain rfl : k = n := by omega
        have Heq : Hid (xs = ys) := hidden (by
          have := Htk.out
          rwa [List.take_of_length_le (by rw [Hn.out]; exact Nat.le_refl _), List.take_of_length_le (by rw [Hm.out]; exact Nat.le_refl _)] at this)
        have hkn : ¬ (k : Int) < k := by omega
        clear hm
        go_wp2_with fail
        go_ret
        exact ⟨by rw [decide_eq_true Heq.out]; rfl, Hmod.out⟩
  · have Hne : Hid (xs ≠ ys) := hidden (by rintro rfl; exact hnm (Hn.out.trans Hm.out.symm))
    have hnm' : ¬ (n : Int) = m := by omega
    go_enter Tryz.func26, Tryz.ntmps26
    go_wp2_with fail
    go_ret
    exact ⟨by rw [decide_eq_false Hne.out]; rfl, Mod.refl _ _⟩
set_option maxHeartbeats 1000000 in
theorem sameInts_calls (A B : Option Addr) (n m k1 k2 : Nat) (w : World) (F G : Fp) (xs ys : List Int) (hn : n = xs.length) (hm : m = ys.length) (h : (cSl cI64).rd w F [.slice A n k1] xs) (h' : (cSl cI64).rd w G [.slice B m k2] ys) (hlen : n ≤ 1000000) :
    Calls Tryz.prog 27 #[.slice A n k1, .slice B m k2] w (BoolPost (decide (xs = ys)) w) := by
  have Hn := hidden hn
  have Hm := hidden hm
  have Hx : Hid (∀ W, Mod (fun _ => False) w W → (cSl cI64).rd W F [.slice A n k1] xs) := hidden fun W hW => (cSl cI64).mod h hW fun _ _ _ q => q
  have Hy : Hid (∀ W, Mod (fun _ => False) w W → (cSl cI64).rd W G [.slice B m k2] ys) := hidden fun W hW => (cSl cI64).mod h' hW fun _ _ _ q => q
  clear hn hm h h'
  by_cases hnm : n = m
  · subst hnm
    go_enter Tryz.func27, Tryz.ntmps27
    go_wp2_with fail
    go_loopw [13] (fun i wr => ∃ k : Nat, k ≤ n ∧ i = .int .i64 k ∧ xs.take k = ys.take k ∧ Mod (fun _ => False) w wr) (fun i _ => n - (intOf i).toNat)
    case atStart => exact ⟨0, Nat.zero_le _, rfl, rfl, Mod.refl _ _⟩
    case round =>
      obtain ⟨k, hk, rfl, htk, hm⟩ := hrel
      have Htk := hidden htk
      have Hmod := hidden hm
      clear htk
      by_cases hlt : k < n
      · have hkx : k < xs.length := by rw [← Hn.out]; exact hlt
        have hky : k < ys.length := by rw [← Hm.out]; exact hlt
        obtain ⟨x, hx⟩ : ∃ x, xs[k]? = some x := ⟨_, List.getElem?_eq_getElem hkx⟩
        obtain ⟨y, hy⟩ : ∃ y, ys[k]? = some y := ⟨_, List.getElem?_eq_getElem hky⟩
        have hrx := Hx.out wr hm
        have hry := Hy.out wr hm
        rw [Hn.out] at hrx
        rw [Hm.out] at hry
        obtain ⟨bx, offx, hA, _, _, hrx⟩ := cSl_at hrx (by rintro rfl; simp at hkx)
        obtain ⟨by_, offy, hB, _, _, hry⟩ := cSl_at hry (by rintro rfl; simp at hky)
        obtain ⟨cs, ⟨rfl, hxs⟩, hcx⟩ := hrx.get k x hx
        obtain ⟨cs, ⟨rfl, hys⟩, hcy⟩ := hry.get k y hy
        have c0 := hcx 0 (by decide)
        have d0 := hcy 0 (by decide)
        simp only [show cI64.size = 1 from rfl, Nat.mul_one, Nat.add_zero, List.getElem?_cons_zero] at c0 d0
        subst hA hB
        have hkn : (k : Int) < n := by omega
        have h0k : (0 : Int) ≤ k := by omega
        have Hst := hidden (take_eq_step hx hy)
        have Hne := hidden (ne_of_step hx hy)
        clear hrx hry hcx hcy hx hy hm
        go_wp2_with fail
        go_region
        by_cases hxy : x = y
        · have hcmp : (x != y) = false := by rw [hxy]; simp
          rw [hcmp]
          go_wp2_with fail
          go_roundw
          case rel => exact ⟨k + 1, by omega, by go_num, Hst.out.2 ⟨Htk.out, hxy⟩, Hmod.out.drew⟩
          case measure => simp [intOf]; omega
        · have hcmp : (x != y) = true := by simp [hxy]
          rw [hcmp]
          go_wp2_with fail
          go_ret
          exact ⟨by rw [decide_eq_false (Hne.out hxy)]; rfl, Hmod.out.drew⟩
      · obtain rfl : k = n := by omega
        have Heq : Hid (xs = ys) := hidden (by
          have := Htk.out
          rwa [List.take_of_length_le (by rw [Hn.out]; exact Nat.le_refl _), List.take_of_length_le (by rw [Hm.out]; exact Nat.le_refl _)] at this)
        have hkn : ¬ (k : Int) < k := by omega
        clear hm
        go_wp2_with fail
        go_ret
        exact ⟨by rw [decide_eq_true Heq.out]; rfl, Hmod.out⟩
  · have Hne : Hid (xs ≠ ys) := hidden (by rintro rfl; exact hnm (Hn.out.trans Hm.out.symm))
    have hnm' : ¬ (n : Int) = m := by omega
    go_enter Tryz.func27, Tryz.ntmps27
    go_wp2_with fail
    go_ret
    exact ⟨by rw [decide_eq_false Hne.out]; rfl, Mod.refl _ _⟩

theorem var_cells {w : World} {F : Fp} {v : PVar} {a1 a2 a3 a4 : Value} (h : cVar.rd w F [a1, a2, a3, a4] v) : ∃ A cap, a1 = .string v.name ∧ a2 = .slice A v.words.length cap ∧ a3 = .int .i64 v.level ∧ a4 = .bool v.hidden ∧ (cSl cStr).rd w F [.slice A v.words.length cap] v.words := by
  obtain ⟨p, q, he, ⟨rfl, h1⟩, p', q', rfl, ⟨A, cap, rfl, h3⟩, p3, q3, rfl, ⟨rfl, h4⟩, rfl⟩ := h
  simp only [List.cons_append, List.nil_append, List.cons.injEq, and_true] at he
  obtain ⟨rfl, rfl, rfl, rfl⟩ := he
  exact ⟨A, cap, rfl, rfl, rfl, rfl, A, cap, rfl, h3⟩

set_option maxHeartbeats 1000000 in
theorem sameVar_calls (w : World) (F G : Fp) (x y : PVar) (a1 a2 a3 a4 b1 b2 b3 b4 : Value) (h : cVar.rd w F [a1, a2, a3, a4] x) (h' : cVar.rd w G [b1, b2, b3, b4] y) (hlen : x.words.length ≤ 1000000) :
    Calls Tryz.prog 80 #[.agg #[a1, a2, a3, a4], .agg #[b1, b2, b3, b4]] w (BoolPost (decide (x = y)) w) := by
  obtain ⟨A, k1, rfl, rfl, rfl, rfl, hx⟩ := var_cells h
  obtain ⟨B, k2, rfl, rfl, rfl, rfl, hy⟩ := var_cells h'
  obtain ⟨xn, xw, xl, xh⟩ := x
  obtain ⟨yn, yw, yl, yh⟩ := y
  simp only at *
  have Hdec : Hid (decide ((⟨xn, xw, xl, xh⟩ : PVar) = ⟨yn, yw, yl, yh⟩) = (decide (xn = yn) && (decide (xl = yl) && (decide (xh = yh) && decide (xw = yw))))) := hidden (by
    simp only [PVar.mk.injEq]
    by_cases q1 : xn = yn <;> by_cases q2 : xw = yw <;> by_cases q3 : xl = yl <;> by_cases q4 : xh = yh <;> simp [q1, q2, q3, q4])
  have Hx : Hid (∀ W, Mod (fun _ => False) w W → (cSl cStr).rd W F [.slice A xw.length k1] xw) := hidden fun W hW => (cSl cStr).mod hx hW fun _ _ _ q => q
  have Hy : Hid (∀ W, Mod (fun _ => False) w W → (cSl cStr).rd W G [.slice B yw.length k2] yw) := hidden fun W hW => (cSl cStr).mod hy hW fun _ _ _ q => q
  have Hm : Hid (∀ o o', Mod (fun _ => False) w ((w.alloc o).alloc o')) := hidden fun o o' => ((Mod.refl _ _).alloc _).alloc _
  clear h h' hx hy
  generalize hn : xw.length = n at *
  generalize hm : yw.length = m at *
  have Hn := hidden hn
  have Hmm := hidden hm
  clear hn hm
  have H1 := hidden (toList_beq xn yn)
  by_cases h1 : xn = yn
  · have c1 : (xn.toList == yn.toList) = true := by rw [H1.out, decide_eq_true h1]
    by_cases h2 : xl = yl
    · have c2 : (xl == yl) = true := by simp [h2]
      by_cases h3 : xh = yh
      · have c3 : (xh == yh) = true := by simp [h3]
        have Ha := hidden h1; have Hb := hidden h2; have Hc := hidden h3
        clear h1 h2 h3
        go_enter Tryz.func80, Tryz.ntmps80
        go_wp2_with (go_at_call 26; (with_reducible refine (sameTexts_calls _ _ _ _ _ _ _ _ _ _ _ Hn.out.symm Hmm.out.symm (Hx.out _ (Hm.out _ _)) (Hy.out _ (Hm.out _ _)) hlen).mono ?_); rintro e w2 ⟨rfl, hm2⟩; have Hm2 := hidden hm2; clear hm2)
        go_ret
        exact ⟨by rw [Hdec.out, decide_eq_true Ha.out, decide_eq_true Hb.out, decide_eq_true Hc.out]; rfl, (Hm.out _ _).trans Hm2.out⟩
      · have c3 : (xh == yh) = false := by simp [h3]
        go_enter Tryz.func80, Tryz.ntmps80
        go_wp2_with fail
        go_ret
        exact ⟨by rw [Hdec.out]; simp [*], Hm.out _ _⟩
    · have c2 : (xl == yl) = false := by simp [h2]
      go_enter Tryz.func80, Tryz.ntmps80
      go_wp2_with fail
      go_ret
      exact ⟨by rw [Hdec.out]; simp [*], Hm.out _ _⟩
  · have c1 : (xn.toList == yn.toList) = false := by rw [H1.out, decide_eq_false h1]
    go_enter Tryz.func80, Tryz.ntmps80
    go_wp2_with fail
    go_ret
    exact ⟨by rw [Hdec.out]; simp [*], Hm.out _ _⟩
end Go.Proofs.YthgibbekfcenhaaGreatDoor
