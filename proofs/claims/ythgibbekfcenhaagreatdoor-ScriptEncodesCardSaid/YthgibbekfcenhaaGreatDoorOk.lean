/- A plain case is small. -/
import Derived.Test.YthgibbekfcenhaaGreatDoorWritten
namespace Go.Proofs.YthgibbekfcenhaaGreatDoor
open Go.RowKit

theorem okMany_len {α : Type} {m : Nat} {ok : α → Bool} {xs : List α} (h : okMany m ok xs = true) : xs.length ≤ m ∧ ∀ x ∈ xs, ok x = true := by
  simp only [okMany, Bool.and_eq_true, decide_eq_true_eq, List.all_eq_true] at h
  exact h
theorem okMany_wt {α : Type} {m B : Nat} {ok : α → Bool} {wt : α → Nat} {xs : List α} (h : okMany m ok xs = true) (hw : ∀ x, ok x = true → wt x ≤ B) : wMany wt xs ≤ 1 + m * B := by
  obtain ⟨h1, h2⟩ := okMany_len h
  have h3 : (xs.map wt).sum ≤ xs.length * B := by
    clear h h1
    induction xs with
    | nil => simp
    | cons x xs ih =>
      have := hw x (h2 x (by simp))
      have := ih fun y hy => h2 y (by simp [hy])
      simp only [List.map_cons, List.sum_cons, List.length_cons, Nat.succ_mul]
      omega
  have := Nat.mul_le_mul_right B h1
  unfold wMany
  omega
theorem okText_le {m : Nat} {s : ByteArray} (h : okText m s = true) : s.size ≤ m := by simpa [okText] using h
/-- A plain case is small. -/
theorem ok_small {c : PCase} (h : okCase c = true) : SmallC c ∧ wCase c ≤ 4294967296 := by
  simp only [okCase, Bool.and_eq_true] at h
  obtain ⟨h1, h2, h3, h4, h5, h6, h7⟩ := h
  have l1 := okMany_len h1
  have l2 := okMany_len h2
  have l3 := okMany_len h3
  have l4 := okMany_len h4
  have l5 := okMany_len h5
  have l6 := okMany_len h6
  have l7 := okMany_len h7
  constructor
  · refine ⟨⟨by omega, by omega, by omega, by omega, by omega, fun o ho => ?_⟩, fun v hv => ?_, by omega, by omega⟩
    · have := l4.2 o ho
      simp only [okOutc, Bool.and_eq_true] at this
      have := okMany_len this.2.2
      omega
    · have := l2.2 v hv
      simp only [okVar, Bool.and_eq_true] at this
      have := okMany_len this.2.1
      omega
  · have w1 := okMany_wt (wt := fun x : PFile => (1 + x.name.size) + (1 + x.content.size) + 1) (B := 300) h1 fun x hx => by
      simp only [okFile, Bool.and_eq_true] at hx
      have := okText_le hx.1; have := okText_le hx.2.1; omega
    have w2 := okMany_wt (wt := fun x : PVar => (1 + x.name.size) + wMany (fun x : ByteArray => 1 + x.size) x.words + 1) (B := 300) h2 fun x hx => by
      simp only [okVar, Bool.and_eq_true] at hx
      have := okText_le hx.1
      have := okMany_wt (wt := fun x : ByteArray => 1 + x.size) (B := 20) hx.2.1 fun y hy => by have := okText_le hy; omega
      omega
    have w3 := okMany_wt (wt := fun x : POut => (1 + x.command.size) + (1 + x.text.size)) (B := 300) h3 fun x hx => by
      simp only [okOut, Bool.and_eq_true] at hx
      have := okText_le hx.1; have := okText_le hx.2; omega
    have w4 := okMany_wt (wt := fun x : POutc => (1 + x.target.size) + 1 + wMany (fun x : PEff => 1 + (1 + x.name.size) + (1 + x.text.size)) x.effects) (B := 300) h4 fun x hx => by
      simp only [okOutc, Bool.and_eq_true] at hx
      have := okText_le hx.1
      have := okMany_wt (wt := fun x : PEff => 1 + (1 + x.name.size) + (1 + x.text.size)) (B := 40) hx.2.2 fun y hy => by
        simp only [okEff, Bool.and_eq_true] at hy
        have := okText_le hy.2.1; have := okText_le hy.2.2; omega
      omega
    have w5 := okMany_wt (wt := fun x : PVer => (1 + x.prog.size) + (1 + x.target.size) + (1 + x.prereq.size) + 1) (B := 300) h5 fun x hx => by
      simp only [okVer, Bool.and_eq_true] at hx
      have := okText_le hx.1; have := okText_le hx.2.1; have := okText_le hx.2.2; omega
    have w6 := okMany_wt (wt := fun x : ByteArray => 1 + x.size) (B := 300) h6 fun x hx => by have := okText_le hx; omega
    have w7 := okMany_wt (wt := fun _ : Int => 1) (B := 300) h7 fun x _ => by omega
    unfold wCase
    omega
end Go.Proofs.YthgibbekfcenhaaGreatDoor
