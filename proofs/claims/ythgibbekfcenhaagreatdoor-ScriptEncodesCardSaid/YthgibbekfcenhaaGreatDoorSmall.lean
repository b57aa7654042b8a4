/- What is no more than is asked is small. -/
import Derived.Test.YthgibbekfcenhaaGreatDoorLongW
import Derived.Test.YthgibbekfcenhaaGreatDoorOk
import Derived.Test.YthgibbekfcenhaaGreatDoorSameC
namespace Go.Proofs.YthgibbekfcenhaaGreatDoor
open Go.RowKit

theorem small_of {c : PCase} (h : NoMore c.world c.args) (hp : c.picks.length ≤ 40) : SmallC c := by
  have l1 := okMany_len h.files
  have l2 := okMany_len h.vars
  have l3 := okMany_len h.outputs
  have l4 := okMany_len h.outcomes
  have l5 := okMany_len h.verdicts
  have l6 := okMany_len h.args
  refine ⟨⟨by omega, by omega, by omega, by omega, by omega, fun o ho => ?_⟩, fun v hv => ?_, by omega, by omega⟩
  · have := l4.2 o ho
    simp only [lgOutc, Bool.and_eq_true] at this
    have := okMany_len this.2
    omega
  · have := l2.2 v hv
    simp only [lgVar, Bool.and_eq_true] at this
    have := okMany_len this.2
    omega
theorem sum_one {α : Type} (xs : List α) : wMany (fun _ => 1) xs = 1 + xs.length := by
  unfold wMany
  congr 1
  induction xs with
  | nil => rfl
  | cons x xs ih => simp only [List.map_cons, List.sum_cons, List.length_cons, ih]; omega
theorem wsmall_of {c : PCase} (h : NoMore c.world c.args) (hp : c.picks.length ≤ 40) : wCase c ≤ 4294967296 := by
  have w1 := okMany_wt (wt := fun x : PFile => (1 + x.name.size) + (1 + x.content.size) + 1) (B := 2000) h.files fun x hx => by
    simp only [lgFile, Bool.and_eq_true] at hx
    have := okText_le hx.1; have := okText_le hx.2; omega
  have w2 := okMany_wt (wt := fun x : PVar => (1 + x.name.size) + wMany (fun x : ByteArray => 1 + x.size) x.words + 1) (B := 20000) h.vars fun x hx => by
    simp only [lgVar, Bool.and_eq_true] at hx
    have := okText_le hx.1
    have := okMany_wt (wt := fun x : ByteArray => 1 + x.size) (B := 201) hx.2 fun y hy => by have := okText_le hy; omega
    omega
  have w3 := okMany_wt (wt := fun x : POut => (1 + x.command.size) + (1 + x.text.size)) (B := 2000) h.outputs fun x hx => by
    simp only [lgOut, Bool.and_eq_true] at hx
    have := okText_le hx.1; have := okText_le hx.2; omega
  have w4 := okMany_wt (wt := fun x : POutc => (1 + x.target.size) + 1 + wMany (fun x : PEff => 1 + (1 + x.name.size) + (1 + x.text.size)) x.effects) (B := 20000) h.outcomes fun x hx => by
    simp only [lgOutc, Bool.and_eq_true] at hx
    have := okText_le hx.1
    have := okMany_wt (wt := fun x : PEff => 1 + (1 + x.name.size) + (1 + x.text.size)) (B := 2000) hx.2 fun y hy => by
      simp only [lgEff, Bool.and_eq_true] at hy
      have := okText_le hy.1; have := okText_le hy.2; omega
    omega
  have w5 := okMany_wt (wt := fun x : PVer => (1 + x.prog.size) + (1 + x.target.size) + (1 + x.prereq.size) + 1) (B := 2000) h.verdicts fun x hx => by
    simp only [lgVer, Bool.and_eq_true] at hx
    have := okText_le hx.1; have := okText_le hx.2.1; have := okText_le hx.2.2; omega
  have w6 := okMany_wt (wt := fun x : ByteArray => 1 + x.size) (B := 2000) h.args fun x hx => by have := okText_le hx; omega
  have w7 := sum_one c.picks
  unfold wCase
  omega
end Go.Proofs.YthgibbekfcenhaaGreatDoor
