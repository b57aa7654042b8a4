/- The walk of law35's alive. -/
import Derived.Test.YthgibbekfcenhaaGreatDoorEncode
import Derived.Test.YthgibbekfcenhaaGreatDoorDecode
namespace Go.Proofs.YthgibbekfcenhaaGreatDoor
open Go.RowKit

/-- The chapter's counterpart: one argument, "a". -/
def aCase : PCase := ⟨⟨[], [], [], [], []⟩, [⟨#[97]⟩], []⟩
theorem pCase_nil : (pCase []).1 = ⟨⟨[], [], [], [], []⟩, [], []⟩ := rfl
theorem eCase_a : eCase aCase = [0, 0, 0, 0, 0, 1, 1, 97, 0] := by rfl
theorem okCase_a : okCase aCase = true := by rfl
theorem nil_rd {α : Type} {c : Cd α} {w : World} {F : Fp} : (cSl c).rd w F [nilS] [] := ⟨none, 0, rfl, Nat.le_refl _, Nat.zero_le _, fun h => absurd rfl h⟩

theorem alive_args {W : World} {b : Nat} (h : W.heap[b]? = some (.cells #[.string ⟨#[97]⟩] 9 (0, 0))) : cCase.rd W (· = b) [nilS, nilS, nilS, nilS, nilS, .slice (some ⟨b, 0, none⟩) 1 1, nilS] aCase := by
  refine ⟨[nilS, nilS, nilS, nilS, nilS], _, rfl, ⟨[_], _, rfl, nil_rd, [_], _, rfl, nil_rd, [_], _, rfl, nil_rd, [_], _, rfl, nil_rd, nil_rd⟩, [_], _, rfl, ?_, nil_rd⟩
  refine ⟨_, 1, rfl, Nat.le_refl _, by decide, fun _ => ⟨b, 0, rfl, rfl, (Array.getElem?_eq_some_iff.1 h).1, ⟨⟨[.string ⟨#[97]⟩], ⟨rfl, by decide⟩, ?_⟩, trivial⟩⟩⟩
  intro j hj
  obtain rfl : j = 0 := by have : cStr.size = 1 := rfl; omega
  exact cell_lit h rfl

set_option maxHeartbeats 1000000 in
theorem alive_calls (w : World) : Calls Tryz.prog 4 #[] w (BoolPost true w) := by
  go_enter Tryz.func4, Tryz.ntmps4
  go_wp2_with fail
  refine (decode_calls none 0 0 w [] rfl nil_rd).mono ?_
  rintro e w1 ⟨a1, a2, a3, a4, a5, a6, a7, rfl, hc, hb⟩
  rw [pCase_nil] at hc
  obtain ⟨R1, q1, R2, q2, R3, q3, R4, q4, R5, q5, R6, q6, R7, q7, he, _⟩ := case_cells hc
  simp only [List.cons.injEq, and_true, List.length_nil] at he
  obtain ⟨rfl, rfl, rfl, rfl, rfl, rfl, rfl⟩ := he
  rename_i hrest
  clear hc hrest
  generalize hW : (w1.alloc (.cells #[.slice R1 0 q1, .slice R2 0 q2, .slice R3 0 q3, .slice R4 0 q4, .slice R5 0 q5, .slice R6 0 q6, .slice R7 0 q7] 32)).alloc (.cells #[.string ⟨#[97]⟩] 9) = W
  have hpc : W.heap[w1.heap.size]? = some (.cells #[.slice R1 0 q1, .slice R2 0 q2, .slice R3 0 q3, .slice R4 0 q4, .slice R5 0 q5, .slice R6 0 q6, .slice R7 0 q7] 32 (0, 0)) := by rw [← hW]; exact hmx (heap_alloc_new _ _) _
  have hps : W.heap[w1.heap.size + 1]? = some (.cells #[.string ⟨#[97]⟩] 9 (0, 0)) := by
    rw [← hW, ← World.size_alloc w1 (.cells #[.slice R1 0 q1, .slice R2 0 q2, .slice R3 0 q3, .slice R4 0 q4, .slice R5 0 q5, .slice R6 0 q6, .slice R7 0 q7] 32)]; exact heap_alloc_new _ _
  have hmW : Mod (fun _ => False) w W := by rw [← hW]; exact ((Mod.below (S := fun _ => False) hb).alloc _).alloc _
  have HW := hidden hW
  have Hpc := hidden hpc
  have Hm := hidden hmW
  have Ha := hidden (alive_args hps)
  clear hW hpc hps hmW hb
  go_wp2_with fail
  rw [HW.out]
  refine (encode_calls _ _ aCase _ _ _ _ _ _ _ Ha.out (by decide) okCase_a).mono ?_
  rintro e w2 ⟨A, n, k, rfl, hn, hr, hm2⟩
  rw [eCase_a] at hn hr
  subst hn
  have hcv := conv_bytes (P := Tryz.prog) (cap' := k) hr u_bytes Tryz.underlying5 (dst := 9) Tryz.underlying9 (n := 9) (Nat.le_refl _)
  simp only [List.take_succ_cons, List.take_zero] at hcv
  have hpc2 := hm2.heapF Hpc.out
  have c0 := cell_lit hpc2 (j := 0) rfl
  have c6 := cell_lit hpc2 (j := 6) rfl
  have Hm2 := hidden (Hm.out.trans hm2)
  clear hm2 hr hpc2
  go_wp2_with fail
  go_ret
  exact ⟨rfl, Hm2.out⟩
end Go.Proofs.YthgibbekfcenhaaGreatDoor
