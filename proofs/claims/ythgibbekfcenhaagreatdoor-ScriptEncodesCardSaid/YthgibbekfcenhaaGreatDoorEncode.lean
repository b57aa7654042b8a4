/- The walks of script.Plain and script.Encode. -/
import Derived.Test.YthgibbekfcenhaaGreatDoorWritten
namespace Go.Proofs.YthgibbekfcenhaaGreatDoor
open Go.RowKit

set_option maxHeartbeats 1000000 in
theorem plain_calls (w : World) (F : Fp) (c : PCase) (a1 a2 a3 a4 a5 a6 a7 : Value) (h : cCase.rd w F [a1, a2, a3, a4, a5, a6, a7] c) (hl : wCase c ≤ 4294967296) :
    Calls Tryz.prog 9 #[.agg #[a1, a2, a3, a4, a5, a6, a7]] w (BoolPost (okCase c) w) := by
  obtain ⟨R1, q1, R2, q2, R3, q3, R4, q4, R5, q5, R6, q6, R7, q7, he, _⟩ := case_cells h
  simp only [List.cons.injEq, and_true] at he
  obtain ⟨rfl, rfl, rfl, rfl, rfl, rfl, rfl⟩ := he
  generalize c.world.files.length = n1 at *
  generalize c.world.vars.length = n2 at *
  generalize c.world.outputs.length = n3 at *
  generalize c.world.outcomes.length = n4 at *
  generalize c.world.verdicts.length = n5 at *
  generalize c.args.length = n6 at *
  generalize c.picks.length = n7 at *
  have Hc := hidden (written_calls (w.alloc (.cells #[.slice R1 n1 q1, .slice R2 n2 q2, .slice R3 n3 q3, .slice R4 n4 q4, .slice R5 n5 q5, .slice R6 n6 q6, .slice R7 n7 q7] 32)) F c _ _ _ _ _ _ _ (cCase.alloc h _) hl)
  have Hm0 : Hid (Mod (fun _ => False) w (w.alloc (.cells #[.slice R1 n1 q1, .slice R2 n2 q2, .slice R3 n3 q3, .slice R4 n4 q4, .slice R5 n5 q5, .slice R6 n6 q6, .slice R7 n7 q7] 32))) := hidden ((Mod.refl _ _).alloc _)
  clear h hl
  go_enter Tryz.func9, Tryz.ntmps9
  go_wp2_with fail
  refine Hc.out.mono ?_
  rintro e w1 ⟨g, A1, m1, k1, l1, bad, rfl, hw1, hbad, heq, hm1, hg1⟩
  have c0 := cell_lit hw1.box (j := 0) rfl
  have c1 := cell_lit hw1.box (j := 1) rfl
  have Hw1 := hidden hw1
  have Hbad := hidden hbad
  have Hm1 := hidden (Hm0.out.trans hm1)
  clear hw1 hbad hm1
  go_wp2_with fail
  go_ret
  exact ⟨by rw [Hbad.out]; cases okCase c <;> rfl, Hm1.out⟩

/-- What Encode answers of a plain case: its bytes. -/
def EncodePost (c : PCase) (w : World) (e : Ending) (w' : World) : Prop :=
  ∃ A n k, e = .returned (.tuple #[.slice A n k, .nilIface]) ∧ n = (eCase c).length ∧ cBytes.rd w' (fun b => w.heap.size ≤ b) [.slice A n k] (eCase c) ∧ Mod (fun _ => False) w w'

set_option maxHeartbeats 1000000 in
theorem encode_calls (w : World) (F : Fp) (c : PCase) (a1 a2 a3 a4 a5 a6 a7 : Value) (h : cCase.rd w F [a1, a2, a3, a4, a5, a6, a7] c) (hl : wCase c ≤ 4294967296) (hok : okCase c = true) :
    Calls Tryz.prog 8 #[.agg #[a1, a2, a3, a4, a5, a6, a7]] w (EncodePost c w) := by
  obtain ⟨R1, q1, R2, q2, R3, q3, R4, q4, R5, q5, R6, q6, R7, q7, he, _⟩ := case_cells h
  simp only [List.cons.injEq, and_true] at he
  obtain ⟨rfl, rfl, rfl, rfl, rfl, rfl, rfl⟩ := he
  generalize c.world.files.length = n1 at *
  generalize c.world.vars.length = n2 at *
  generalize c.world.outputs.length = n3 at *
  generalize c.world.outcomes.length = n4 at *
  generalize c.world.verdicts.length = n5 at *
  generalize c.args.length = n6 at *
  generalize c.picks.length = n7 at *
  have Hc := hidden (written_calls (w.alloc (.cells #[.slice R1 n1 q1, .slice R2 n2 q2, .slice R3 n3 q3, .slice R4 n4 q4, .slice R5 n5 q5, .slice R6 n6 q6, .slice R7 n7 q7] 32)) F c _ _ _ _ _ _ _ (cCase.alloc h _) hl)
  have Hm0 : Hid (Mod (fun _ => False) w (w.alloc (.cells #[.slice R1 n1 q1, .slice R2 n2 q2, .slice R3 n3 q3, .slice R4 n4 q4, .slice R5 n5 q5, .slice R6 n6 q6, .slice R7 n7 q7] 32))) := hidden ((Mod.refl _ _).alloc _)
  clear h hl
  go_enter Tryz.func8, Tryz.ntmps8
  go_wp2_with fail
  refine Hc.out.mono ?_
  rintro e w1 ⟨g, A1, m1, k1, l1, bad, rfl, hw1, hbad, heq, hm1, hg1⟩
  have c0 := cell_lit hw1.box (j := 0) rfl
  have c1 := cell_lit hw1.box (j := 1) rfl
  have Hw1 := hidden hw1
  have hbf : bad = false := by rw [hbad, hok]; rfl
  subst hbf
  have Hbad := hidden hbad
  have Hm1 := hidden (Hm0.out.trans hm1)
  clear hw1 hbad hm1
  have hll := heq rfl
  subst hll
  have Hfin : Hid ((cSl cU8).rd w1 (fun b => w.heap.size ≤ b) [.slice A1 m1 k1] (eCase c)) := hidden (Hw1.out.own.read (F' := fun b => w.heap.size ≤ b) (fun _ q => q.elim) (fun b q => by rw [World.size_alloc] at hg1; omega))
  obtain ⟨A2, k2, hsh⟩ := rd_cells Hfin.out
  simp only [List.cons.injEq, Value.slice.injEq, and_true] at hsh
  have Hn := hidden hsh.2.1
  clear hsh
  go_wp2_with fail
  go_ret2
  exact ⟨A1, m1, k1, rfl, Hn.out, Hfin.out, Hm1.out⟩
end Go.Proofs.YthgibbekfcenhaaGreatDoor
