/- The walk of script.Encode at a case that is not plain. -/
import Derived.Test.YthgibbekfcenhaaGreatDoorEncode
import Derived.Test.YthgibbekfcenhaaGreatDoorEnvD
namespace Go.Proofs.YthgibbekfcenhaaGreatDoor
open Go.RowKit

set_option maxHeartbeats 1000000 in
theorem encodeBad_calls (w : World) (F : Fp) (c : PCase) (a1 a2 a3 a4 a5 a6 a7 : Value) (h : cCase.rd w F [a1, a2, a3, a4, a5, a6, a7] c) (hl : wCase c ≤ 4294967296) (hok : okCase c = false) (t : TypeId) (x : Value) (hE : w.cell? ⟨0, 0, none⟩ = some (.iface t x)) :
    Calls Tryz.prog 8 #[.agg #[a1, a2, a3, a4, a5, a6, a7]] w (fun e w' => e = .returned (.tuple #[.slice none 0 0, .iface t x]) ∧ Mod (fun _ => False) w w') := by
  obtain ⟨R1, q1, R2, q2, R3, q3, R4, q4, R5, q5, R6, q6, R7, q7, he, _⟩ := case_cells h
  simp only [List.cons.injEq, and_true] at he
  obtain ⟨rfl, rfl, rfl, rfl, rfl, rfl, rfl⟩ := he
  generalize c.world.files.length = n1 at *
  generalize c.world.vars.length = n2 at *
  generalize c.world.outputs.length = n3 at *
  generalize c.world.outcomes.length = n4 at *
  generalize c.world.verdicts.length = n5 at *
  generalize c.args.length = n6 at *
  generalize c.picks.length = n7 at *
  have Hc := hidden (written_calls (w.alloc (.cells #[.slice R1 n1 q1, .slice R2 n2 q2, .slice R3 n3 q3, .slice R4 n4 q4, .slice R5 n5 q5, .slice R6 n6 q6, .slice R7 n7 q7] 32)) F c _ _ _ _ _ _ _ (cCase.alloc h _) hl)
  have Hm0 : Hid (Mod (fun _ => False) w (w.alloc (.cells #[.slice R1 n1 q1, .slice R2 n2 q2, .slice R3 n3 q3, .slice R4 n4 q4, .slice R5 n5 q5, .slice R6 n6 q6, .slice R7 n7 q7] 32))) := hidden ((Mod.refl _ _).alloc _)
  have HE : Hid (∀ W, Mod (fun _ => False) w W → W.cell? ⟨0, 0, none⟩ = some (.iface t x)) := hidden fun W hm => by
    have hl : 0 < w.heap.size := ErrAt.lt ⟨t, x, hE⟩
    exact (World.cell?_of_block (a := ⟨0, 0, none⟩) (hm.block _ hl fun q => q)).trans hE
  clear h hl hE
  go_enter Tryz.func8, Tryz.ntmps8
  go_wp2_with fail
  refine Hc.out.mono ?_
  rintro e w1 ⟨g, A1, m1, k1, l1, bad, rfl, hw1, hbad, heq, hm1, hg1⟩
  have c0 := cell_lit hw1.box (j := 0) rfl
  have c1 := cell_lit hw1.box (j := 1) rfl
  have hbf : bad = true := by rw [hbad, hok]; rfl
  subst hbf
  have Hm1 := hidden (Hm0.out.trans hm1)
  have e1 := HE.out w1 Hm1.out
  clear hw1 hbad hm1 heq
  go_wp2_with fail
  go_region
  all_goals (go_wp2_with fail)
  all_goals go_ret2
  all_goals exact ⟨rfl, Hm1.out.drew⟩
end Go.Proofs.YthgibbekfcenhaaGreatDoor
