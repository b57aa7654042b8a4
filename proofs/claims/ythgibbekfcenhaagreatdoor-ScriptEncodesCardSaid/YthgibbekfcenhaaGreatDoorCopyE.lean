/- The walk of law35.Of: a case, copied for the document. -/
import Derived.Test.YthgibbekfcenhaaGreatDoorCopyD
namespace Go.Proofs.YthgibbekfcenhaaGreatDoor
open Go.RowKit

theorem rd_cells {α : Type} {c : Cd α} {w : World} {F : Fp} {cs : List Value} {xs : List α} (h : (cSl c).rd w F cs xs) : ∃ A cap, cs = [.slice A xs.length cap] := by
  obtain ⟨A, cap, he, _⟩ := h
  exact ⟨A, cap, he⟩
/-- A world's five slices. -/
theorem world_cells {w : World} {F : Fp} {cs : List Value} {c : PWorld} (h : cWorld.rd w F cs c) : ∃ R1 q1 R2 q2 R3 q3 R4 q4 R5 q5,
    cs = [.slice R1 c.files.length q1, .slice R2 c.vars.length q2, .slice R3 c.outputs.length q3, .slice R4 c.outcomes.length q4, .slice R5 c.verdicts.length q5] ∧
    (cSl cFile).rd w F [.slice R1 c.files.length q1] c.files ∧ (cSl cVar).rd w F [.slice R2 c.vars.length q2] c.vars ∧ (cSl cOut).rd w F [.slice R3 c.outputs.length q3] c.outputs ∧ (cSl cOutc).rd w F [.slice R4 c.outcomes.length q4] c.outcomes ∧ (cSl cVer).rd w F [.slice R5 c.verdicts.length q5] c.verdicts := by
  obtain ⟨p1, q1, rfl, h1, p2, q2, rfl, h2, p3, q3, rfl, h3, p4, q4, rfl, h4, h5⟩ := h
  obtain ⟨R1, k1, rfl⟩ := rd_cells h1
  obtain ⟨R2, k2, rfl⟩ := rd_cells h2
  obtain ⟨R3, k3, rfl⟩ := rd_cells h3
  obtain ⟨R4, k4, rfl⟩ := rd_cells h4
  obtain ⟨R5, k5, rfl⟩ := rd_cells h5
  exact ⟨R1, k1, R2, k2, R3, k3, R4, k4, R5, k5, rfl, h1, h2, h3, h4, h5⟩
/-- A case's seven slices. -/
theorem case_cells {w : World} {F : Fp} {cs : List Value} {c : PCase} (h : cCase.rd w F cs c) : ∃ R1 q1 R2 q2 R3 q3 R4 q4 R5 q5 R6 q6 R7 q7,
    cs = [.slice R1 c.world.files.length q1, .slice R2 c.world.vars.length q2, .slice R3 c.world.outputs.length q3, .slice R4 c.world.outcomes.length q4, .slice R5 c.world.verdicts.length q5, .slice R6 c.args.length q6, .slice R7 c.picks.length q7] ∧
    (cSl cFile).rd w F [.slice R1 c.world.files.length q1] c.world.files ∧ (cSl cVar).rd w F [.slice R2 c.world.vars.length q2] c.world.vars ∧ (cSl cOut).rd w F [.slice R3 c.world.outputs.length q3] c.world.outputs ∧ (cSl cOutc).rd w F [.slice R4 c.world.outcomes.length q4] c.world.outcomes ∧ (cSl cVer).rd w F [.slice R5 c.world.verdicts.length q5] c.world.verdicts ∧
    (cSl cStr).rd w F [.slice R6 c.args.length q6] c.args ∧ (cSl cI64).rd w F [.slice R7 c.picks.length q7] c.picks := by
  obtain ⟨p, q, rfl, hw, p6, q6, rfl, h6, h7⟩ := h
  obtain ⟨R1, k1, R2, k2, R3, k3, R4, k4, R5, k5, rfl, h1, h2, h3, h4, h5⟩ := world_cells hw
  obtain ⟨R6, k6, rfl⟩ := rd_cells h6
  obtain ⟨R7, k7, rfl⟩ := rd_cells h7
  exact ⟨R1, k1, R2, k2, R3, k3, R4, k4, R5, k5, R6, k6, R7, k7, rfl, h1, h2, h3, h4, h5, h6, h7⟩
theorem case_mk {w : World} {F : Fp} {c : PCase} {a1 a2 a3 a4 a5 a6 a7 : Value} (h : cWorld.rd w F [a1, a2, a3, a4, a5] c.world) (h6 : (cSl cStr).rd w F [a6] c.args) (h7 : (cSl cI64).rd w F [a7] c.picks) : cCase.rd w F [a1, a2, a3, a4, a5, a6, a7] c :=
  ⟨[a1, a2, a3, a4, a5], _, rfl, h, [a6], _, rfl, h6, h7⟩
theorem case_world {w : World} {F : Fp} {c : PCase} {a1 a2 a3 a4 a5 a6 a7 : Value} (h : cCase.rd w F [a1, a2, a3, a4, a5, a6, a7] c) : cWorld.rd w F [a1, a2, a3, a4, a5] c.world ∧ (cSl cStr).rd w F [a6] c.args ∧ (cSl cI64).rd w F [a7] c.picks := by
  obtain ⟨p, q, he, hw, p6, q6, rfl, h6, h7⟩ := h
  have h1 := cWorld.len hw
  have h2 := (cSl cStr).len h6
  have h3 := (cSl cI64).len h7
  match p, h1, p6, h2, q6, h3 with
  | [b1, b2, b3, b4, b5], _, [b6], _, [b7], _ =>
    simp only [List.cons_append, List.nil_append, List.cons.injEq, and_true] at he
    obtain ⟨rfl, rfl, rfl, rfl, rfl, rfl, rfl⟩ := he
    exact ⟨hw, h6, h7⟩
/-- Lists that a loop gets through. -/
structure SmallW (c : PWorld) : Prop where
  files : c.files.length ≤ 1000000
  vars : c.vars.length ≤ 1000000
  outputs : c.outputs.length ≤ 1000000
  outcomes : c.outcomes.length ≤ 1000000
  verdicts : c.verdicts.length ≤ 1000000
  effects : ∀ o ∈ c.outcomes, o.effects.length ≤ 1000000
/-- The copy of a world, whatever its cells. -/
theorem lawOf_calls' {w : World} {F : Fp} {c : PWorld} {a1 a2 a3 a4 a5 : Value} (h : cWorld.rd w F [a1, a2, a3, a4, a5] c) (hs : SmallW c) :
    Calls Tryz.prog 21 #[.agg #[a1, a2, a3, a4, a5]] w (WorldPost F c w) := by
  obtain ⟨R1, k1, R2, k2, R3, k3, R4, k4, R5, k5, he, h1, h2, h3, h4, h5⟩ := world_cells h
  simp only [List.cons.injEq, and_true] at he
  obtain ⟨rfl, rfl, rfl, rfl, rfl⟩ := he
  exact lawOf_calls _ _ _ _ _ _ _ _ _ _ _ _ _ _ _ w F _ _ _ _ _ h1 h2 h3 h4 h5 rfl rfl rfl rfl rfl hs.files hs.vars hs.outputs hs.outcomes hs.verdicts hs.effects
theorem setne {W : World} {k m : Nat} {o : Obj} (hk : k ≠ m) (h : W.heap[k]? = some o) (j : Nat) (v : Value) : (W.setCell ⟨m, j, none⟩ v).heap[k]? = some o := by
  rw [Below.heap_setCell _ _ _ _ (by show k ≠ m; omega)]; exact h
/-- What law35.Of answers. -/
def OfPost (F : Fp) (c : PCase) (w : World) (e : Ending) (w' : World) : Prop :=
  ∃ A1 A2 A3 A4 A5 A6 A7 : Value, e = .returned (.agg #[A1, A2, A3, A4, A5, A6, A7]) ∧ cCase.rd w' (CopyF w F) [A1, A2, A3, A4, A5, A6, A7] c ∧ Mod (fun _ => False) w w'
abbrev Seven (W : World) (g : Nat) (a b c d e f k : Value) : Prop := W.cell? ⟨g, 0, none⟩ = some a ∧ W.cell? ⟨g, 1, none⟩ = some b ∧ W.cell? ⟨g, 2, none⟩ = some c ∧ W.cell? ⟨g, 3, none⟩ = some d ∧ W.cell? ⟨g, 4, none⟩ = some e ∧ W.cell? ⟨g, 5, none⟩ = some f ∧ W.cell? ⟨g, 6, none⟩ = some k
theorem held7 {W : World} {g : Nat} {a b c d e f k : Value} {t : TypeId} (h : W.heap[g]? = some (.cells #[a, b, c, d, e, f, k] t (0, 0))) : Seven W g a b c d e f k :=
  ⟨cell_lit h rfl, cell_lit h rfl, cell_lit h rfl, cell_lit h rfl, cell_lit h rfl, cell_lit h rfl, cell_lit h rfl⟩

set_option maxHeartbeats 1000000 in
theorem caseOf_calls {w : World} {F : Fp} {c : PCase} {a1 a2 a3 a4 a5 a6 a7 : Value} (h : cCase.rd w F [a1, a2, a3, a4, a5, a6, a7] c) (hs : SmallW c.world) :
    Calls Tryz.prog 6 #[.agg #[a1, a2, a3, a4, a5, a6, a7]] w (OfPost F c w) := by
  have Hcase := hidden h
  have Hs := hidden hs
  obtain ⟨R1, q1, R2, q2, R3, q3, R4, q4, R5, q5, R6, q6, R7, q7, he, _⟩ := case_cells h
  simp only [List.cons.injEq, and_true] at he
  obtain ⟨rfl, rfl, rfl, rfl, rfl, rfl, rfl⟩ := he
  generalize c.world.files.length = n1 at *
  generalize c.world.vars.length = n2 at *
  generalize c.world.outputs.length = n3 at *
  generalize c.world.outcomes.length = n4 at *
  generalize c.world.verdicts.length = n5 at *
  generalize c.args.length = n6 at *
  generalize c.picks.length = n7 at *
  clear h hs
  go_enter Tryz.func6, Tryz.ntmps6
  go_upto_region 1 with fail
  have hm0 : Mod (fun _ => False) w ((w.alloc (.cells #[.slice R1 n1 q1, .slice R2 n2 q2, .slice R3 n3 q3, .slice R4 n4 q4, .slice R5 n5 q5, .slice R6 n6 q6, .slice R7 n7 q7] 32)).alloc (.cells #[nilS, nilS, nilS, nilS, nilS, nilS, nilS] 43)) := ((Mod.refl _ _).alloc _).alloc _
  have hpb : (World.heap ((w.alloc (.cells #[.slice R1 n1 q1, .slice R2 n2 q2, .slice R3 n3 q3, .slice R4 n4 q4, .slice R5 n5 q5, .slice R6 n6 q6, .slice R7 n7 q7] 32)).alloc (.cells #[nilS, nilS, nilS, nilS, nilS, nilS, nilS] 43)))[w.heap.size]? = some (.cells #[.slice R1 n1 q1, .slice R2 n2 q2, .slice R3 n3 q3, .slice R4 n4 q4, .slice R5 n5 q5, .slice R6 n6 q6, .slice R7 n7 q7] 32 (0, 0)) := hmx (heap_alloc_new _ _) _
  have hrb : (World.heap ((w.alloc (.cells #[.slice R1 n1 q1, .slice R2 n2 q2, .slice R3 n3 q3, .slice R4 n4 q4, .slice R5 n5 q5, .slice R6 n6 q6, .slice R7 n7 q7] 32)).alloc (.cells #[nilS, nilS, nilS, nilS, nilS, nilS, nilS] 43)))[w.heap.size + 1]? = some (.cells #[nilS, nilS, nilS, nilS, nilS, nilS, nilS] 43 (0, 0)) := by
    have := heap_alloc_new (w.alloc (.cells #[.slice R1 n1 q1, .slice R2 n2 q2, .slice R3 n3 q3, .slice R4 n4 q4, .slice R5 n5 q5, .slice R6 n6 q6, .slice R7 n7 q7] 32)) (.cells #[nilS, nilS, nilS, nilS, nilS, nilS, nilS] 43)
    rwa [World.size_alloc] at this
  have hz0 : w.heap.size + 2 ≤ (World.heap ((w.alloc (.cells #[.slice R1 n1 q1, .slice R2 n2 q2, .slice R3 n3 q3, .slice R4 n4 q4, .slice R5 n5 q5, .slice R6 n6 q6, .slice R7 n7 q7] 32)).alloc (.cells #[nilS, nilS, nilS, nilS, nilS, nilS, nilS] 43))).size := by simp
  generalize (w.alloc (.cells #[.slice R1 n1 q1, .slice R2 n2 q2, .slice R3 n3 q3, .slice R4 n4 q4, .slice R5 n5 q5, .slice R6 n6 q6, .slice R7 n7 q7] 32)).alloc (.cells #[nilS, nilS, nilS, nilS, nilS, nilS, nilS] 43) = W0 at *
  have Hm0 : Hid (Mod (fun _ => False) w W0.drew) := hidden hm0.drew
  have Hpb := hidden hpb
  have Hpd : Hid (W0.drew.heap[w.heap.size]? = some (.cells #[.slice R1 n1 q1, .slice R2 n2 q2, .slice R3 n3 q3, .slice R4 n4 q4, .slice R5 n5 q5, .slice R6 n6 q6, .slice R7 n7 q7] 32 (0, 0))) := hidden hpb
  have Hrb : Hid (W0.drew.heap[w.heap.size + 1]? = some (.cells #[nilS, nilS, nilS, nilS, nilS, nilS, nilS] 43 (0, 0))) := hidden hrb
  have Hz0 : Hid (w.heap.size + 2 ≤ W0.drew.heap.size) := hidden hz0
  have hheld := held7 hpb
  have Hh0 := hidden hheld
  have Hne : Hid (w.heap.size ≠ w.heap.size + 1) := hidden (by omega)
  have Hin : Hid (cWorld.rd W0.drew (fun b => F b ∧ b < w.heap.size) [.slice R1 n1 q1, .slice R2 n2 q2, .slice R3 n3 q3, .slice R4 n4 q4, .slice R5 n5 q5] c.world) := hidden (cWorld.mod (cWorld.bound (case_world Hcase.out).1) Hm0.out fun _ _ _ q => q)
  clear hm0 hpb hrb hz0 hheld
  go_region_held3 (fun W' => W'.cell? ⟨w.heap.size, 0, none⟩ = some (.slice R1 n1 q1) ∧ W'.cell? ⟨w.heap.size, 1, none⟩ = some (.slice R2 n2 q2) ∧ W'.cell? ⟨w.heap.size, 2, none⟩ = some (.slice R3 n3 q3) ∧ W'.cell? ⟨w.heap.size, 3, none⟩ = some (.slice R4 n4 q4) ∧ W'.cell? ⟨w.heap.size, 4, none⟩ = some (.slice R5 n5 q5) ∧ W'.cell? ⟨w.heap.size, 5, none⟩ = some (.slice R6 n6 q6) ∧ W'.cell? ⟨w.heap.size, 6, none⟩ = some (.slice R7 n7 q7))
    (first | (with_reducible exact Hh0.out) | (with_reducible exact held7 Hpd.out) | (with_reducible exact held7 (Hw2.out.heapF Hpd.out)) | (with_reducible exact held7 (setne Hne.out (setne Hne.out (setne Hne.out (setne Hne.out (setne Hne.out (setne Hne.out (setne Hne.out (Hw2.out.heapF Hpd.out) _ _) _ _) _ _) _ _) _ _) _ _) _ _)))
    (first
      | (go_at_call 21; (with_reducible refine (lawOf_calls' Hin.out Hs.out).mono ?_); rintro e w2 ⟨b1, b2, b3, b4, b5, rfl, hv2, hm2⟩; have hv := hidden hv2; obtain ⟨T1, k1, T2, k2, T3, k3, T4, k4, T5, k5, he, _⟩ := world_cells hv2; simp only [List.cons.injEq, and_true] at he; obtain ⟨rfl, rfl, rfl, rfl, rfl⟩ := he; generalize c.world.files.length = l1 at *; generalize c.world.vars.length = l2 at *; generalize c.world.outputs.length = l3 at *; generalize c.world.outcomes.length = l4 at *; generalize c.world.verdicts.length = l5 at *; have Hb := hidden (hm2.heapF Hrb.out); have m0 := cell_lit Hb.out (j := 0) rfl; have f0 := free_lit Hb.out 0; have m1 := cell_lit Hb.out (j := 1) rfl; have f1 := free_lit Hb.out 1; have m2 := cell_lit Hb.out (j := 2) rfl; have f2 := free_lit Hb.out 2; have m3 := cell_lit Hb.out (j := 3) rfl; have f3 := free_lit Hb.out 3; have m4 := cell_lit Hb.out (j := 4) rfl; have f4 := free_lit Hb.out 4; have m5 := cell_lit Hb.out (j := 5) rfl; have f5 := free_lit Hb.out 5; have m6 := cell_lit Hb.out (j := 6) rfl; have f6 := free_lit Hb.out 6; have Hw2 := hidden hm2; clear hv2 hm2))
  all_goals (go_wp2_with fail)
  have h8 : Mod (· = w.heap.size + 1) w2 (((((((w2.setCell ⟨w.heap.size + 1, 0, none⟩ (.slice T1 l1 k1)).setCell ⟨w.heap.size + 1, 1, none⟩ (.slice T2 l2 k2)).setCell ⟨w.heap.size + 1, 2, none⟩ (.slice T3 l3 k3)).setCell ⟨w.heap.size + 1, 3, none⟩ (.slice T4 l4 k4)).setCell ⟨w.heap.size + 1, 4, none⟩ (.slice T5 l5 k5)).setCell ⟨w.heap.size + 1, 5, none⟩ (.slice R6 n6 q6)).setCell ⟨w.heap.size + 1, 6, none⟩ (.slice R7 n7 q7)) := (((((((Mod.refl _ _).set1 _ _).set1 _ _).set1 _ _).set1 _ _).set1 _ _).set1 _ _).set1 _ _
  have hz := Hz0.out
  refine bodyPost_ret (v := .agg #[.slice T1 l1 k1, .slice T2 l2 k2, .slice T3 l3 k3, .slice T4 l4 k4, .slice T5 l5 k5, .slice R6 n6 q6, .slice R7 n7 q7]) (by simp [results, Tryz.results6, go_sem, m0, m1, m2, m3, m4, m5, m6]) rfl ⟨_, _, _, _, _, _, _, rfl, case_mk ?_ ?_ ?_, (Hm0.out.trans Hw2.out).trans' h8 fun x hx q => by omega⟩
  · exact cWorld.keep hv.out fun b hb hl => ⟨h8.block b hl (by rcases hb with hb | hb <;> omega), by rcases hb with hb | hb; exact .inl (by omega); exact .inr hb.1⟩
  · exact (cSl cStr).keep ((cSl cStr).mod ((cSl cStr).bound (case_world Hcase.out).2.1) (Hm0.out.trans Hw2.out) fun _ _ _ q => q) fun b hb hl => ⟨h8.block b hl (by omega), .inr hb⟩
  · exact (cSl cI64).keep ((cSl cI64).mod ((cSl cI64).bound (case_world Hcase.out).2.2) (Hm0.out.trans Hw2.out) fun _ _ _ q => q) fun b hb hl => ⟨h8.block b hl (by omega), .inr hb⟩
end Go.Proofs.YthgibbekfcenhaaGreatDoor
