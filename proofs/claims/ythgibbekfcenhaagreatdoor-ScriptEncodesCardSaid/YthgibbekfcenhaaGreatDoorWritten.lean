/- The walk of script.written. -/
import Derived.Test.YthgibbekfcenhaaGreatDoorWVar
namespace Go.Proofs.YthgibbekfcenhaaGreatDoor
open Go.RowKit

/-- How many bytes a case takes at most. -/
def wCase (c : PCase) : Nat := wMany (fun x : PFile => (1 + x.name.size) + (1 + x.content.size) + 1) c.world.files + wMany (fun x : PVar => (1 + x.name.size) + wMany (fun x : ByteArray => 1 + x.size) x.words + 1) c.world.vars + wMany (fun x : POut => (1 + x.command.size) + (1 + x.text.size)) c.world.outputs + wMany (fun x : POutc => (1 + x.target.size) + 1 + wMany (fun x : PEff => 1 + (1 + x.name.size) + (1 + x.text.size)) x.effects) c.world.outcomes + wMany (fun x : PVer => (1 + x.prog.size) + (1 + x.target.size) + (1 + x.prereq.size) + 1) c.world.verdicts + wMany (fun x : ByteArray => 1 + x.size) c.args + wMany (fun _ : Int => 1) c.picks
/-- What written answers: a new writer. -/
def WrittenPost (c : PCase) (w : World) (e : Ending) (w' : World) : Prop :=
  ∃ g A n k l bad, e = .returned (.pointer (some ⟨g, 0, none⟩)) ∧ IsWr w' g (.slice A n k) l bad ∧ bad = !okCase c ∧ (bad = false → l = eCase c) ∧ Mod (fun _ => False) w w' ∧ w.heap.size ≤ g

set_option maxRecDepth 10000 in
set_option maxHeartbeats 4000000 in
theorem written_calls (w : World) (F : Fp) (c : PCase) (a1 a2 a3 a4 a5 a6 a7 : Value) (h : cCase.rd w F [a1, a2, a3, a4, a5, a6, a7] c) (hl : wCase c ≤ 4294967296) :
    Calls Tryz.prog 22 #[.agg #[a1, a2, a3, a4, a5, a6, a7]] w (WrittenPost c w) := by
  obtain ⟨R1, q1, R2, q2, R3, q3, R4, q4, R5, q5, R6, q6, R7, q7, he, hx1, hx2, hx3, hx4, hx5, hx6, hx7⟩ := case_cells h
  simp only [List.cons.injEq, and_true] at he
  obtain ⟨rfl, rfl, rfl, rfl, rfl, rfl, rfl⟩ := he
  unfold wCase at hl
  have hy1 := len_wMany (wt := (fun x : PFile => (1 + x.name.size) + (1 + x.content.size) + 1)) (fun _ => by omega) c.world.files
  have hb1 : c.world.files.length ≤ 4294967296 := by omega
  have hy2 := len_wMany (wt := (fun x : PVar => (1 + x.name.size) + wMany (fun x : ByteArray => 1 + x.size) x.words + 1)) (fun _ => by omega) c.world.vars
  have hb2 : c.world.vars.length ≤ 4294967296 := by omega
  have hy3 := len_wMany (wt := (fun x : POut => (1 + x.command.size) + (1 + x.text.size))) (fun _ => by omega) c.world.outputs
  have hb3 : c.world.outputs.length ≤ 4294967296 := by omega
  have hy4 := len_wMany (wt := (fun x : POutc => (1 + x.target.size) + 1 + wMany (fun x : PEff => 1 + (1 + x.name.size) + (1 + x.text.size)) x.effects)) (fun _ => by omega) c.world.outcomes
  have hb4 : c.world.outcomes.length ≤ 4294967296 := by omega
  have hy5 := len_wMany (wt := (fun x : PVer => (1 + x.prog.size) + (1 + x.target.size) + (1 + x.prereq.size) + 1)) (fun _ => by omega) c.world.verdicts
  have hb5 : c.world.verdicts.length ≤ 4294967296 := by omega
  have hy6 := len_wMany (wt := (fun x : ByteArray => 1 + x.size)) (fun _ => by omega) c.args
  have hb6 : c.args.length ≤ 4294967296 := by omega
  have hy7 := len_wMany (wt := (fun _ : Int => 1)) (fun _ => by omega) c.picks
  have hb7 : c.picks.length ≤ 4294967296 := by omega
  have Hx1 : Hid (∀ W, Mod (fun _ => False) w W → (cSl cFile).rd W (fun b => F b ∧ b < w.heap.size) [.slice R1 c.world.files.length q1] c.world.files) := hidden fun W hW => (cSl cFile).mod ((cSl cFile).bound hx1) hW fun _ _ _ q => q
  have Hx2 : Hid (∀ W, Mod (fun _ => False) w W → (cSl cVar).rd W (fun b => F b ∧ b < w.heap.size) [.slice R2 c.world.vars.length q2] c.world.vars) := hidden fun W hW => (cSl cVar).mod ((cSl cVar).bound hx2) hW fun _ _ _ q => q
  have Hx3 : Hid (∀ W, Mod (fun _ => False) w W → (cSl cOut).rd W (fun b => F b ∧ b < w.heap.size) [.slice R3 c.world.outputs.length q3] c.world.outputs) := hidden fun W hW => (cSl cOut).mod ((cSl cOut).bound hx3) hW fun _ _ _ q => q
  have Hx4 : Hid (∀ W, Mod (fun _ => False) w W → (cSl cOutc).rd W (fun b => F b ∧ b < w.heap.size) [.slice R4 c.world.outcomes.length q4] c.world.outcomes) := hidden fun W hW => (cSl cOutc).mod ((cSl cOutc).bound hx4) hW fun _ _ _ q => q
  have Hx5 : Hid (∀ W, Mod (fun _ => False) w W → (cSl cVer).rd W (fun b => F b ∧ b < w.heap.size) [.slice R5 c.world.verdicts.length q5] c.world.verdicts) := hidden fun W hW => (cSl cVer).mod ((cSl cVer).bound hx5) hW fun _ _ _ q => q
  have Hx6 : Hid (∀ W, Mod (fun _ => False) w W → (cSl cStr).rd W (fun b => F b ∧ b < w.heap.size) [.slice R6 c.args.length q6] c.args) := hidden fun W hW => (cSl cStr).mod ((cSl cStr).bound hx6) hW fun _ _ _ q => q
  have Hx7 : Hid (∀ W, Mod (fun _ => False) w W → (cSl cI64).rd W (fun b => F b ∧ b < w.heap.size) [.slice R7 c.picks.length q7] c.picks) := hidden fun W hW => (cSl cI64).mod ((cSl cI64).bound hx7) hW fun _ _ _ q => q
  clear h hx1 hy1 hx2 hy2 hx3 hy3 hx4 hy4 hx5 hy5 hx6 hy6 hx7 hy7
  generalize hn1 : c.world.files.length = n1 at *
  have Hn1 := hidden hn1.symm
  clear hn1
  generalize hn2 : c.world.vars.length = n2 at *
  have Hn2 := hidden hn2.symm
  clear hn2
  generalize hn3 : c.world.outputs.length = n3 at *
  have Hn3 := hidden hn3.symm
  clear hn3
  generalize hn4 : c.world.outcomes.length = n4 at *
  have Hn4 := hidden hn4.symm
  clear hn4
  generalize hn5 : c.world.verdicts.length = n5 at *
  have Hn5 := hidden hn5.symm
  clear hn5
  generalize hn6 : c.args.length = n6 at *
  have Hn6 := hidden hn6.symm
  clear hn6
  generalize hn7 : c.picks.length = n7 at *
  have Hn7 := hidden hn7.symm
  clear hn7
  go_enter Tryz.func22, Tryz.ntmps22
  go_upto_region 2 with fail
  have hpa : (World.heap ((w.alloc (.cells #[.slice R1 n1 q1, .slice R2 n2 q2, .slice R3 n3 q3, .slice R4 n4 q4, .slice R5 n5 q5, .slice R6 n6 q6, .slice R7 n7 q7] 32)).alloc (.cells #[.slice none 0 0, .bool false] 85)))[w.heap.size]? = some (.cells #[.slice R1 n1 q1, .slice R2 n2 q2, .slice R3 n3 q3, .slice R4 n4 q4, .slice R5 n5 q5, .slice R6 n6 q6, .slice R7 n7 q7] 32 (0, 0)) := hmx (heap_alloc_new _ _) _
  have hpb : (World.heap ((w.alloc (.cells #[.slice R1 n1 q1, .slice R2 n2 q2, .slice R3 n3 q3, .slice R4 n4 q4, .slice R5 n5 q5, .slice R6 n6 q6, .slice R7 n7 q7] 32)).alloc (.cells #[.slice none 0 0, .bool false] 85)))[w.heap.size + 1]? = some (.cells #[.slice none 0 0, .bool false] 85 (0, 0)) := by
    have := heap_alloc_new (w.alloc (.cells #[.slice R1 n1 q1, .slice R2 n2 q2, .slice R3 n3 q3, .slice R4 n4 q4, .slice R5 n5 q5, .slice R6 n6 q6, .slice R7 n7 q7] 32)) (.cells #[.slice none 0 0, .bool false] 85)
    rwa [World.size_alloc] at this
  have hm0 : Mod (fun _ => False) w ((w.alloc (.cells #[.slice R1 n1 q1, .slice R2 n2 q2, .slice R3 n3 q3, .slice R4 n4 q4, .slice R5 n5 q5, .slice R6 n6 q6, .slice R7 n7 q7] 32)).alloc (.cells #[.slice none 0 0, .bool false] 85)) := ((Mod.refl _ _).alloc _).alloc _
  generalize (w.alloc (.cells #[.slice R1 n1 q1, .slice R2 n2 q2, .slice R3 n3 q3, .slice R4 n4 q4, .slice R5 n5 q5, .slice R6 n6 q6, .slice R7 n7 q7] 32)).alloc (.cells #[.slice none 0 0, .bool false] 85) = W0 at *
  have Hm0 := hidden hm0
  have Hpa := hidden hpa
  have hw0 : IsWr W0 (w.heap.size + 1) (.slice none 0 0) [] false := ⟨hpb, Own.nil _ _ _ _ _⟩
  have Hini := hidden hw0
  have Hw0 := hidden hw0
  have Hs0 : Hid (WrStep (w.heap.size + 1) (.slice none 0 0) (.slice none 0 0) W0 W0) := hidden (WrStep.refl _ _ _)
  have Hr0 : Hid (WrRel [] false [] false true [] 0) := hidden ⟨rfl, fun _ => rfl, Nat.le_refl _⟩
  have hlen0 : ([] : Bytes).length ≤ 0 := Nat.le_refl _
  have HF : Hid (∀ b, (F b ∧ b < w.heap.size) → b < w.heap.size + 1) := hidden fun b hb => by omega
  have c0_0 := cell_lit hpa (j := 0) rfl
  have c0_1 := cell_lit hpa (j := 1) rfl
  have c0_2 := cell_lit hpa (j := 2) rfl
  have c0_3 := cell_lit hpa (j := 3) rfl
  have c0_4 := cell_lit hpa (j := 4) rfl
  have c0_5 := cell_lit hpa (j := 5) rfl
  have c0_6 := cell_lit hpa (j := 6) rfl
  clear hpa hpb hm0 hw0
  go_wp2_with fail
  refine (allFile_calls 7 7 rfl (by decide) R1 n1 q1 _ (fun b => F b ∧ b < w.heap.size) (w.heap.size + 1) (.slice none 0 0) ([] : Bytes) false c.world.files Hn1.out ((cSl cFile).keep (Hx1.out _ Hm0.out) fun b hb hl => ⟨Hs0.out.keep Hini.out (by have := hb.2; omega), hb⟩) HF.out hb1 Hw0.out (by omega)).mono ?_
  rintro e w1 hp
  obtain ⟨rfl, A1, m1, p1, l1, bad1, hw', hs', hr'⟩ := WrRel.ofPost hp
  have hlen1 : l1.length ≤ wMany (fun x : PFile => (1 + x.name.size) + (1 + x.content.size) + 1) c.world.files := by have := hr'.len; omega
  have Hw1 := hidden hw'
  have Hs1 := hidden (Hs0.out.trans hs')
  have Hr1 := hidden (Hr0.out.seq hr')
  have hpa : w1.heap[w.heap.size]? = some (.cells #[.slice R1 n1 q1, .slice R2 n2 q2, .slice R3 n3 q3, .slice R4 n4 q4, .slice R5 n5 q5, .slice R6 n6 q6, .slice R7 n7 q7] 32 (0, 0)) := (Hs1.out.keep Hini.out (by omega)).trans Hpa.out
  have c1_0 := cell_lit hpa (j := 0) rfl
  have c1_1 := cell_lit hpa (j := 1) rfl
  have c1_2 := cell_lit hpa (j := 2) rfl
  have c1_3 := cell_lit hpa (j := 3) rfl
  have c1_4 := cell_lit hpa (j := 4) rfl
  have c1_5 := cell_lit hpa (j := 5) rfl
  have c1_6 := cell_lit hpa (j := 6) rfl
  clear hp hw' hs' hr' hpa c0_0 c0_1 c0_2 c0_3 c0_4 c0_5 c0_6
  go_wp2_with fail
  refine (allVar_calls 3 3 rfl (by decide) R2 n2 q2 _ (fun b => F b ∧ b < w.heap.size) (w.heap.size + 1) (.slice A1 m1 p1) l1 bad1 c.world.vars Hn2.out ((cSl cVar).keep (Hx2.out _ Hm0.out) fun b hb hl => ⟨Hs1.out.keep Hini.out (by have := hb.2; omega), hb⟩) HF.out hb2 Hw1.out (by omega)).mono ?_
  rintro e w2 hp
  obtain ⟨rfl, A2, m2, p2, l2, bad2, hw', hs', hr'⟩ := WrRel.ofPost hp
  have hlen2 : l2.length ≤ wMany (fun x : PFile => (1 + x.name.size) + (1 + x.content.size) + 1) c.world.files + wMany (fun x : PVar => (1 + x.name.size) + wMany (fun x : ByteArray => 1 + x.size) x.words + 1) c.world.vars := by have := hr'.len; omega
  have Hw2 := hidden hw'
  have Hs2 := hidden (Hs1.out.trans hs')
  have Hr2 := hidden (Hr1.out.seq hr')
  have hpa : w2.heap[w.heap.size]? = some (.cells #[.slice R1 n1 q1, .slice R2 n2 q2, .slice R3 n3 q3, .slice R4 n4 q4, .slice R5 n5 q5, .slice R6 n6 q6, .slice R7 n7 q7] 32 (0, 0)) := (Hs2.out.keep Hini.out (by omega)).trans Hpa.out
  have c2_0 := cell_lit hpa (j := 0) rfl
  have c2_1 := cell_lit hpa (j := 1) rfl
  have c2_2 := cell_lit hpa (j := 2) rfl
  have c2_3 := cell_lit hpa (j := 3) rfl
  have c2_4 := cell_lit hpa (j := 4) rfl
  have c2_5 := cell_lit hpa (j := 5) rfl
  have c2_6 := cell_lit hpa (j := 6) rfl
  clear hp hw' hs' hr' hpa c1_0 c1_1 c1_2 c1_3 c1_4 c1_5 c1_6
  go_wp2_with fail
  refine (allOutput_calls 3 3 rfl (by decide) R3 n3 q3 _ (fun b => F b ∧ b < w.heap.size) (w.heap.size + 1) (.slice A2 m2 p2) l2 bad2 c.world.outputs Hn3.out ((cSl cOut).keep (Hx3.out _ Hm0.out) fun b hb hl => ⟨Hs2.out.keep Hini.out (by have := hb.2; omega), hb⟩) HF.out hb3 Hw2.out (by omega)).mono ?_
  rintro e w3 hp
  obtain ⟨rfl, A3, m3, p3, l3, bad3, hw', hs', hr'⟩ := WrRel.ofPost hp
  have hlen3 : l3.length ≤ wMany (fun x : PFile => (1 + x.name.size) + (1 + x.content.size) + 1) c.world.files + wMany (fun x : PVar => (1 + x.name.size) + wMany (fun x : ByteArray => 1 + x.size) x.words + 1) c.world.vars + wMany (fun x : POut => (1 + x.command.size) + (1 + x.text.size)) c.world.outputs := by have := hr'.len; omega
  have Hw3 := hidden hw'
  have Hs3 := hidden (Hs2.out.trans hs')
  have Hr3 := hidden (Hr2.out.seq hr')
  have hpa : w3.heap[w.heap.size]? = some (.cells #[.slice R1 n1 q1, .slice R2 n2 q2, .slice R3 n3 q3, .slice R4 n4 q4, .slice R5 n5 q5, .slice R6 n6 q6, .slice R7 n7 q7] 32 (0, 0)) := (Hs3.out.keep Hini.out (by omega)).trans Hpa.out
  have c3_0 := cell_lit hpa (j := 0) rfl
  have c3_1 := cell_lit hpa (j := 1) rfl
  have c3_2 := cell_lit hpa (j := 2) rfl
  have c3_3 := cell_lit hpa (j := 3) rfl
  have c3_4 := cell_lit hpa (j := 4) rfl
  have c3_5 := cell_lit hpa (j := 5) rfl
  have c3_6 := cell_lit hpa (j := 6) rfl
  clear hp hw' hs' hr' hpa c2_0 c2_1 c2_2 c2_3 c2_4 c2_5 c2_6
  go_wp2_with fail
  refine (allOutcome_calls 5 5 rfl (by decide) R4 n4 q4 _ (fun b => F b ∧ b < w.heap.size) (w.heap.size + 1) (.slice A3 m3 p3) l3 bad3 c.world.outcomes Hn4.out ((cSl cOutc).keep (Hx4.out _ Hm0.out) fun b hb hl => ⟨Hs3.out.keep Hini.out (by have := hb.2; omega), hb⟩) HF.out hb4 Hw3.out (by omega)).mono ?_
  rintro e w4 hp
  obtain ⟨rfl, A4, m4, p4, l4, bad4, hw', hs', hr'⟩ := WrRel.ofPost hp
  have hlen4 : l4.length ≤ wMany (fun x : PFile => (1 + x.name.size) + (1 + x.content.size) + 1) c.world.files + wMany (fun x : PVar => (1 + x.name.size) + wMany (fun x : ByteArray => 1 + x.size) x.words + 1) c.world.vars + wMany (fun x : POut => (1 + x.command.size) + (1 + x.text.size)) c.world.outputs + wMany (fun x : POutc => (1 + x.target.size) + 1 + wMany (fun x : PEff => 1 + (1 + x.name.size) + (1 + x.text.size)) x.effects) c.world.outcomes := by have := hr'.len; omega
  have Hw4 := hidden hw'
  have Hs4 := hidden (Hs3.out.trans hs')
  have Hr4 := hidden (Hr3.out.seq hr')
  have hpa : w4.heap[w.heap.size]? = some (.cells #[.slice R1 n1 q1, .slice R2 n2 q2, .slice R3 n3 q3, .slice R4 n4 q4, .slice R5 n5 q5, .slice R6 n6 q6, .slice R7 n7 q7] 32 (0, 0)) := (Hs4.out.keep Hini.out (by omega)).trans Hpa.out
  have c4_0 := cell_lit hpa (j := 0) rfl
  have c4_1 := cell_lit hpa (j := 1) rfl
  have c4_2 := cell_lit hpa (j := 2) rfl
  have c4_3 := cell_lit hpa (j := 3) rfl
  have c4_4 := cell_lit hpa (j := 4) rfl
  have c4_5 := cell_lit hpa (j := 5) rfl
  have c4_6 := cell_lit hpa (j := 6) rfl
  clear hp hw' hs' hr' hpa c3_0 c3_1 c3_2 c3_3 c3_4 c3_5 c3_6
  go_wp2_with fail
  refine (allVerdict_calls 3 3 rfl (by decide) R5 n5 q5 _ (fun b => F b ∧ b < w.heap.size) (w.heap.size + 1) (.slice A4 m4 p4) l4 bad4 c.world.verdicts Hn5.out ((cSl cVer).keep (Hx5.out _ Hm0.out) fun b hb hl => ⟨Hs4.out.keep Hini.out (by have := hb.2; omega), hb⟩) HF.out hb5 Hw4.out (by omega)).mono ?_
  rintro e w5 hp
  obtain ⟨rfl, A5, m5, p5, l5, bad5, hw', hs', hr'⟩ := WrRel.ofPost hp
  have hlen5 : l5.length ≤ wMany (fun x : PFile => (1 + x.name.size) + (1 + x.content.size) + 1) c.world.files + wMany (fun x : PVar => (1 + x.name.size) + wMany (fun x : ByteArray => 1 + x.size) x.words + 1) c.world.vars + wMany (fun x : POut => (1 + x.command.size) + (1 + x.text.size)) c.world.outputs + wMany (fun x : POutc => (1 + x.target.size) + 1 + wMany (fun x : PEff => 1 + (1 + x.name.size) + (1 + x.text.size)) x.effects) c.world.outcomes + wMany (fun x : PVer => (1 + x.prog.size) + (1 + x.target.size) + (1 + x.prereq.size) + 1) c.world.verdicts := by have := hr'.len; omega
  have Hw5 := hidden hw'
  have Hs5 := hidden (Hs4.out.trans hs')
  have Hr5 := hidden (Hr4.out.seq hr')
  have hpa : w5.heap[w.heap.size]? = some (.cells #[.slice R1 n1 q1, .slice R2 n2 q2, .slice R3 n3 q3, .slice R4 n4 q4, .slice R5 n5 q5, .slice R6 n6 q6, .slice R7 n7 q7] 32 (0, 0)) := (Hs5.out.keep Hini.out (by omega)).trans Hpa.out
  have c5_0 := cell_lit hpa (j := 0) rfl
  have c5_1 := cell_lit hpa (j := 1) rfl
  have c5_2 := cell_lit hpa (j := 2) rfl
  have c5_3 := cell_lit hpa (j := 3) rfl
  have c5_4 := cell_lit hpa (j := 4) rfl
  have c5_5 := cell_lit hpa (j := 5) rfl
  have c5_6 := cell_lit hpa (j := 6) rfl
  clear hp hw' hs' hr' hpa c4_0 c4_1 c4_2 c4_3 c4_4 c4_5 c4_6
  go_wp2_with fail
  refine (allArg_calls 5 5 rfl (by decide) R6 n6 q6 _ (fun b => F b ∧ b < w.heap.size) (w.heap.size + 1) (.slice A5 m5 p5) l5 bad5 c.args Hn6.out ((cSl cStr).keep (Hx6.out _ Hm0.out) fun b hb hl => ⟨Hs5.out.keep Hini.out (by have := hb.2; omega), hb⟩) HF.out hb6 Hw5.out (by omega)).mono ?_
  rintro e w6 hp
  obtain ⟨rfl, A6, m6, p6, l6, bad6, hw', hs', hr'⟩ := WrRel.ofPost hp
  have hlen6 : l6.length ≤ wMany (fun x : PFile => (1 + x.name.size) + (1 + x.content.size) + 1) c.world.files + wMany (fun x : PVar => (1 + x.name.size) + wMany (fun x : ByteArray => 1 + x.size) x.words + 1) c.world.vars + wMany (fun x : POut => (1 + x.command.size) + (1 + x.text.size)) c.world.outputs + wMany (fun x : POutc => (1 + x.target.size) + 1 + wMany (fun x : PEff => 1 + (1 + x.name.size) + (1 + x.text.size)) x.effects) c.world.outcomes + wMany (fun x : PVer => (1 + x.prog.size) + (1 + x.target.size) + (1 + x.prereq.size) + 1) c.world.verdicts + wMany (fun x : ByteArray => 1 + x.size) c.args := by have := hr'.len; omega
  have Hw6 := hidden hw'
  have Hs6 := hidden (Hs5.out.trans hs')
  have Hr6 := hidden (Hr5.out.seq hr')
  have hpa : w6.heap[w.heap.size]? = some (.cells #[.slice R1 n1 q1, .slice R2 n2 q2, .slice R3 n3 q3, .slice R4 n4 q4, .slice R5 n5 q5, .slice R6 n6 q6, .slice R7 n7 q7] 32 (0, 0)) := (Hs6.out.keep Hini.out (by omega)).trans Hpa.out
  have c6_0 := cell_lit hpa (j := 0) rfl
  have c6_1 := cell_lit hpa (j := 1) rfl
  have c6_2 := cell_lit hpa (j := 2) rfl
  have c6_3 := cell_lit hpa (j := 3) rfl
  have c6_4 := cell_lit hpa (j := 4) rfl
  have c6_5 := cell_lit hpa (j := 5) rfl
  have c6_6 := cell_lit hpa (j := 6) rfl
  clear hp hw' hs' hr' hpa c5_0 c5_1 c5_2 c5_3 c5_4 c5_5 c5_6
  go_wp2_with fail
  refine (allPick_calls 11 11 rfl (by decide) R7 n7 q7 _ (fun b => F b ∧ b < w.heap.size) (w.heap.size + 1) (.slice A6 m6 p6) l6 bad6 c.picks Hn7.out ((cSl cI64).keep (Hx7.out _ Hm0.out) fun b hb hl => ⟨Hs6.out.keep Hini.out (by have := hb.2; omega), hb⟩) HF.out hb7 Hw6.out (by omega)).mono ?_
  rintro e w7 hp
  obtain ⟨rfl, A7, m7, p7, l7, bad7, hw', hs', hr'⟩ := WrRel.ofPost hp
  have hlen7 : l7.length ≤ wMany (fun x : PFile => (1 + x.name.size) + (1 + x.content.size) + 1) c.world.files + wMany (fun x : PVar => (1 + x.name.size) + wMany (fun x : ByteArray => 1 + x.size) x.words + 1) c.world.vars + wMany (fun x : POut => (1 + x.command.size) + (1 + x.text.size)) c.world.outputs + wMany (fun x : POutc => (1 + x.target.size) + 1 + wMany (fun x : PEff => 1 + (1 + x.name.size) + (1 + x.text.size)) x.effects) c.world.outcomes + wMany (fun x : PVer => (1 + x.prog.size) + (1 + x.target.size) + (1 + x.prereq.size) + 1) c.world.verdicts + wMany (fun x : ByteArray => 1 + x.size) c.args + wMany (fun _ : Int => 1) c.picks := by have := hr'.len; omega
  have Hw7 := hidden hw'
  have Hs7 := hidden (Hs6.out.trans hs')
  have Hr7 := hidden (Hr6.out.seq hr')
  have hpa : w7.heap[w.heap.size]? = some (.cells #[.slice R1 n1 q1, .slice R2 n2 q2, .slice R3 n3 q3, .slice R4 n4 q4, .slice R5 n5 q5, .slice R6 n6 q6, .slice R7 n7 q7] 32 (0, 0)) := (Hs7.out.keep Hini.out (by omega)).trans Hpa.out
  have c7_0 := cell_lit hpa (j := 0) rfl
  have c7_1 := cell_lit hpa (j := 1) rfl
  have c7_2 := cell_lit hpa (j := 2) rfl
  have c7_3 := cell_lit hpa (j := 3) rfl
  have c7_4 := cell_lit hpa (j := 4) rfl
  have c7_5 := cell_lit hpa (j := 5) rfl
  have c7_6 := cell_lit hpa (j := 6) rfl
  clear hp hw' hs' hr' hpa c6_0 c6_1 c6_2 c6_3 c6_4 c6_5 c6_6
  go_wp2_with fail
  go_ret
  refine ⟨_, _, _, _, _, _, rfl, Hw7.out, ?_, (fun q => ?_), Hm0.out.trans' Hs7.out.mod ?_, by omega⟩
  · rw [Hr7.out.bad]
    unfold okCase
    simp only [Bool.true_and, Bool.false_or, Bool.and_assoc]
  · rw [Hr7.out.eq q]
    unfold eCase
    simp only [List.nil_append, List.append_assoc]
  · rintro x hx (q | q)
    · omega
    · cases q
end Go.Proofs.YthgibbekfcenhaaGreatDoor
