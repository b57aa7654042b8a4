/- The walk of the document's comparison of cases. -/
import Derived.Test.YthgibbekfcenhaaGreatDoorSameW
namespace Go.Proofs.YthgibbekfcenhaaGreatDoor
open Go.RowKit

theorem len_args {w : World} {F : Fp} {c : PCase} {a1 a2 a3 a4 a5 a6 a7 : Value} (h : cCase.rd w F [a1, a2, a3, a4, a5, a6, a7] c) : ∃ R6 q6 R7 q7, a6 = .slice R6 c.args.length q6 ∧ a7 = .slice R7 c.picks.length q7 := by
  obtain ⟨_, h6, h7⟩ := case_world h
  obtain ⟨R6, q6, e6⟩ := rd_cells h6
  obtain ⟨R7, q7, e7⟩ := rd_cells h7
  simp only [List.cons.injEq, and_true] at e6 e7
  exact ⟨R6, q6, R7, q7, e6, e7⟩
/-- Lists that a loop gets through. -/
structure SmallC (c : PCase) : Prop where
  world : SmallW c.world
  words : ∀ v ∈ c.world.vars, v.words.length ≤ 1000000
  args : c.args.length ≤ 1000000
  picks : c.picks.length ≤ 1000000

set_option maxRecDepth 10000 in
set_option maxHeartbeats 4000000 in
theorem sameCase_calls (w : World) (F G : Fp) (c d : PCase) (a1 a2 a3 a4 a5 a6 a7 b1 b2 b3 b4 b5 b6 b7 : Value) (h : cCase.rd w F [a1, a2, a3, a4, a5, a6, a7] c) (h' : cCase.rd w G [b1, b2, b3, b4, b5, b6, b7] d) (hs : SmallC c) :
    Calls Tryz.prog 11 #[.agg #[a1, a2, a3, a4, a5, a6, a7], .agg #[b1, b2, b3, b4, b5, b6, b7]] w (BoolPost (decide (c = d)) w) := by
  have Hx := hidden (case_world h)
  have Hy := hidden (case_world h')
  have Hs := hidden hs
  have ba := hs.args
  have bp := hs.picks
  obtain ⟨R1, q1, R2, q2, R3, q3, R4, q4, R5, q5, R6, q6, R7, q7, he, _⟩ := case_cells h
  simp only [List.cons.injEq, and_true] at he
  obtain ⟨rfl, rfl, rfl, rfl, rfl, rfl, rfl⟩ := he
  obtain ⟨S1, t1, S2, t2, S3, t3, S4, t4, S5, t5, S6, t6, S7, t7, he, _⟩ := case_cells h'
  simp only [List.cons.injEq, and_true] at he
  obtain ⟨rfl, rfl, rfl, rfl, rfl, rfl, rfl⟩ := he
  clear h h' hs
  have Hall : Hid (decide (c = d) = (decide (c.world = d.world) && (decide (c.args = d.args) && decide (c.picks = d.picks)))) := hidden (by
    obtain ⟨cw, ca, cp⟩ := c
    obtain ⟨dw, da, dp⟩ := d
    simp only [PCase.mk.injEq]
    by_cases r1 : cw = dw <;> by_cases r2 : ca = da <;> by_cases r3 : cp = dp <;> simp [r1, r2, r3])
  have Hma : Hid (∀ o o', Mod (fun _ => False) w ((w.alloc o).alloc o')) := hidden fun o o' => ((Mod.refl _ _).alloc _).alloc _
  generalize hn1 : c.world.files.length = n1 at *
  generalize hn2 : c.world.vars.length = n2 at *
  generalize hn3 : c.world.outputs.length = n3 at *
  generalize hn4 : c.world.outcomes.length = n4 at *
  generalize hn5 : c.world.verdicts.length = n5 at *
  generalize hn6 : c.args.length = n6 at *
  generalize hn7 : c.picks.length = n7 at *
  generalize hm1 : d.world.files.length = m1 at *
  generalize hm2 : d.world.vars.length = m2 at *
  generalize hm3 : d.world.outputs.length = m3 at *
  generalize hm4 : d.world.outcomes.length = m4 at *
  generalize hm5 : d.world.verdicts.length = m5 at *
  generalize hm6 : d.args.length = m6 at *
  generalize hm7 : d.picks.length = m7 at *
  have Hl : Hid ((n6 = c.args.length ∧ m6 = d.args.length) ∧ (n7 = c.picks.length ∧ m7 = d.picks.length)) := hidden ⟨⟨hn6.symm, hm6.symm⟩, hn7.symm, hm7.symm⟩
  clear hn1 hn2 hn3 hn4 hn5 hn6 hn7 hm1 hm2 hm3 hm4 hm5 hm6 hm7
  go_enter Tryz.func11, Tryz.ntmps11
  go_upto_region 1 with fail
  have hpa : (World.heap ((w.alloc (.cells #[.slice R1 n1 q1, .slice R2 n2 q2, .slice R3 n3 q3, .slice R4 n4 q4, .slice R5 n5 q5, .slice R6 n6 q6, .slice R7 n7 q7] 43)).alloc (.cells #[.slice S1 m1 t1, .slice S2 m2 t2, .slice S3 m3 t3, .slice S4 m4 t4, .slice S5 m5 t5, .slice S6 m6 t6, .slice S7 m7 t7] 43)))[w.heap.size]? = some (.cells #[.slice R1 n1 q1, .slice R2 n2 q2, .slice R3 n3 q3, .slice R4 n4 q4, .slice R5 n5 q5, .slice R6 n6 q6, .slice R7 n7 q7] 43 (0, 0)) := hmx (heap_alloc_new _ _) _
  have hpb : (World.heap ((w.alloc (.cells #[.slice R1 n1 q1, .slice R2 n2 q2, .slice R3 n3 q3, .slice R4 n4 q4, .slice R5 n5 q5, .slice R6 n6 q6, .slice R7 n7 q7] 43)).alloc (.cells #[.slice S1 m1 t1, .slice S2 m2 t2, .slice S3 m3 t3, .slice S4 m4 t4, .slice S5 m5 t5, .slice S6 m6 t6, .slice S7 m7 t7] 43)))[w.heap.size + 1]? = some (.cells #[.slice S1 m1 t1, .slice S2 m2 t2, .slice S3 m3 t3, .slice S4 m4 t4, .slice S5 m5 t5, .slice S6 m6 t6, .slice S7 m7 t7] 43 (0, 0)) := by
    have := heap_alloc_new (w.alloc (.cells #[.slice R1 n1 q1, .slice R2 n2 q2, .slice R3 n3 q3, .slice R4 n4 q4, .slice R5 n5 q5, .slice R6 n6 q6, .slice R7 n7 q7] 43)) (.cells #[.slice S1 m1 t1, .slice S2 m2 t2, .slice S3 m3 t3, .slice S4 m4 t4, .slice S5 m5 t5, .slice S6 m6 t6, .slice S7 m7 t7] 43)
    rwa [World.size_alloc] at this
  have hm0 : Mod (fun _ => False) w ((w.alloc (.cells #[.slice R1 n1 q1, .slice R2 n2 q2, .slice R3 n3 q3, .slice R4 n4 q4, .slice R5 n5 q5, .slice R6 n6 q6, .slice R7 n7 q7] 43)).alloc (.cells #[.slice S1 m1 t1, .slice S2 m2 t2, .slice S3 m3 t3, .slice S4 m4 t4, .slice S5 m5 t5, .slice S6 m6 t6, .slice S7 m7 t7] 43)) := Hma.out _ _
  generalize (w.alloc (.cells #[.slice R1 n1 q1, .slice R2 n2 q2, .slice R3 n3 q3, .slice R4 n4 q4, .slice R5 n5 q5, .slice R6 n6 q6, .slice R7 n7 q7] 43)).alloc (.cells #[.slice S1 m1 t1, .slice S2 m2 t2, .slice S3 m3 t3, .slice S4 m4 t4, .slice S5 m5 t5, .slice S6 m6 t6, .slice S7 m7 t7] 43) = W0 at *
  have Hpa := hidden hpa
  have Hpb := hidden hpb
  have Hm0 := hidden hm0
  have ca0 := cell_lit hpa (j := 0) rfl
  have cb0 := cell_lit hpb (j := 0) rfl
  have ca1 := cell_lit hpa (j := 1) rfl
  have cb1 := cell_lit hpb (j := 1) rfl
  have ca2 := cell_lit hpa (j := 2) rfl
  have cb2 := cell_lit hpb (j := 2) rfl
  have ca3 := cell_lit hpa (j := 3) rfl
  have cb3 := cell_lit hpb (j := 3) rfl
  have ca4 := cell_lit hpa (j := 4) rfl
  have cb4 := cell_lit hpb (j := 4) rfl
  have ca5 := cell_lit hpa (j := 5) rfl
  have cb5 := cell_lit hpb (j := 5) rfl
  have ca6 := cell_lit hpa (j := 6) rfl
  have cb6 := cell_lit hpb (j := 6) rfl
  clear hpa hpb hm0
  by_cases hw : c.world = d.world
  · have Hw := hidden (decide_eq_true hw)
    clear hw
    by_cases ha : c.args = d.args
    · have Ha := hidden (decide_eq_true ha)
      clear ha
      go_wp2_with (first | (go_at_call 25; (with_reducible refine (sameWorld_calls _ _ _ _ _ _ _ _ _ _ _ _ _ _ _ (cWorld.mod Hx.out.1 Hm0.out fun _ _ _ q => q) (cWorld.mod Hy.out.1 Hm0.out fun _ _ _ q => q) Hs.out.world Hs.out.words).mono ?_); rintro e w2 ⟨he, hm2⟩; rw [Hw.out] at he; subst he; have Hc1 := hidden (Hm0.out.trans hm2); have hpa := hm2.heapF Hpa.out; have hpb := hm2.heapF Hpb.out; replace Hpa := hidden hpa; replace Hpb := hidden hpb; have da5 := cell_lit hpa (j := 5) rfl; have db5 := cell_lit hpb (j := 5) rfl; have da6 := cell_lit hpa (j := 6) rfl; have db6 := cell_lit hpb (j := 6) rfl; clear hpa hpb hm2) | (go_at_call 26; (with_reducible refine (sameTexts_calls _ _ _ _ _ _ _ _ _ _ _ Hl.out.1.1 Hl.out.1.2 ((cSl cStr).mod Hx.out.2.1 Hc1.out fun _ _ _ q => q) ((cSl cStr).mod Hy.out.2.1 Hc1.out fun _ _ _ q => q) ba).mono ?_); rintro e w2 ⟨he, hm2⟩; rw [Ha.out] at he; subst he; have Hc2 := hidden (Hc1.out.trans hm2); have hpa := hm2.heapF Hpa.out; have hpb := hm2.heapF Hpb.out; replace Hpa := hidden hpa; replace Hpb := hidden hpb; have ea6 := cell_lit hpa (j := 6) rfl; have eb6 := cell_lit hpb (j := 6) rfl; clear hpa hpb hm2) | (go_at_call 27; (with_reducible refine (sameInts_calls _ _ _ _ _ _ _ _ _ _ _ Hl.out.2.1 Hl.out.2.2 ((cSl cI64).mod Hx.out.2.2 Hc2.out fun _ _ _ q => q) ((cSl cI64).mod Hy.out.2.2 Hc2.out fun _ _ _ q => q) bp).mono ?_); rintro e w2 ⟨rfl, hm2⟩; have Hc3 := hidden (Hc2.out.trans hm2); clear hm2))
      go_ret
      exact ⟨by rw [Hall.out, Hw.out, Ha.out]; rfl, Hc3.out⟩
    · have Ha := hidden (decide_eq_false ha)
      clear ha
      go_wp2_with (first | (go_at_call 25; (with_reducible refine (sameWorld_calls _ _ _ _ _ _ _ _ _ _ _ _ _ _ _ (cWorld.mod Hx.out.1 Hm0.out fun _ _ _ q => q) (cWorld.mod Hy.out.1 Hm0.out fun _ _ _ q => q) Hs.out.world Hs.out.words).mono ?_); rintro e w2 ⟨he, hm2⟩; rw [Hw.out] at he; subst he; have Hc1 := hidden (Hm0.out.trans hm2); have hpa := hm2.heapF Hpa.out; have hpb := hm2.heapF Hpb.out; replace Hpa := hidden hpa; replace Hpb := hidden hpb; have da5 := cell_lit hpa (j := 5) rfl; have db5 := cell_lit hpb (j := 5) rfl; have da6 := cell_lit hpa (j := 6) rfl; have db6 := cell_lit hpb (j := 6) rfl; clear hpa hpb hm2) | (go_at_call 26; (with_reducible refine (sameTexts_calls _ _ _ _ _ _ _ _ _ _ _ Hl.out.1.1 Hl.out.1.2 ((cSl cStr).mod Hx.out.2.1 Hc1.out fun _ _ _ q => q) ((cSl cStr).mod Hy.out.2.1 Hc1.out fun _ _ _ q => q) ba).mono ?_); rintro e w2 ⟨he, hm2⟩; rw [Ha.out] at he; subst he; have Hc2 := hidden (Hc1.out.trans hm2); have hpa := hm2.heapF Hpa.out; have hpb := hm2.heapF Hpb.out; replace Hpa := hidden hpa; replace Hpb := hidden hpb; have ea6 := cell_lit hpa (j := 6) rfl; have eb6 := cell_lit hpb (j := 6) rfl; clear hpa hpb hm2))
      go_ret
      exact ⟨by rw [Hall.out, Hw.out, Ha.out]; rfl, Hc2.out⟩
  · have Hw := hidden (decide_eq_false hw)
    clear hw
    go_wp2_with (go_at_call 25; (with_reducible refine (sameWorld_calls _ _ _ _ _ _ _ _ _ _ _ _ _ _ _ (cWorld.mod Hx.out.1 Hm0.out fun _ _ _ q => q) (cWorld.mod Hy.out.1 Hm0.out fun _ _ _ q => q) Hs.out.world Hs.out.words).mono ?_); rintro e w2 ⟨he, hm2⟩; rw [Hw.out] at he; subst he; have Hc1 := hidden (Hm0.out.trans hm2); have hpa := hm2.heapF Hpa.out; have hpb := hm2.heapF Hpb.out; replace Hpa := hidden hpa; replace Hpb := hidden hpb; have da5 := cell_lit hpa (j := 5) rfl; have db5 := cell_lit hpb (j := 5) rfl; have da6 := cell_lit hpa (j := 6) rfl; have db6 := cell_lit hpb (j := 6) rfl; clear hpa hpb hm2)
    go_ret
    exact ⟨by rw [Hall.out, Hw.out]; rfl, Hc1.out⟩
end Go.Proofs.YthgibbekfcenhaaGreatDoor
