/- The walk of the law ScriptSame. -/
import Derived.Test.YtpfaognjfbilmaaDoorLawD
import Derived.Test.YtpfaognjfbilmaaDoorLongW
namespace Go.Proofs.YtpfaognjfbilmaaDoor
open Go.RowKit

theorem small_of {c : PCase} (h : NoMore c.world c.args) (hp : c.picks.length ≤ 40) : SmallC c := by
  have l1 := okMany_len h.files
  have l2 := okMany_len h.vars
  have l3 := okMany_len h.outputs
  have l4 := okMany_len h.outcomes
  have l5 := okMany_len h.verdicts
  have l6 := okMany_len h.args
  refine ⟨⟨by omega, by omega, by omega, by omega, by omega, fun o ho => ?_⟩, fun v hv => ?_, by omega, by omega⟩
  · have := l4.2 o ho
    simp only [lgOutc, Bool.and_eq_true] at this
    have := okMany_len this.2
    omega
  · have := l2.2 v hv
    simp only [lgVar, Bool.and_eq_true] at this
    have := okMany_len this.2
    omega

set_option maxRecDepth 10000 in
set_option maxHeartbeats 4000000 in
theorem same_law (w : World) (F G : Fp) (c d : PCase) (a1 a2 a3 a4 a5 a6 a7 b1 b2 b3 b4 b5 b6 b7 : Value) (h : cCase.rd w F [a1, a2, a3, a4, a5, a6, a7] c) (h' : cCase.rd w G [b1, b2, b3, b4, b5, b6, b7] d) (hc : c.world.vars.length ≤ 2600000000000) (hd : d.world.vars.length ≤ 2600000000000) (hE : Errs w) :
    Calls Tryd.prog 4 #[.agg #[a1, a2, a3, a4, a5, a6, a7], .agg #[b1, b2, b3, b4, b5, b6, b7]] w (BoolPost true w) := by
  have HC := hidden h
  have HD := hidden h'
  obtain ⟨R1, q1, R2, q2, R3, q3, R4, q4, R5, q5, R6, q6, R7, q7, he, hx1, hx2, hx3, hx4, hx5, hx6, hx7⟩ := case_cells h
  simp only [List.cons.injEq, and_true] at he
  obtain ⟨rfl, rfl, rfl, rfl, rfl, rfl, rfl⟩ := he
  obtain ⟨S1, t1, S2, t2, S3, t3, S4, t4, S5, t5, S6, t6, S7, t7, he, hy1, hy2, hy3, hy4, hy5, hy6, hy7⟩ := case_cells h'
  simp only [List.cons.injEq, and_true] at he
  obtain ⟨rfl, rfl, rfl, rfl, rfl, rfl, rfl⟩ := he
  have HCW : Hid (∀ W, Mod (fun _ => False) w W → cCase.rd W F [.slice R1 c.world.files.length q1, .slice R2 c.world.vars.length q2, .slice R3 c.world.outputs.length q3, .slice R4 c.world.outcomes.length q4, .slice R5 c.world.verdicts.length q5, .slice R6 c.args.length q6, .slice R7 c.picks.length q7] c) := hidden fun W hW => cCase.mod h hW fun _ _ _ q => q
  have HDW : Hid (∀ W, Mod (fun _ => False) w W → cCase.rd W G [.slice S1 d.world.files.length t1, .slice S2 d.world.vars.length t2, .slice S3 d.world.outputs.length t3, .slice S4 d.world.outcomes.length t4, .slice S5 d.world.verdicts.length t5, .slice S6 d.args.length t6, .slice S7 d.picks.length t7] d) := hidden fun W hW => cCase.mod h' hW fun _ _ _ q => q
  have HE : Hid (∀ W, Mod (fun _ => False) w W → Errs W) := hidden fun W hm => hE.mod hm fun _ _ q => q
  have Hbc := hidden hc
  have Hbd := hidden hd
  have Hp1 : Hid (∀ n, c.picks.length = n → n ≤ 40 → c.picks.length ≤ 40) := hidden fun n e q => by omega
  obtain ⟨p, hp⟩ : ∃ p, decide (c = d) = p := ⟨_, rfl⟩
  have Hp := hidden hp
  clear h h' hc hd hE hp HC HD hx1 hy1 hx2 hy2 hx3 hy3 hx4 hy4 hx5 hy5 hx6 hy6 hx7 hy7
  generalize hn1 : c.world.files.length = n1 at HCW ⊢
  generalize hm1 : d.world.files.length = m1 at HDW ⊢
  generalize hn2 : c.world.vars.length = n2 at HCW ⊢
  generalize hm2 : d.world.vars.length = m2 at HDW ⊢
  generalize hn3 : c.world.outputs.length = n3 at HCW ⊢
  generalize hm3 : d.world.outputs.length = m3 at HDW ⊢
  generalize hn4 : c.world.outcomes.length = n4 at HCW ⊢
  generalize hm4 : d.world.outcomes.length = m4 at HDW ⊢
  generalize hn5 : c.world.verdicts.length = n5 at HCW ⊢
  generalize hm5 : d.world.verdicts.length = m5 at HDW ⊢
  generalize hn6 : c.args.length = n6 at HCW ⊢
  generalize hm6 : d.args.length = m6 at HDW ⊢
  generalize hn7 : c.picks.length = n7 at HCW ⊢
  generalize hm7 : d.picks.length = m7 at HDW ⊢
  have Hn7 := hidden hn7
  have Hm7 := hidden hm7
  clear hn1 hm1 hn2 hm2 hn3 hm3 hn4 hm4 hn5 hm5 hn6 hm6 hn7 hm7 Hp1
  have hpa : (World.heap ((w.alloc (.cells #[.slice R1 n1 q1, .slice R2 n2 q2, .slice R3 n3 q3, .slice R4 n4 q4, .slice R5 n5 q5, .slice R6 n6 q6, .slice R7 n7 q7] 34)).alloc (.cells #[.slice S1 m1 t1, .slice S2 m2 t2, .slice S3 m3 t3, .slice S4 m4 t4, .slice S5 m5 t5, .slice S6 m6 t6, .slice S7 m7 t7] 34)))[w.heap.size]? = some (.cells #[.slice R1 n1 q1, .slice R2 n2 q2, .slice R3 n3 q3, .slice R4 n4 q4, .slice R5 n5 q5, .slice R6 n6 q6, .slice R7 n7 q7] 34 (0, 0)) := hmx (heap_alloc_new _ _) _
  have hpb : (World.heap ((w.alloc (.cells #[.slice R1 n1 q1, .slice R2 n2 q2, .slice R3 n3 q3, .slice R4 n4 q4, .slice R5 n5 q5, .slice R6 n6 q6, .slice R7 n7 q7] 34)).alloc (.cells #[.slice S1 m1 t1, .slice S2 m2 t2, .slice S3 m3 t3, .slice S4 m4 t4, .slice S5 m5 t5, .slice S6 m6 t6, .slice S7 m7 t7] 34)))[w.heap.size + 1]? = some (.cells #[.slice S1 m1 t1, .slice S2 m2 t2, .slice S3 m3 t3, .slice S4 m4 t4, .slice S5 m5 t5, .slice S6 m6 t6, .slice S7 m7 t7] 34 (0, 0)) := two_new' _ _ _
  have hm0 : Mod (fun _ => False) w ((w.alloc (.cells #[.slice R1 n1 q1, .slice R2 n2 q2, .slice R3 n3 q3, .slice R4 n4 q4, .slice R5 n5 q5, .slice R6 n6 q6, .slice R7 n7 q7] 34)).alloc (.cells #[.slice S1 m1 t1, .slice S2 m2 t2, .slice S3 m3 t3, .slice S4 m4 t4, .slice S5 m5 t5, .slice S6 m6 t6, .slice S7 m7 t7] 34)) := ((Mod.refl _ _).alloc _).alloc _
  have Hpa := hidden hpa
  have Hpb := hidden hpb
  have Hm0 := hidden hm0
  clear hpa hpb hm0
  go_enter Tryd.func4, Tryd.ntmps4
  go_wp2_with fail
  refine (alive_calls _).mono ?_
  rintro e w1 ⟨rfl, hm1⟩
  have Hm := hidden (Hm0.out.trans hm1)
  have Hpa := hidden (hm1.heapF Hpa.out)
  have Hpb := hidden (hm1.heapF Hpb.out)
  clear hm1
  have HS : Hid (∀ W', Mod (fun _ => False) w1 W' → W'.cell? ⟨w.heap.size, 0, none⟩ = some (.slice R1 n1 q1) ∧ W'.cell? ⟨w.heap.size, 1, none⟩ = some (.slice R2 n2 q2) ∧ W'.cell? ⟨w.heap.size, 2, none⟩ = some (.slice R3 n3 q3) ∧ W'.cell? ⟨w.heap.size, 3, none⟩ = some (.slice R4 n4 q4) ∧ W'.cell? ⟨w.heap.size, 4, none⟩ = some (.slice R5 n5 q5) ∧ W'.cell? ⟨w.heap.size, 5, none⟩ = some (.slice R6 n6 q6) ∧ W'.cell? ⟨w.heap.size, 6, none⟩ = some (.slice R7 n7 q7) ∧ W'.cell? ⟨w.heap.size + 1, 0, none⟩ = some (.slice S1 m1 t1) ∧ W'.cell? ⟨w.heap.size + 1, 1, none⟩ = some (.slice S2 m2 t2) ∧ W'.cell? ⟨w.heap.size + 1, 2, none⟩ = some (.slice S3 m3 t3) ∧ W'.cell? ⟨w.heap.size + 1, 3, none⟩ = some (.slice S4 m4 t4) ∧ W'.cell? ⟨w.heap.size + 1, 4, none⟩ = some (.slice S5 m5 t5) ∧ W'.cell? ⟨w.heap.size + 1, 5, none⟩ = some (.slice S6 m6 t6) ∧ W'.cell? ⟨w.heap.size + 1, 6, none⟩ = some (.slice S7 m7 t7)) := hidden fun W' h' => by
    have e1 := held7 (h'.heapF Hpa.out)
    have e2 := held7 (h'.heapF Hpb.out)
    exact ⟨e1.1, e1.2.1, e1.2.2.1, e1.2.2.2.1, e1.2.2.2.2.1, e1.2.2.2.2.2.1, e1.2.2.2.2.2.2, e2.1, e2.2.1, e2.2.2.1, e2.2.2.2.1, e2.2.2.2.2.1, e2.2.2.2.2.2.1, e2.2.2.2.2.2.2⟩
  have hs0 := HS.out w1 (Mod.refl _ _)
  go_wp2_with fail
  refine (longWorld_calls _ F c.world c.args _ _ _ _ _ _ (case_world (HCW.out _ Hm.out)).1 (case_world (HCW.out _ Hm.out)).2.1 Hbc.out (HE.out _ Hm.out)).mono ?_
  rintro e w2 ⟨b, rfl, hg1, hm2⟩
  have HG1 := hidden hg1
  have Hc2 := hidden hm2
  have hs2 := HS.out w2 hm2
  clear hs0 hg1 hm2
  cases b
  case true =>
    go_wp2_with fail
    go_ret
    exact ⟨rfl, Hm.out.trans Hc2.out⟩
  go_wp2_with fail
  refine (longWorld_calls _ G d.world d.args _ _ _ _ _ _ (case_world (HDW.out _ (Hm.out.trans Hc2.out))).1 (case_world (HDW.out _ (Hm.out.trans Hc2.out))).2.1 Hbd.out (HE.out _ (Hm.out.trans Hc2.out))).mono ?_
  rintro e w3 ⟨b, rfl, hg2, hm3⟩
  have HG2 := hidden hg2
  have Hc3 := hidden (Hc2.out.trans hm3)
  have hs3 := HS.out w3 Hc3.out
  clear hs2 hg2 hm3
  cases b
  case true =>
    go_wp2_with fail
    go_ret
    exact ⟨rfl, Hm.out.trans Hc3.out⟩
  by_cases hk1 : (40 : Int) < n7
  case pos =>
    go_wp2_with fail
    go_ret
    exact ⟨rfl, Hm.out.trans Hc3.out⟩
  by_cases hk2 : (40 : Int) < m7
  case pos =>
    go_wp2_with fail
    go_ret
    exact ⟨rfl, Hm.out.trans Hc3.out⟩
  have Hs1 := hidden (small_of (HG1.out (by trivial)) (by rw [Hn7.out]; omega))
  have Hs2 := hidden (small_of (HG2.out (by trivial)) (by rw [Hm7.out]; omega))
  go_wp2_with fail
  clear hs3
  have HS3 : Hid (∀ W', Mod (fun _ => False) w3 W' → W'.cell? ⟨w.heap.size, 0, none⟩ = some (.slice R1 n1 q1) ∧ W'.cell? ⟨w.heap.size, 1, none⟩ = some (.slice R2 n2 q2) ∧ W'.cell? ⟨w.heap.size, 2, none⟩ = some (.slice R3 n3 q3) ∧ W'.cell? ⟨w.heap.size, 3, none⟩ = some (.slice R4 n4 q4) ∧ W'.cell? ⟨w.heap.size, 4, none⟩ = some (.slice R5 n5 q5) ∧ W'.cell? ⟨w.heap.size, 5, none⟩ = some (.slice R6 n6 q6) ∧ W'.cell? ⟨w.heap.size, 6, none⟩ = some (.slice R7 n7 q7) ∧ W'.cell? ⟨w.heap.size + 1, 0, none⟩ = some (.slice S1 m1 t1) ∧ W'.cell? ⟨w.heap.size + 1, 1, none⟩ = some (.slice S2 m2 t2) ∧ W'.cell? ⟨w.heap.size + 1, 2, none⟩ = some (.slice S3 m3 t3) ∧ W'.cell? ⟨w.heap.size + 1, 3, none⟩ = some (.slice S4 m4 t4) ∧ W'.cell? ⟨w.heap.size + 1, 4, none⟩ = some (.slice S5 m5 t5) ∧ W'.cell? ⟨w.heap.size + 1, 5, none⟩ = some (.slice S6 m6 t6) ∧ W'.cell? ⟨w.heap.size + 1, 6, none⟩ = some (.slice S7 m7 t7)) := hidden fun W' h' => HS.out W' (Hc3.out.trans h')
  have Hcur : Hid (Mod (fun _ => False) w3 w3.drew) := hidden (Mod.refl _ _).drew
  have HM3 := hidden (Hm.out.trans Hc3.out)
  clear HS
  go_region_held3 (fun W' => W'.cell? ⟨w.heap.size, 0, none⟩ = some (.slice R1 n1 q1) ∧ W'.cell? ⟨w.heap.size, 1, none⟩ = some (.slice R2 n2 q2) ∧ W'.cell? ⟨w.heap.size, 2, none⟩ = some (.slice R3 n3 q3) ∧ W'.cell? ⟨w.heap.size, 3, none⟩ = some (.slice R4 n4 q4) ∧ W'.cell? ⟨w.heap.size, 4, none⟩ = some (.slice R5 n5 q5) ∧ W'.cell? ⟨w.heap.size, 5, none⟩ = some (.slice R6 n6 q6) ∧ W'.cell? ⟨w.heap.size, 6, none⟩ = some (.slice R7 n7 q7) ∧ W'.cell? ⟨w.heap.size + 1, 0, none⟩ = some (.slice S1 m1 t1) ∧ W'.cell? ⟨w.heap.size + 1, 1, none⟩ = some (.slice S2 m2 t2) ∧ W'.cell? ⟨w.heap.size + 1, 2, none⟩ = some (.slice S3 m3 t3) ∧ W'.cell? ⟨w.heap.size + 1, 3, none⟩ = some (.slice S4 m4 t4) ∧ W'.cell? ⟨w.heap.size + 1, 4, none⟩ = some (.slice S5 m5 t5) ∧ W'.cell? ⟨w.heap.size + 1, 5, none⟩ = some (.slice S6 m6 t6) ∧ W'.cell? ⟨w.heap.size + 1, 6, none⟩ = some (.slice S7 m7 t7))
    (first | (with_reducible exact HS3.out _ Hcur.out) | (with_reducible exact HS3.out _ (Mod.refl _ _)))
    (first
      | (go_at_call 13; (with_reducible refine (scriptSame_calls _ _ _ c d _ _ _ _ _ _ _ _ _ _ _ _ _ _ (HCW.out _ (Mod.trans HM3.out Hcur.out)) (HDW.out _ (Mod.trans HM3.out Hcur.out)) Hs1.out).mono ?_); rintro e w4 ⟨rfl, hm4⟩; replace Hcur := hidden (Hcur.out.trans hm4); clear hm4; rw [Hp.out])
      | (go_at_call 13; (with_reducible refine (scriptSame_self _ _ _ c _ _ _ _ _ _ _ _ _ _ _ _ _ _ (HCW.out _ (Mod.trans HM3.out Hcur.out)) (HCW.out _ (Mod.trans HM3.out Hcur.out)) Hs1.out).mono ?_); rintro e w4 ⟨rfl, hm4⟩; replace Hcur := hidden (Hcur.out.trans hm4); clear hm4)
      | (go_at_call 9; (with_reducible refine (caseOf_calls (HCW.out _ (Mod.trans HM3.out Hcur.out)) Hs1.out.world).mono ?_); rintro e w5 ⟨o1, o2, o3, o4, o5, o6, o7, rfl, hof, hm5⟩; (try replace Hod := hidden (cCase.mod Hod.out hm5 fun _ _ _ q => q)); replace Hcur := hidden (Hcur.out.trans hm5); have Hoc := hidden hof; clear hof hm5)
      | (go_at_call 9; (with_reducible refine (caseOf_calls (HDW.out _ (Mod.trans HM3.out Hcur.out)) Hs2.out.world).mono ?_); rintro e w6 ⟨p1, p2, p3, p4, p5, p6, p7, rfl, hof, hm6⟩; (try replace Hoc := hidden (cCase.mod Hoc.out hm6 fun _ _ _ q => q)); replace Hcur := hidden (Hcur.out.trans hm6); have Hod := hidden hof; clear hof hm6)
      | (go_at_call 8; (with_reducible refine (sameCase_calls _ _ _ c d _ _ _ _ _ _ _ _ _ _ _ _ _ _ Hoc.out Hod.out Hs1.out).mono ?_); rintro e w7 ⟨rfl, hm7⟩; replace Hcur := hidden (Hcur.out.trans hm7); clear hm7; rw [Hp.out]))
  all_goals (go_wp2_with fail)
  go_ret
  exact ⟨rfl, HM3.out.trans Hcur.out⟩
end Go.Proofs.YtpfaognjfbilmaaDoor
