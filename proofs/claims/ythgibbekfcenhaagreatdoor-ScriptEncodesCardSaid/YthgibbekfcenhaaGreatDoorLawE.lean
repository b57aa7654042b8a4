/- The walk of the law ScriptEncodes. -/
import Derived.Test.YthgibbekfcenhaaGreatDoorSelf
import Derived.Test.YthgibbekfcenhaaGreatDoorSmall
import Derived.Test.YthgibbekfcenhaaGreatDoorAlive
import Derived.Test.YthgibbekfcenhaaGreatDoorRefDec
import Derived.Test.YthgibbekfcenhaaGreatDoorEncBad
import Derived.Test.YthgibbekfcenhaaGreatDoorNum
namespace Go.Proofs.YthgibbekfcenhaaGreatDoor
open Go.RowKit

theorem AllErrs.errs {W : World} (h : AllErrs W) : Errs W := ⟨h.eForm, h.eFull, h.eName, h.eRange, h.eLong⟩

set_option maxRecDepth 10000 in
set_option maxHeartbeats 4000000 in
theorem encodes_law (w : World) (F : Fp) (c : PCase) (a1 a2 a3 a4 a5 a6 a7 : Value) (h : cCase.rd w F [a1, a2, a3, a4, a5, a6, a7] c) (hc : c.world.vars.length ≤ 2600000000000) (hE : AllErrs w) (aR aL aF : Addr) (h3 : ThreeErrs w aR aL aF) :
    Calls Tryz.prog 3 #[.agg #[a1, a2, a3, a4, a5, a6, a7]] w (BoolPost true w) := by
  obtain ⟨R1, q1, R2, q2, R3, q3, R4, q4, R5, q5, R6, q6, R7, q7, he, -⟩ := case_cells h
  simp only [List.cons.injEq, and_true] at he
  obtain ⟨rfl, rfl, rfl, rfl, rfl, rfl, rfl⟩ := he
  have HCW : Hid (∀ W, Mod (fun _ => False) w W → cCase.rd W F [.slice R1 c.world.files.length q1, .slice R2 c.world.vars.length q2, .slice R3 c.world.outputs.length q3, .slice R4 c.world.outcomes.length q4, .slice R5 c.world.verdicts.length q5, .slice R6 c.args.length q6, .slice R7 c.picks.length q7] c) := hidden fun W hW => cCase.mod h hW fun _ _ _ q => q
  have HE := hidden hE
  have H3 := hidden h3
  have Hbc := hidden hc
  clear h hc hE h3
  generalize hn1 : c.world.files.length = n1 at HCW ⊢
  generalize hn2 : c.world.vars.length = n2 at HCW ⊢
  generalize hn3 : c.world.outputs.length = n3 at HCW ⊢
  generalize hn4 : c.world.outcomes.length = n4 at HCW ⊢
  generalize hn5 : c.world.verdicts.length = n5 at HCW ⊢
  generalize hn6 : c.args.length = n6 at HCW ⊢
  generalize hn7 : c.picks.length = n7 at HCW ⊢
  have Hn1 := hidden hn1
  have Hn2 := hidden hn2
  have Hn3 := hidden hn3
  have Hn4 := hidden hn4
  have Hn5 := hidden hn5
  have Hn6 := hidden hn6
  have Hn7 := hidden hn7
  clear hn1 hn2 hn3 hn4 hn5 hn6 hn7
  have hpa := heap_alloc_new w (.cells #[.slice R1 n1 q1, .slice R2 n2 q2, .slice R3 n3 q3, .slice R4 n4 q4, .slice R5 n5 q5, .slice R6 n6 q6, .slice R7 n7 q7] 32)
  have hm0 : Mod (fun _ => False) w (w.alloc (.cells #[.slice R1 n1 q1, .slice R2 n2 q2, .slice R3 n3 q3, .slice R4 n4 q4, .slice R5 n5 q5, .slice R6 n6 q6, .slice R7 n7 q7] 32)) := (Mod.refl _ _).alloc _
  have Hpa := hidden hpa
  have Hm0 := hidden hm0
  clear hpa hm0
  go_enter Tryz.func3, Tryz.ntmps3
  go_wp2_with fail
  refine (alive_calls _).mono ?_
  rintro e w1 ⟨rfl, hm1⟩
  have Hm := hidden (Hm0.out.trans hm1)
  have Hpa := hidden (hm1.heapF Hpa.out)
  clear hm1
  have hs0 := held7 Hpa.out
  go_wp2_with fail
  refine (longWorld_calls _ F c.world c.args _ _ _ _ _ _ (case_world (HCW.out _ Hm.out)).1 (case_world (HCW.out _ Hm.out)).2.1 Hbc.out (HE.out.mod Hm.out).errs).mono ?_
  rintro e w2 ⟨b, rfl, hg1, hm2⟩
  have HG := hidden hg1
  have Hm := hidden (Hm.out.trans hm2)
  have Hpa := hidden (hm2.heapF Hpa.out)
  have hs2 := held7 Hpa.out
  clear hs0 hg1 hm2
  cases b
  case true =>
    go_wp2_with fail
    go_ret
    exact ⟨rfl, Hm.out⟩
  by_cases hk1 : (40 : Int) < n7
  case pos =>
    go_wp2_with fail
    go_ret
    exact ⟨rfl, Hm.out⟩
  have Hp40 : Hid (c.picks.length ≤ 40) := hidden (by rw [Hn7.out]; omega)
  have Hs := hidden (small_of (HG.out (by trivial)) Hp40.out)
  have Hw := hidden (wsmall_of (HG.out (by trivial)) Hp40.out)
  go_wp2_with fail
  refine (caseOf_calls (HCW.out _ Hm.out) Hs.out.world).mono ?_
  rintro e w3 ⟨o1, o2, o3, o4, o5, o6, o7, rfl, hof, hm3⟩
  have HO := hidden hof
  obtain ⟨S1, t1, S2, t2, S3, t3, S4, t4, S5, t5, S6, t6, S7, t7, he, -⟩ := case_cells hof
  simp only [List.cons.injEq, and_true] at he
  obtain ⟨rfl, rfl, rfl, rfl, rfl, rfl, rfl⟩ := he
  have hHO : ∀ W, Mod (fun _ => False) w3 W → cCase.rd W (CopyF w2 F) [.slice S1 c.world.files.length t1, .slice S2 c.world.vars.length t2, .slice S3 c.world.outputs.length t3, .slice S4 c.world.outcomes.length t4, .slice S5 c.world.verdicts.length t5, .slice S6 c.args.length t6, .slice S7 c.picks.length t7] c := fun W hW => cCase.mod HO.out hW fun _ _ _ q => q
  have HOW := hidden hHO
  clear hHO hof HO
  rw [Hn1.out, Hn2.out, Hn3.out, Hn4.out, Hn5.out, Hn6.out, Hn7.out] at HOW
  have Hm := hidden (Hm.out.trans hm3)
  have Hpa := hidden (hm3.heapF Hpa.out)
  clear hs2 hm3
  rw [Hn1.out, Hn2.out, Hn3.out, Hn4.out, Hn5.out, Hn6.out, Hn7.out]
  have hs3 := held7 Hpa.out
  go_upto_region 6 with fail
  clear hs3
  have hpo := heap_alloc_new w3 (.cells #[.slice S1 n1 t1, .slice S2 n2 t2, .slice S3 n3 t3, .slice S4 n4 t4, .slice S5 n5 t5, .slice S6 n6 t6, .slice S7 n7 t7] 43)
  have hm4 : Mod (fun _ => False) w3 (w3.alloc (.cells #[.slice S1 n1 t1, .slice S2 n2 t2, .slice S3 n3 t3, .slice S4 n4 t4, .slice S5 n5 t5, .slice S6 n6 t6, .slice S7 n7 t7] 43)) := (Mod.refl _ _).alloc _
  have Hpa := hidden (hm4.heapF Hpa.out)
  have Hm := hidden (Hm.out.trans hm4)
  have HOW4 : Hid (∀ W, Mod (fun _ => False) (w3.alloc (.cells #[.slice S1 n1 t1, .slice S2 n2 t2, .slice S3 n3 t3, .slice S4 n4 t4, .slice S5 n5 t5, .slice S6 n6 t6, .slice S7 n7 t7] 43)) W → cCase.rd W (CopyF w2 F) [.slice S1 n1 t1, .slice S2 n2 t2, .slice S3 n3 t3, .slice S4 n4 t4, .slice S5 n5 t5, .slice S6 n6 t6, .slice S7 n7 t7] c) := hidden fun W hW => HOW.out W (hm4.trans hW)
  clear hm4 HOW
  generalize w3.heap.size = g at *
  generalize w3.alloc (.cells #[.slice S1 n1 t1, .slice S2 n2 t2, .slice S3 n3 t3, .slice S4 n4 t4, .slice S5 n5 t5, .slice S6 n6 t6, .slice S7 n7 t7] 43) = w4 at *
  have Hpo := hidden hpo
  clear hpo
  have HS : Hid (∀ W', Mod (fun _ => False) w4 W' → W'.cell? ⟨w.heap.size, 0, none⟩ = some (.slice R1 n1 q1) ∧ W'.cell? ⟨w.heap.size, 1, none⟩ = some (.slice R2 n2 q2) ∧ W'.cell? ⟨w.heap.size, 2, none⟩ = some (.slice R3 n3 q3) ∧ W'.cell? ⟨w.heap.size, 3, none⟩ = some (.slice R4 n4 q4) ∧ W'.cell? ⟨w.heap.size, 4, none⟩ = some (.slice R5 n5 q5) ∧ W'.cell? ⟨w.heap.size, 5, none⟩ = some (.slice R6 n6 q6) ∧ W'.cell? ⟨w.heap.size, 6, none⟩ = some (.slice R7 n7 q7) ∧ W'.cell? ⟨g, 0, none⟩ = some (.slice S1 n1 t1) ∧ W'.cell? ⟨g, 1, none⟩ = some (.slice S2 n2 t2) ∧ W'.cell? ⟨g, 2, none⟩ = some (.slice S3 n3 t3) ∧ W'.cell? ⟨g, 3, none⟩ = some (.slice S4 n4 t4) ∧ W'.cell? ⟨g, 4, none⟩ = some (.slice S5 n5 t5) ∧ W'.cell? ⟨g, 5, none⟩ = some (.slice S6 n6 t6) ∧ W'.cell? ⟨g, 6, none⟩ = some (.slice S7 n7 t7)) := hidden fun W' h' => by
    have e1 := held7 (h'.heapF Hpa.out)
    have e2 := held7 (h'.heapF Hpo.out)
    exact ⟨e1.1, e1.2.1, e1.2.2.1, e1.2.2.2.1, e1.2.2.2.2.1, e1.2.2.2.2.2.1, e1.2.2.2.2.2.2, e2.1, e2.2.1, e2.2.2.1, e2.2.2.2.1, e2.2.2.2.2.1, e2.2.2.2.2.2.1, e2.2.2.2.2.2.2⟩
  have Hcur : Hid (Mod (fun _ => False) w4 w4) := hidden (Mod.refl _ _)
  have hs := HS.out _ Hcur.out
  cases hok : okCase c
  case false =>
    have Hok := hidden hok
    clear hok
    go_wp2_with fail
    refine (refPlain_calls _ (CopyF w2 F) c _ _ _ _ _ _ _ (HOW4.out _ Hcur.out) Hs.out).mono ?_
    rintro e w5 ⟨rfl, hm5⟩
    rw [Hok.out]
    replace Hcur := hidden (Hcur.out.trans hm5)
    clear hs hm5
    have hs := HS.out _ Hcur.out
    go_wp2_with fail
    refine (encodeBad_calls _ F c _ _ _ _ _ _ _ (HCW.out _ (Hm.out.trans Hcur.out)) Hw.out Hok.out 196 (.pointer (some aF)) (H3.out.mod (Hm.out.trans Hcur.out)).cF).mono ?_
    rintro e w6 ⟨rfl, hm6⟩
    replace Hcur := hidden (Hcur.out.trans hm6)
    clear hs hm6
    have hs := HS.out _ Hcur.out
    go_wp2_with fail
    refine (plain_calls _ F c _ _ _ _ _ _ _ (HCW.out _ (Hm.out.trans Hcur.out)) Hw.out).mono ?_
    rintro e w7 ⟨rfl, hm7⟩
    rw [Hok.out]
    replace Hcur := hidden (Hcur.out.trans hm7)
    clear hs hm7
    go_wp2_with fail
    refine (num_form _ (HE.out.mod (Hm.out.trans Hcur.out)) aR aL aF (H3.out.mod (Hm.out.trans Hcur.out))).mono ?_
    rintro e w8 ⟨rfl, hm8⟩
    replace Hcur := hidden (Hcur.out.trans hm8)
    clear hm8
    go_wp2_with fail
    go_ret
    exact ⟨rfl, Hm.out.trans Hcur.out⟩
  case true =>
    have Hok := hidden hok
    have Hrt : Hid ((pCase (eCase c)).1 = c) := hidden (by have := reads_case c [] hok; rw [List.append_nil] at this; rw [this])
    clear hok
    go_wp2_with fail
    refine (refPlain_calls _ (CopyF w2 F) c _ _ _ _ _ _ _ (HOW4.out _ Hcur.out) Hs.out).mono ?_
    rintro e w5 ⟨rfl, hm5⟩
    rw [Hok.out]
    replace Hcur := hidden (Hcur.out.trans hm5)
    clear hs hm5
    have hs := HS.out _ Hcur.out
    go_wp2_with fail
    refine (encode_calls _ F c _ _ _ _ _ _ _ (HCW.out _ (Hm.out.trans Hcur.out)) Hw.out Hok.out).mono ?_
    rintro e w6 ⟨A8, n8, k8, rfl, hn8, hr8, hm6⟩
    replace Hcur := hidden (Hcur.out.trans hm6)
    have Hn8 := hidden hn8
    have Hx : Hid (∀ W, Mod (fun _ => False) w6 W → cBytes.rd W (fun b => b < W.heap.size) [.slice A8 (eCase c).length k8] (eCase c)) := hidden fun W hW => by
      rw [← hn8]; exact (cSl cU8).keep hr8 fun b hb hl => ⟨hW.block b hl (fun q => q), Nat.lt_of_lt_of_le hl hW.size⟩
    clear hs hm6 hn8 hr8
    have hs := HS.out _ Hcur.out
    go_wp2_with fail
    refine (plain_calls _ F c _ _ _ _ _ _ _ (HCW.out _ (Hm.out.trans Hcur.out)) Hw.out).mono ?_
    rintro e w7 ⟨rfl, hm7⟩
    rw [Hok.out]
    have Hold := hidden (Hcur.out.trans hm7)
    have Hx7 : Hid (Mod (fun _ => False) w6 w7.drew) := hidden hm7.drew
    replace Hcur := hidden (Hcur.out.trans hm7).drew
    clear hs hm7
    go_wp2_with fail
    go_region_held3 (fun W' => W'.cell? ⟨w.heap.size, 0, none⟩ = some (.slice R1 n1 q1) ∧ W'.cell? ⟨w.heap.size, 1, none⟩ = some (.slice R2 n2 q2) ∧ W'.cell? ⟨w.heap.size, 2, none⟩ = some (.slice R3 n3 q3) ∧ W'.cell? ⟨w.heap.size, 3, none⟩ = some (.slice R4 n4 q4) ∧ W'.cell? ⟨w.heap.size, 4, none⟩ = some (.slice R5 n5 q5) ∧ W'.cell? ⟨w.heap.size, 5, none⟩ = some (.slice R6 n6 q6) ∧ W'.cell? ⟨w.heap.size, 6, none⟩ = some (.slice R7 n7 q7) ∧ W'.cell? ⟨g, 0, none⟩ = some (.slice S1 n1 t1) ∧ W'.cell? ⟨g, 1, none⟩ = some (.slice S2 n2 t2) ∧ W'.cell? ⟨g, 2, none⟩ = some (.slice S3 n3 t3) ∧ W'.cell? ⟨g, 3, none⟩ = some (.slice S4 n4 t4) ∧ W'.cell? ⟨g, 4, none⟩ = some (.slice S5 n5 t5) ∧ W'.cell? ⟨g, 5, none⟩ = some (.slice S6 n6 t6) ∧ W'.cell? ⟨g, 6, none⟩ = some (.slice S7 n7 t7))
      (first | (with_reducible exact HS.out _ Hcur.out) | (with_reducible exact HS.out _ Hold.out))
      (first
        | (go_at_call 12; (with_reducible refine (refdecode_calls A8 k8 n8 _ (eCase c) Hn8.out (Hx.out _ Hx7.out)).mono ?_); rintro e w9 ⟨d1, d2, d3, d4, d5, d6, d7, rfl, hd9, hb9⟩; rw [Hrt.out] at hd9; have hmb := Mod.below (S := fun _ => False) hb9; replace Hcur := hidden (Hcur.out.trans hmb); replace Hx7 := hidden (Hx7.out.trans hmb); have Hd9 := hidden hd9; clear hd9 hb9 hmb)
        | (go_at_call 11; (with_reducible refine (same_self _ _ _ c _ _ _ _ _ _ _ _ _ _ _ _ _ _ Hd9.out (HOW4.out _ Hcur.out) Hs.out).mono ?_); rintro e w10 ⟨rfl, hm10⟩; replace Hcur := hidden (Hcur.out.trans hm10); replace Hx7 := hidden (Hx7.out.trans hm10); clear hm10)
        | (go_at_call 14; (with_reducible refine (decode_calls A8 k8 n8 _ (eCase c) Hn8.out (Hx.out _ Hx7.out)).mono ?_); rintro e w11 ⟨f1, f2, f3, f4, f5, f6, f7, rfl, hd9, hb9⟩; rw [Hrt.out] at hd9; have hmb := Mod.below (S := fun _ => False) hb9; replace Hcur := hidden (Hcur.out.trans hmb); replace Hx7 := hidden (Hx7.out.trans hmb); have Hf9 := hidden hd9; clear hd9 hb9 hmb)
        | (go_at_call 13; (with_reducible refine (scriptSame_self _ _ _ c _ _ _ _ _ _ _ _ _ _ _ _ _ _ Hf9.out (HCW.out _ (Mod.trans Hm.out Hcur.out)) Hs.out).mono ?_); rintro e w12 ⟨rfl, hm12⟩; replace Hcur := hidden (Hcur.out.trans hm12); clear hm12))
    all_goals (go_wp2_with fail)
    go_ret
    exact ⟨rfl, Hm.out.trans Hcur.out⟩
end Go.Proofs.YthgibbekfcenhaaGreatDoor
