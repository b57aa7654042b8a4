/- The walk of the law ScriptDecodes. -/
import Derived.Test.YtpfaognjfbilmaaDoorAlive
import Derived.Test.YtpfaognjfbilmaaDoorSSame
import Derived.Test.YtpfaognjfbilmaaDoorRefDec
import Derived.Test.YtpfaognjfbilmaaDoorOk
namespace Go.Proofs.YtpfaognjfbilmaaDoor
open Go.RowKit

theorem same_self (w : World) (F G : Fp) (c : PCase) (a1 a2 a3 a4 a5 a6 a7 b1 b2 b3 b4 b5 b6 b7 : Value) (h : cCase.rd w F [a1, a2, a3, a4, a5, a6, a7] c) (h' : cCase.rd w G [b1, b2, b3, b4, b5, b6, b7] c) (hs : SmallC c) :
    Calls Tryd.prog 8 #[.agg #[a1, a2, a3, a4, a5, a6, a7], .agg #[b1, b2, b3, b4, b5, b6, b7]] w (BoolPost true w) := by
  have := sameCase_calls w F G c c _ _ _ _ _ _ _ _ _ _ _ _ _ _ h h' hs
  rwa [decide_eq_true rfl] at this
theorem scriptSame_self (w : World) (F G : Fp) (c : PCase) (a1 a2 a3 a4 a5 a6 a7 b1 b2 b3 b4 b5 b6 b7 : Value) (h : cCase.rd w F [a1, a2, a3, a4, a5, a6, a7] c) (h' : cCase.rd w G [b1, b2, b3, b4, b5, b6, b7] c) (hs : SmallC c) :
    Calls Tryd.prog 13 #[.agg #[a1, a2, a3, a4, a5, a6, a7], .agg #[b1, b2, b3, b4, b5, b6, b7]] w (BoolPost true w) := by
  have := scriptSame_calls w F G c c _ _ _ _ _ _ _ _ _ _ _ _ _ _ h h' hs
  rwa [decide_eq_true rfl] at this

theorem plain_true (w : World) (F : Fp) (c : PCase) (a1 a2 a3 a4 a5 a6 a7 : Value) (h : cCase.rd w F [a1, a2, a3, a4, a5, a6, a7] c) (hl : wCase c ≤ 4294967296) (hok : okCase c = true) :
    Calls Tryd.prog 10 #[.agg #[a1, a2, a3, a4, a5, a6, a7]] w (BoolPost true w) := by
  have := plain_calls w F c _ _ _ _ _ _ _ h hl
  rwa [hok] at this
theorem refPlain_true (w : World) (F : Fp) (c : PCase) (a1 a2 a3 a4 a5 a6 a7 : Value) (h : cCase.rd w F [a1, a2, a3, a4, a5, a6, a7] c) (hs : SmallC c) (hok : okCase c = true) :
    Calls Tryd.prog 11 #[.agg #[a1, a2, a3, a4, a5, a6, a7]] w (BoolPost true w) := by
  have := refPlain_calls w F c _ _ _ _ _ _ _ h hs
  rwa [hok] at this

set_option maxRecDepth 10000 in
set_option maxHeartbeats 4000000 in
theorem decodes_law (A : Option Addr) (cap n : Nat) (w : World) (l : Bytes) (hn : n = l.length) (h : cBytes.rd w (fun b => b < w.heap.size) [.slice A n cap] l) :
    Calls Tryd.prog 3 #[.slice A n cap] w (BoolPost true w) := by
  have Hn := hidden hn
  have Hb : Hid (∀ W, Mod (fun _ => False) w W → cBytes.rd W (fun b => b < W.heap.size) [.slice A l.length cap] l) := hidden fun W hW => by
    rw [← hn]; exact (cSl cU8).keep h fun b hb hl => ⟨hW.block b hl (fun q => q), Nat.lt_of_lt_of_le hb hW.size⟩
  obtain ⟨s, hs⟩ : ∃ s : ByteArray, s = ⟨(l.take n).toArray⟩ := ⟨_, rfl⟩
  have Hcv : Hid (∀ W', Mod (fun _ => False) w W' → (Go.convert 22 9 (.slice A n cap)).run Tryd.prog W' = .ok (.string s) W') := hidden fun W' hW => by
    rw [hs]; exact conv_bytes (P := Tryd.prog) (cap' := cap) (Hb.out W' hW) u_bytes Tryd.underlying5 (dst := 9) Tryd.underlying9 (by rw [hn]; exact Nat.le_refl _)
  have Hok := hidden (plain_case l)
  generalize hc0 : (pCase l).1 = c at *
  have Hc0 := hidden hc0
  have Hrt : Hid ((pCase (eCase c)).1 = c) := hidden (by have := reads_case c [] Hok.out; rw [List.append_nil] at this; rw [this])
  have Hs := hidden (ok_small Hok.out).1
  have hw := (ok_small Hok.out).2
  have Hw := hidden hw
  have hss : (s.toList == s.toList) = true := by simp
  clear hn h hs hc0 hw
  by_cases hbig : (3000 : Int) < n
  · go_enter Tryd.func3, Tryd.ntmps3
    go_wp2_with fail
    refine (alive_calls _).mono ?_
    rintro e w1 ⟨rfl, hm1⟩
    have Hm1 := hidden hm1
    clear hm1
    go_wp2_with fail
    go_ret
    exact ⟨rfl, Hm1.out⟩
  · go_enter Tryd.func3, Tryd.ntmps3
    go_wp2_with fail
    refine (alive_calls _).mono ?_
    rintro e w1 ⟨rfl, hm1⟩
    have hcv := Hcv.out w1 hm1
    have Hm1 := hidden hm1
    clear hm1
    go_wp2_with fail
    refine (decode_calls A cap n w1 l Hn.out (Hb.out _ Hm1.out)).mono ?_
    rintro e w2 ⟨a1, a2, a3, a4, a5, a6, a7, rfl, hc, hb⟩
    rw [Hc0.out] at hc
    have HC := hidden hc
    obtain ⟨R1, q1, R2, q2, R3, q3, R4, q4, R5, q5, R6, q6, R7, q7, he, -⟩ := case_cells hc
    simp only [List.cons.injEq, and_true] at he
    obtain ⟨rfl, rfl, rfl, rfl, rfl, rfl, rfl⟩ := he
    have Hm2 := hidden (Hm1.out.trans (Mod.below (S := fun _ => False) hb))
    have hz2 := hb.size
    clear hc hb hcv
    go_wp2_with fail
    refine (refdecode_calls A cap n _ l Hn.out (Hb.out _ (Hm2.out.alloc _))).mono ?_
    rintro e w3 ⟨b1, b2, b3, b4, b5, b6, b7, rfl, hd, hb3⟩
    rw [Hc0.out] at hd
    have HD := hidden hd
    obtain ⟨S1, t1, S2, t2, S3, t3, S4, t4, S5, t5, S6, t6, S7, t7, he, -⟩ := case_cells hd
    simp only [List.cons.injEq, and_true] at he
    obtain ⟨rfl, rfl, rfl, rfl, rfl, rfl, rfl⟩ := he
    generalize c.world.files.length = n1 at *
    generalize c.world.vars.length = n2 at *
    generalize c.world.outputs.length = n3 at *
    generalize c.world.outcomes.length = n4 at *
    generalize c.world.verdicts.length = n5 at *
    generalize c.args.length = n6 at *
    generalize c.picks.length = n7 at *
    have Hm3 := hidden (Mod.below (S := fun _ => False) hb3)
    clear hd hb3
    go_wp2_with fail
    have hpc := (Hm3.out.heapF (heap_alloc_new _ _))
    have hpd := heap_alloc_new w3 (.cells #[.slice S1 n1 t1, .slice S2 n2 t2, .slice S3 n3 t3, .slice S4 n4 t4, .slice S5 n5 t5, .slice S6 n6 t6, .slice S7 n7 t7] 44)
    have hpc := hmx hpc (.cells #[.slice S1 n1 t1, .slice S2 n2 t2, .slice S3 n3 t3, .slice S4 n4 t4, .slice S5 n5 t5, .slice S6 n6 t6, .slice S7 n7 t7] 44)
    have hmW := (Hm2.out.trans (((Mod.refl _ _).alloc _).trans Hm3.out)).alloc (.cells #[.slice S1 n1 t1, .slice S2 n2 t2, .slice S3 n3 t3, .slice S4 n4 t4, .slice S5 n5 t5, .slice S6 n6 t6, .slice S7 n7 t7] 44)
    have hcW := cCase.keep (w' := w3.alloc (.cells #[.slice S1 n1 t1, .slice S2 n2 t2, .slice S3 n3 t3, .slice S4 n4 t4, .slice S5 n5 t5, .slice S6 n6 t6, .slice S7 n7 t7] 44)) (F' := fun b => b < (w3.alloc (.cells #[.slice S1 n1 t1, .slice S2 n2 t2, .slice S3 n3 t3, .slice S4 n4 t4, .slice S5 n5 t5, .slice S6 n6 t6, .slice S7 n7 t7] 44)).heap.size) HC.out fun b hb hl => ⟨((((Mod.refl (fun _ => False) _).alloc _).trans Hm3.out).alloc _).block b hl (fun q => q), by have := Hm3.out.size; simp at this ⊢; omega⟩
    have hdW := cCase.keep (w' := w3.alloc (.cells #[.slice S1 n1 t1, .slice S2 n2 t2, .slice S3 n3 t3, .slice S4 n4 t4, .slice S5 n5 t5, .slice S6 n6 t6, .slice S7 n7 t7] 44)) (F' := fun b => b < (w3.alloc (.cells #[.slice S1 n1 t1, .slice S2 n2 t2, .slice S3 n3 t3, .slice S4 n4 t4, .slice S5 n5 t5, .slice S6 n6 t6, .slice S7 n7 t7] 44)).heap.size) HD.out fun b hb hl => ⟨((Mod.refl (fun _ => False) _).alloc _).block b hl (fun q => q), by simp; omega⟩
    generalize w3.alloc (.cells #[.slice S1 n1 t1, .slice S2 n2 t2, .slice S3 n3 t3, .slice S4 n4 t4, .slice S5 n5 t5, .slice S6 n6 t6, .slice S7 n7 t7] 44) = W at *
    have HCW : Hid (∀ W', Mod (fun _ => False) W W' → cCase.rd W' (fun b => b < W.heap.size) [.slice R1 n1 q1, .slice R2 n2 q2, .slice R3 n3 q3, .slice R4 n4 q4, .slice R5 n5 q5, .slice R6 n6 q6, .slice R7 n7 q7] c) := hidden fun W' h' => cCase.mod hcW h' fun _ _ _ q => q
    have HDW : Hid (∀ W', Mod (fun _ => False) W W' → cCase.rd W' (fun b => b < W.heap.size) [.slice S1 n1 t1, .slice S2 n2 t2, .slice S3 n3 t3, .slice S4 n4 t4, .slice S5 n5 t5, .slice S6 n6 t6, .slice S7 n7 t7] c) := hidden fun W' h' => cCase.mod hdW h' fun _ _ _ q => q
    have Hpc := hidden hpc
    have Hpd := hidden hpd
    have HmW := hidden hmW
    clear hpc hpd hmW hcW hdW HC HD
    have HS : Hid (∀ W', Mod (fun _ => False) W W' → W'.cell? ⟨w2.heap.size, 0, none⟩ = some (.slice R1 n1 q1) ∧ W'.cell? ⟨w2.heap.size, 1, none⟩ = some (.slice R2 n2 q2) ∧ W'.cell? ⟨w2.heap.size, 2, none⟩ = some (.slice R3 n3 q3) ∧ W'.cell? ⟨w2.heap.size, 3, none⟩ = some (.slice R4 n4 q4) ∧ W'.cell? ⟨w2.heap.size, 4, none⟩ = some (.slice R5 n5 q5) ∧ W'.cell? ⟨w2.heap.size, 5, none⟩ = some (.slice R6 n6 q6) ∧ W'.cell? ⟨w2.heap.size, 6, none⟩ = some (.slice R7 n7 q7) ∧ W'.cell? ⟨w3.heap.size, 0, none⟩ = some (.slice S1 n1 t1) ∧ W'.cell? ⟨w3.heap.size, 1, none⟩ = some (.slice S2 n2 t2) ∧ W'.cell? ⟨w3.heap.size, 2, none⟩ = some (.slice S3 n3 t3) ∧ W'.cell? ⟨w3.heap.size, 3, none⟩ = some (.slice S4 n4 t4) ∧ W'.cell? ⟨w3.heap.size, 4, none⟩ = some (.slice S5 n5 t5) ∧ W'.cell? ⟨w3.heap.size, 5, none⟩ = some (.slice S6 n6 t6) ∧ W'.cell? ⟨w3.heap.size, 6, none⟩ = some (.slice S7 n7 t7) ∧ (Go.convert 22 9 (.slice A n cap)).run Tryd.prog W' = .ok (.string s) W') := hidden fun W' h' => by
      have e1 := held7 (h'.heapF Hpc.out)
      have e2 := held7 (h'.heapF Hpd.out)
      exact ⟨e1.1, e1.2.1, e1.2.2.1, e1.2.2.2.1, e1.2.2.2.2.1, e1.2.2.2.2.2.1, e1.2.2.2.2.2.2, e2.1, e2.2.1, e2.2.2.1, e2.2.2.2.1, e2.2.2.2.2.1, e2.2.2.2.2.2.1, e2.2.2.2.2.2.2, Hcv.out W' (HmW.out.trans h')⟩
    have Hcur : Hid (Mod (fun _ => False) W W.drew) := hidden (Mod.refl _ _).drew
    go_region_held3 (fun W' => W'.cell? ⟨w2.heap.size, 0, none⟩ = some (.slice R1 n1 q1) ∧ W'.cell? ⟨w2.heap.size, 1, none⟩ = some (.slice R2 n2 q2) ∧ W'.cell? ⟨w2.heap.size, 2, none⟩ = some (.slice R3 n3 q3) ∧ W'.cell? ⟨w2.heap.size, 3, none⟩ = some (.slice R4 n4 q4) ∧ W'.cell? ⟨w2.heap.size, 4, none⟩ = some (.slice R5 n5 q5) ∧ W'.cell? ⟨w2.heap.size, 5, none⟩ = some (.slice R6 n6 q6) ∧ W'.cell? ⟨w2.heap.size, 6, none⟩ = some (.slice R7 n7 q7) ∧ W'.cell? ⟨w3.heap.size, 0, none⟩ = some (.slice S1 n1 t1) ∧ W'.cell? ⟨w3.heap.size, 1, none⟩ = some (.slice S2 n2 t2) ∧ W'.cell? ⟨w3.heap.size, 2, none⟩ = some (.slice S3 n3 t3) ∧ W'.cell? ⟨w3.heap.size, 3, none⟩ = some (.slice S4 n4 t4) ∧ W'.cell? ⟨w3.heap.size, 4, none⟩ = some (.slice S5 n5 t5) ∧ W'.cell? ⟨w3.heap.size, 5, none⟩ = some (.slice S6 n6 t6) ∧ W'.cell? ⟨w3.heap.size, 6, none⟩ = some (.slice S7 n7 t7) ∧ (Go.convert 22 9 (.slice A n cap)).run Tryd.prog W' = .ok (.string s) W')
      (first | (with_reducible exact HS.out _ Hcur.out) | (with_reducible exact HS.out _ (Mod.refl _ _)))
      (first
        | (go_at_call 9; (with_reducible refine (caseOf_calls (HCW.out _ Hcur.out) Hs.out.world).mono ?_); rintro e w4 ⟨o1, o2, o3, o4, o5, o6, o7, rfl, hof, hm4⟩; replace Hcur := hidden (Hcur.out.trans hm4); have Hof := hidden hof; clear hof hm4)
        | (go_at_call 8; (with_reducible refine (same_self _ _ _ c _ _ _ _ _ _ _ _ _ _ _ _ _ _ Hof.out (HDW.out _ Hcur.out) Hs.out).mono ?_); rintro e w5 ⟨rfl, hm5⟩; replace Hcur := hidden (Hcur.out.trans hm5); clear hm5)
        | (go_at_call 10; (with_reducible refine (plain_true _ _ c _ _ _ _ _ _ _ (HCW.out _ Hcur.out) Hw.out Hok.out).mono ?_); rintro e w6 ⟨rfl, hm6⟩; replace Hcur := hidden (Hcur.out.trans hm6); clear hm6)
        | (go_at_call 11; (with_reducible refine (refPlain_true _ _ c _ _ _ _ _ _ _ (HDW.out _ Hcur.out) Hs.out Hok.out).mono ?_); rintro e w7 ⟨rfl, hm7⟩; replace Hcur := hidden (Hcur.out.trans hm7); clear hm7))
    rename_i hHeld
    clear hHeld HS
    obtain ⟨c0, c1, c2, c3, c4, c5, c6⟩ := held7 (Hcur.out.heapF Hpc.out)
    go_wp2_with fail
    refine (encode_calls _ _ c _ _ _ _ _ _ _ (HCW.out _ Hcur.out) Hw.out Hok.out).mono ?_
    rintro e w8 ⟨A8, n8, k8, rfl, hn8, hr8, hm8⟩
    replace Hcur := hidden (Hcur.out.trans hm8)
    have Hn8 := hidden hn8
    have Hx : Hid (∀ W, Mod (fun _ => False) w8 W → cBytes.rd W (fun b => b < W.heap.size) [.slice A8 (eCase c).length k8] (eCase c)) := hidden fun W hW => by
      rw [← hn8]; exact (cSl cU8).keep hr8 fun b hb hl => ⟨hW.block b hl (fun q => q), Nat.lt_of_lt_of_le hl hW.size⟩
    clear hn8 hr8 hm8 c0 c1 c2 c3 c4 c5 c6
    have HS : Hid (∀ W', Mod (fun _ => False) W W' → W'.cell? ⟨w2.heap.size, 0, none⟩ = some (.slice R1 n1 q1) ∧ W'.cell? ⟨w2.heap.size, 1, none⟩ = some (.slice R2 n2 q2) ∧ W'.cell? ⟨w2.heap.size, 2, none⟩ = some (.slice R3 n3 q3) ∧ W'.cell? ⟨w2.heap.size, 3, none⟩ = some (.slice R4 n4 q4) ∧ W'.cell? ⟨w2.heap.size, 4, none⟩ = some (.slice R5 n5 q5) ∧ W'.cell? ⟨w2.heap.size, 5, none⟩ = some (.slice R6 n6 q6) ∧ W'.cell? ⟨w2.heap.size, 6, none⟩ = some (.slice R7 n7 q7)) := hidden fun W' h' => by
      have e1 := held7 (h'.heapF Hpc.out)
      exact ⟨e1.1, e1.2.1, e1.2.2.1, e1.2.2.2.1, e1.2.2.2.2.1, e1.2.2.2.2.2.1, e1.2.2.2.2.2.2⟩
    have Hold := Hcur
    replace Hcur : Hid (Mod (fun _ => False) W w8.drew) := hidden Hold.out.drew
    have Hcur8 : Hid (Mod (fun _ => False) w8 w8.drew) := hidden (Mod.refl _ _).drew
    go_wp2_with fail
    go_region_held3 (fun W' => W'.cell? ⟨w2.heap.size, 0, none⟩ = some (.slice R1 n1 q1) ∧ W'.cell? ⟨w2.heap.size, 1, none⟩ = some (.slice R2 n2 q2) ∧ W'.cell? ⟨w2.heap.size, 2, none⟩ = some (.slice R3 n3 q3) ∧ W'.cell? ⟨w2.heap.size, 3, none⟩ = some (.slice R4 n4 q4) ∧ W'.cell? ⟨w2.heap.size, 4, none⟩ = some (.slice R5 n5 q5) ∧ W'.cell? ⟨w2.heap.size, 5, none⟩ = some (.slice R6 n6 q6) ∧ W'.cell? ⟨w2.heap.size, 6, none⟩ = some (.slice R7 n7 q7))
      (first | (with_reducible exact HS.out _ Hcur.out) | (with_reducible exact HS.out _ Hold.out))
      (first
        | (go_at_call 6; (with_reducible refine (decode_calls A8 k8 n8 _ (eCase c) Hn8.out (Hx.out _ Hcur8.out)).mono ?_); rintro e w9 ⟨d1, d2, d3, d4, d5, d6, d7, rfl, hd9, hb9⟩; rw [Hrt.out] at hd9; replace Hcur := hidden (Hcur.out.trans (Mod.below (S := fun _ => False) hb9)); have Hd9 := hidden hd9; clear hd9 hb9)
        | (go_at_call 13; (with_reducible refine (scriptSame_self _ _ _ c _ _ _ _ _ _ _ _ _ _ _ _ _ _ Hd9.out (HCW.out _ Hcur.out) Hs.out).mono ?_); rintro e w10 ⟨rfl, hm10⟩; replace Hcur := hidden (Hcur.out.trans hm10); clear hm10))
    all_goals (go_wp2_with fail)
    go_ret
    exact ⟨rfl, HmW.out.trans Hcur.out⟩
end Go.Proofs.YtpfaognjfbilmaaDoor
