/- The walks of script.many at variables and outcomes. -/
import Derived.Test.YthgibbekfcenhaaGreatDoorReadVar
namespace Go.Proofs.YthgibbekfcenhaaGreatDoor
open Go.RowKit

set_option maxHeartbeats 400000 in
theorem manyVar_calls (m : Int) (M : Nat) (hM : m = (M : Int)) (hm : M ≤ 255) (w : World) (F : Fp) (g : Nat) (l : Bytes) (hF : ∀ b, F b → b < w.heap.size) (h : IsRd w F g l) :
    Calls Tryz.prog 43 #[.pointer (some ⟨g, 0, none⟩), .int .i64 m, .func (.func 44) #[] #[]] w (ManyPost cVar (pMany M pVar) F g l w) := by
  subst hM
  obtain ⟨n, l1, hn⟩ : ∃ n l1, pNum (M + 1) l = (n, l1) := ⟨_, _, rfl⟩
  have hby := byte_calls (M + 1) (M + 1) (by omega) w F g l h (by omega) (by omega)
  have hr := pNum_range (m := M + 1) (by omega) l
  rw [hn] at hby hr
  obtain ⟨N, rfl⟩ := Int.eq_ofNat_of_zero_le hr.1
  have hN : N ≤ 255 := by have := hr.2; simp only at this; omega
  have hg := h.lt
  have Hfin : Hid (pMany M pVar l = pRep pVar N l1) := hidden (by simp only [pMany, hn, Int.toNat_natCast])
  have Hby := hidden hby
  have hT : SlT Tryz.prog 23 98 cVar.size := slT_of (by kernel_rfl)
  clear hr hby hn h
  go_enter Tryz.func43, Tryz.ntmps43
  go_wp2_with fail
  refine Hby.out.mono ?_
  rintro e w1 ⟨rfl, hs1⟩
  have Hs1 := hidden hs1
  clear hs1 Hby
  go_wp2_with fail
  go_loopw [7, 12] (fun out i wr => ∃ k : Nat, k ≤ N ∧ i = .int .i64 k ∧ Own cVar 98 wr w.heap.size (fun b => w.heap.size ≤ b) out (pRep pVar k l1).1 ∧ Step F g (pRep pVar k l1).2 w wr) (fun _ i _ => N - (intOf i).toNat)
  case atStart => exact ⟨0, Nat.zero_le _, rfl, Own.nil _ _ _ _ _, Hs1.out⟩
  case round =>
    obtain ⟨k, hk, rfl, hO, hs⟩ := hrel
    have Hlen := hidden (pRep_length pVar k l1)
    by_cases hlt : k < N
    · have HO := hidden hO
      have Hs := hidden hs
      clear hO hs
      go_wp2_with fail
      refine (readVar_calls _ F g _ Hs.out.rd).mono ?_
      rintro e w2 ⟨v, rfl, hv, hs2⟩
      have hO2 := HO.out.mod hs2.mod (fun k hk => by have := HO.out.blk k hk; omega) (fun b hb hl => by omega)
      have hstep : Step F g (pVar (pRep pVar k l1).2).2 w w2 := ⟨hs2.rd, Hs.out.mod.trans hs2.mod⟩
      have hsz := hs2.mod.size
      have hsz0 := Hs.out.mod.size
      have HF1 : Hid (∀ b, _ ≤ b → b < w2.heap.size → w.heap.size ≤ b ∧ some b ≠ Value.ownBlock _) := hidden fun b hb hl => ⟨Nat.le_trans hsz0 hb, fun q => by have := HO.out.blk b q.symm; omega⟩
      have HO2 := hidden hO2
      have Hv := hidden hv
      have Hstep := hidden hstep
      clear hO2 hv hstep hs2
      go_wp2_with (refine wpList_app1 (c := cVar) (v := u7) hT rfl rfl 18 (.tmp 14) (.tmp 17) rfl rfl rfl rfl Hv.out rfl rfl HO2.out HF1.out (by omega) (by rw [Hlen.out]; omega) ?_; intro v1 w3 hO3 hm3 hat)
      have hblk := HO.out.blk
      have hstep' : Step F g (pVar (pRep pVar k l1).2).2 w w3 :=
        ⟨Hstep.out.rd.mod hm3 (fun q => by have := hblk g q.symm; omega) (fun b hb _ q => by have := hblk b q.symm; have := hF b hb; omega), Hstep.out.mod.trans' hm3 (fun x hx q => by have := hblk x q.symm; omega)⟩
      go_roundw
      case rel => exact ⟨k + 1, hlt, by go_num, by rw [pRep_succ]; exact hO3, by rw [pRep_succ]; exact hstep'⟩
      case measure => simp [intOf]; omega
    · have hkN : k = N := by omega
      subst hkN
      have hfin : ManyPost cVar (pMany M pVar) F g l w (.returned u7) wr := by
        refine ⟨u7, rfl, ?_, ?_⟩
        · rw [Hfin.out]
          exact hO.read (F' := fun b => w.heap.size ≤ b) (fun _ q => q) (fun _ q => q)
        · rw [Hfin.out]; exact hs
      have Hpost := hidden hfin
      clear hO hs hfin
      go_wp2
      go_ret
      exact Hpost.out

set_option maxHeartbeats 400000 in
theorem manyOutc_calls (m : Int) (M : Nat) (hM : m = (M : Int)) (hm : M ≤ 255) (w : World) (F : Fp) (g : Nat) (l : Bytes) (hF : ∀ b, F b → b < w.heap.size) (h : IsRd w F g l) :
    Calls Tryz.prog 47 #[.pointer (some ⟨g, 0, none⟩), .int .i64 m, .func (.func 48) #[] #[]] w (ManyPost cOutc (pMany M pOutc) F g l w) := by
  subst hM
  obtain ⟨n, l1, hn⟩ : ∃ n l1, pNum (M + 1) l = (n, l1) := ⟨_, _, rfl⟩
  have hby := byte_calls (M + 1) (M + 1) (by omega) w F g l h (by omega) (by omega)
  have hr := pNum_range (m := M + 1) (by omega) l
  rw [hn] at hby hr
  obtain ⟨N, rfl⟩ := Int.eq_ofNat_of_zero_le hr.1
  have hN : N ≤ 255 := by have := hr.2; simp only at this; omega
  have hg := h.lt
  have Hfin : Hid (pMany M pOutc l = pRep pOutc N l1) := hidden (by simp only [pMany, hn, Int.toNat_natCast])
  have Hby := hidden hby
  have hT : SlT Tryz.prog 25 102 cOutc.size := slT_of (by kernel_rfl)
  clear hr hby hn h
  go_enter Tryz.func47, Tryz.ntmps47
  go_wp2_with fail
  refine Hby.out.mono ?_
  rintro e w1 ⟨rfl, hs1⟩
  have Hs1 := hidden hs1
  clear hs1 Hby
  go_wp2_with fail
  go_loopw [7, 12] (fun out i wr => ∃ k : Nat, k ≤ N ∧ i = .int .i64 k ∧ Own cOutc 102 wr w.heap.size (fun b => w.heap.size ≤ b) out (pRep pOutc k l1).1 ∧ Step F g (pRep pOutc k l1).2 w wr) (fun _ i _ => N - (intOf i).toNat)
  case atStart => exact ⟨0, Nat.zero_le _, rfl, Own.nil _ _ _ _ _, Hs1.out⟩
  case round =>
    obtain ⟨k, hk, rfl, hO, hs⟩ := hrel
    have Hlen := hidden (pRep_length pOutc k l1)
    by_cases hlt : k < N
    · have HO := hidden hO
      have Hs := hidden hs
      clear hO hs
      go_wp2_with fail
      refine (readOutcome_calls _ F g _ Hs.out.rd).mono ?_
      rintro e w2 ⟨v, rfl, hv, hs2⟩
      have hO2 := HO.out.mod hs2.mod (fun k hk => by have := HO.out.blk k hk; omega) (fun b hb hl => by omega)
      have hstep : Step F g (pOutc (pRep pOutc k l1).2).2 w w2 := ⟨hs2.rd, Hs.out.mod.trans hs2.mod⟩
      have hsz := hs2.mod.size
      have hsz0 := Hs.out.mod.size
      have HF1 : Hid (∀ b, _ ≤ b → b < w2.heap.size → w.heap.size ≤ b ∧ some b ≠ Value.ownBlock _) := hidden fun b hb hl => ⟨Nat.le_trans hsz0 hb, fun q => by have := HO.out.blk b q.symm; omega⟩
      have HO2 := hidden hO2
      have Hv := hidden hv
      have Hstep := hidden hstep
      clear hO2 hv hstep hs2
      go_wp2_with (refine wpList_app1 (c := cOutc) (v := u7) hT rfl rfl 18 (.tmp 14) (.tmp 17) rfl rfl rfl rfl Hv.out rfl rfl HO2.out HF1.out (by omega) (by rw [Hlen.out]; omega) ?_; intro v1 w3 hO3 hm3 hat)
      have hblk := HO.out.blk
      have hstep' : Step F g (pOutc (pRep pOutc k l1).2).2 w w3 :=
        ⟨Hstep.out.rd.mod hm3 (fun q => by have := hblk g q.symm; omega) (fun b hb _ q => by have := hblk b q.symm; have := hF b hb; omega), Hstep.out.mod.trans' hm3 (fun x hx q => by have := hblk x q.symm; omega)⟩
      go_roundw
      case rel => exact ⟨k + 1, hlt, by go_num, by rw [pRep_succ]; exact hO3, by rw [pRep_succ]; exact hstep'⟩
      case measure => simp [intOf]; omega
    · have hkN : k = N := by omega
      subst hkN
      have hfin : ManyPost cOutc (pMany M pOutc) F g l w (.returned u7) wr := by
        refine ⟨u7, rfl, ?_, ?_⟩
        · rw [Hfin.out]
          exact hO.read (F' := fun b => w.heap.size ≤ b) (fun _ q => q) (fun _ q => q)
        · rw [Hfin.out]; exact hs
      have Hpost := hidden hfin
      clear hO hs hfin
      go_wp2
      go_ret
      exact Hpost.out
end Go.Proofs.YthgibbekfcenhaaGreatDoor
