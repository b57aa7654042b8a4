/- The walks of script.many at each type, and of the functions that read one thing: each answers as the plain law's parser says. -/
import Derived.Test.YthgibbekfcenhaaGreatDoorReader
namespace Go.Proofs.YthgibbekfcenhaaGreatDoor
open Go.RowKit

set_option maxHeartbeats 400000 in
theorem readWord_calls : ReadsOne 83 cStr (pText 12) := by
  intro w F g l h
  go_enter Tryz.func83, Tryz.ntmps83
  go_wp2_with fail
  refine (text_calls _ 12 rfl _ F g _ h (by omega) (by omega)).mono ?_
  rintro e w1 ⟨rfl, hs1⟩
  have Hs := hidden hs1
  clear hs1
  go_wp2
  go_ret
  exact ⟨_, rfl, ⟨rfl, text_ok (by decide) _⟩, Hs.out⟩

set_option maxHeartbeats 400000 in
theorem readArg_calls : ReadsOne 52 cStr (pText 20) := by
  intro w F g l h
  go_enter Tryz.func52, Tryz.ntmps52
  go_wp2_with fail
  refine (text_calls _ 20 rfl _ F g _ h (by omega) (by omega)).mono ?_
  rintro e w1 ⟨rfl, hs1⟩
  have Hs := hidden hs1
  clear hs1
  go_wp2
  go_ret
  exact ⟨_, rfl, ⟨rfl, text_ok (by decide) _⟩, Hs.out⟩

set_option maxHeartbeats 400000 in
theorem readPick_calls : ReadsOne 54 cI64 (pNum 256) := by
  intro w F g l h
  go_enter Tryz.func54, Tryz.ntmps54
  go_wp2_with fail
  refine (byte_calls _ 256 rfl _ F g _ h (by omega) (by omega)).mono ?_
  rintro e w1 ⟨rfl, hs1⟩
  have Hs := hidden hs1
  clear hs1
  go_wp2
  go_ret
  exact ⟨_, rfl, ⟨rfl, by have := pNum_range (m := 256) (by decide) l; omega⟩, Hs.out⟩

set_option maxHeartbeats 400000 in
theorem readFile_calls : ReadsOne 42 cFile pFile := by
  refine readsOne_of fun w F g l hF h => ?_
  have hg := h.lt
  have hr2 := pNum_range (m := 256) (by decide) ((pText 200 ((pText 12 l).2)).2)
  have hr20 := hr2.1
  have hr21 : (pNum 256 ((pText 200 ((pText 12 l).2)).2)).1 ≤ 255 := by have := hr2.2; omega
  clear hr2
  go_enter Tryz.func42, Tryz.ntmps42
  go_wp2_with fail
  refine (text_calls _ 12 rfl _ F g _ (h.alloc _) (by omega) (by omega)).mono ?_
  rintro e w1 ⟨rfl, hs1⟩
  go_wp2_with fail
  refine (text_calls _ 200 rfl _ F g _ hs1.rd (by omega) (by omega)).mono ?_
  rintro e w2 ⟨rfl, hs2⟩
  go_wp2_with fail
  refine (byte_calls _ 256 rfl _ F g _ hs2.rd (by omega) (by omega)).mono ?_
  rintro e w3 ⟨rfl, hs3⟩
  have hm := hs1.mod.trans (hs2.mod.trans (hs3.mod))
  have hb := hm.heap (heap_alloc_new w _) (show ¬ w.heap.size = g by omega)
  have c0 := cell_lit hb (j := 0) rfl
  have f0 := free_lit hb 0
  have c1 := cell_lit hb (j := 1) rfl
  have f1 := free_lit hb 1
  have c2 := cell_lit hb (j := 2) rfl
  have f2 := free_lit hb 2
  have Hs := hidden hs3
  have Hm := hidden hm
  clear hs1 hs2 hs3 hm hb
  go_wp2
  refine bodyPost_ret (v := .agg #[.string (pText 12 l).1, .string (pText 200 ((pText 12 l).2)).1, .int .i64 ((pNum 256 ((pText 200 ((pText 12 l).2)).2)).1 + 1)]) (by simp [results, Tryz.results42, go_sem, c0, c1, c2]) rfl
    ⟨_, rfl, cFile_iff.2 ⟨rfl, text_ok (by decide) _, text_ok (by decide) _, by simp only [pFile]; omega, by simp only [pFile]; omega⟩, Step.box hF hg Hs.out.rd Hm.out ?_⟩
  exact (((Mod.refl _ _).set1 _ _).set1 _ _).set1 _ _

set_option maxHeartbeats 400000 in
theorem readOutput_calls : ReadsOne 46 cOut pOut := by
  refine readsOne_of fun w F g l hF h => ?_
  have hg := h.lt
  go_enter Tryz.func46, Tryz.ntmps46
  go_wp2_with fail
  refine (text_calls _ 12 rfl _ F g _ (h.alloc _) (by omega) (by omega)).mono ?_
  rintro e w1 ⟨rfl, hs1⟩
  go_wp2_with fail
  refine (text_calls _ 60 rfl _ F g _ hs1.rd (by omega) (by omega)).mono ?_
  rintro e w2 ⟨rfl, hs2⟩
  have hm := hs1.mod.trans (hs2.mod)
  have hb := hm.heap (heap_alloc_new w _) (show ¬ w.heap.size = g by omega)
  have c0 := cell_lit hb (j := 0) rfl
  have f0 := free_lit hb 0
  have c1 := cell_lit hb (j := 1) rfl
  have f1 := free_lit hb 1
  have Hs := hidden hs2
  have Hm := hidden hm
  clear hs1 hs2 hm hb
  go_wp2
  refine bodyPost_ret (v := .agg #[.string (pText 12 l).1, .string (pText 60 ((pText 12 l).2)).1]) (by simp [results, Tryz.results46, go_sem, c0, c1]) rfl
    ⟨_, rfl, cOut_iff.2 ⟨rfl, text_ok (by decide) _, text_ok (by decide) _⟩, Step.box hF hg Hs.out.rd Hm.out ?_⟩
  exact ((Mod.refl _ _).set1 _ _).set1 _ _

set_option maxHeartbeats 400000 in
theorem readEffect_calls : ReadsOne 85 cEff pEff := by
  refine readsOne_of fun w F g l hF h => ?_
  have hg := h.lt
  have hr0 := pNum_range (m := 3) (by decide) l
  have hr00 := hr0.1
  have hr01 : (pNum 3 l).1 ≤ 2 := by have := hr0.2; omega
  clear hr0
  go_enter Tryz.func85, Tryz.ntmps85
  go_wp2_with fail
  refine (byte_calls _ 3 rfl _ F g _ (h.alloc _) (by omega) (by omega)).mono ?_
  rintro e w1 ⟨rfl, hs1⟩
  go_wp2_with fail
  refine (text_calls _ 12 rfl _ F g _ hs1.rd (by omega) (by omega)).mono ?_
  rintro e w2 ⟨rfl, hs2⟩
  go_wp2_with fail
  refine (text_calls _ 12 rfl _ F g _ hs2.rd (by omega) (by omega)).mono ?_
  rintro e w3 ⟨rfl, hs3⟩
  have hm := hs1.mod.trans (hs2.mod.trans (hs3.mod))
  have hb := hm.heap (heap_alloc_new w _) (show ¬ w.heap.size = g by omega)
  have c0 := cell_lit hb (j := 0) rfl
  have f0 := free_lit hb 0
  have c1 := cell_lit hb (j := 1) rfl
  have f1 := free_lit hb 1
  have c2 := cell_lit hb (j := 2) rfl
  have f2 := free_lit hb 2
  have Hs := hidden hs3
  have Hm := hidden hm
  clear hs1 hs2 hs3 hm hb
  go_wp2
  refine bodyPost_ret (v := .agg #[.int .i64 ((pNum 3 l).1 + 1), .string (pText 12 ((pNum 3 l).2)).1, .string (pText 12 ((pText 12 ((pNum 3 l).2)).2)).1]) (by simp [results, Tryz.results85, go_sem, c0, c1, c2]) rfl
    ⟨_, rfl, cEff_iff.2 ⟨rfl, ⟨by simp only [pEff]; omega, by simp only [pEff]; omega⟩, text_ok (by decide) _, text_ok (by decide) _⟩, Step.box hF hg Hs.out.rd Hm.out ?_⟩
  exact (((Mod.refl _ _).set1 _ _).set1 _ _).set1 _ _

set_option maxHeartbeats 400000 in
theorem readVerdict_calls : ReadsOne 50 cVer pVer := by
  refine readsOne_of fun w F g l hF h => ?_
  have hg := h.lt
  have hr3 := pNum_range (m := 2) (by decide) ((pText 12 ((pText 12 ((pText 6 l).2)).2)).2)
  have hr30 := hr3.1
  have hr31 : (pNum 2 ((pText 12 ((pText 12 ((pText 6 l).2)).2)).2)).1 ≤ 1 := by have := hr3.2; omega
  clear hr3
  go_enter Tryz.func50, Tryz.ntmps50
  go_wp2_with fail
  refine (text_calls _ 6 rfl _ F g _ (h.alloc _) (by omega) (by omega)).mono ?_
  rintro e w1 ⟨rfl, hs1⟩
  go_wp2_with fail
  refine (text_calls _ 12 rfl _ F g _ hs1.rd (by omega) (by omega)).mono ?_
  rintro e w2 ⟨rfl, hs2⟩
  go_wp2_with fail
  refine (text_calls _ 12 rfl _ F g _ hs2.rd (by omega) (by omega)).mono ?_
  rintro e w3 ⟨rfl, hs3⟩
  go_wp2_with fail
  refine (byte_calls _ 2 rfl _ F g _ hs3.rd (by omega) (by omega)).mono ?_
  rintro e w4 ⟨rfl, hs4⟩
  have hm := hs1.mod.trans (hs2.mod.trans (hs3.mod.trans (hs4.mod)))
  have hb := hm.heap (heap_alloc_new w _) (show ¬ w.heap.size = g by omega)
  have c0 := cell_lit hb (j := 0) rfl
  have f0 := free_lit hb 0
  have c1 := cell_lit hb (j := 1) rfl
  have f1 := free_lit hb 1
  have c2 := cell_lit hb (j := 2) rfl
  have f2 := free_lit hb 2
  have c3 := cell_lit hb (j := 3) rfl
  have f3 := free_lit hb 3
  have Hs := hidden hs4
  have Hm := hidden hm
  clear hs1 hs2 hs3 hs4 hm hb
  go_wp2
  refine bodyPost_ret (v := .agg #[.string (pText 6 l).1, .string (pText 12 ((pText 6 l).2)).1, .string (pText 12 ((pText 12 ((pText 6 l).2)).2)).1, .bool ((pNum 2 ((pText 12 ((pText 12 ((pText 6 l).2)).2)).2)).1 == 1)]) (by simp [results, Tryz.results50, go_sem, c0, c1, c2, c3]) rfl
    ⟨_, rfl, cVer_iff.2 ⟨rfl, text_ok (by decide) _, text_ok (by decide) _, text_ok (by decide) _⟩, Step.box hF hg Hs.out.rd Hm.out ?_⟩
  exact ((((Mod.refl _ _).set1 _ _).set1 _ _).set1 _ _).set1 _ _

set_option maxHeartbeats 400000 in
theorem manyFile_calls (m : Int) (M : Nat) (hM : m = (M : Int)) (hm : M ≤ 255) (w : World) (F : Fp) (g : Nat) (l : Bytes) (hF : ∀ b, F b → b < w.heap.size) (h : IsRd w F g l) :
    Calls Tryz.prog 41 #[.pointer (some ⟨g, 0, none⟩), .int .i64 m, .func (.func 42) #[] #[]] w (ManyPost cFile (pMany M pFile) F g l w) := by
  subst hM
  obtain ⟨n, l1, hn⟩ : ∃ n l1, pNum (M + 1) l = (n, l1) := ⟨_, _, rfl⟩
  have hby := byte_calls (M + 1) (M + 1) (by omega) w F g l h (by omega) (by omega)
  have hr := pNum_range (m := M + 1) (by omega) l
  rw [hn] at hby hr
  obtain ⟨N, rfl⟩ := Int.eq_ofNat_of_zero_le hr.1
  have hN : N ≤ 255 := by have := hr.2; simp only at this; omega
  have hg := h.lt
  have Hfin : Hid (pMany M pFile l = pRep pFile N l1) := hidden (by simp only [pMany, hn, Int.toNat_natCast])
  have Hby := hidden hby
  have hT : SlT Tryz.prog 22 107 cFile.size := slT_of (by kernel_rfl)
  clear hr hby hn h
  go_enter Tryz.func41, Tryz.ntmps41
  go_wp2_with fail
  refine Hby.out.mono ?_
  rintro e w1 ⟨rfl, hs1⟩
  have Hs1 := hidden hs1
  clear hs1 Hby
  go_wp2_with fail
  go_loopw [7, 12] (fun out i wr => ∃ k : Nat, k ≤ N ∧ i = .int .i64 k ∧ Own cFile 107 wr w.heap.size (fun b => w.heap.size ≤ b) out (pRep pFile k l1).1 ∧ Step F g (pRep pFile k l1).2 w wr) (fun _ i _ => N - (intOf i).toNat)
  case atStart => exact ⟨0, Nat.zero_le _, rfl, Own.nil _ _ _ _ _, Hs1.out⟩
  case round =>
    obtain ⟨k, hk, rfl, hO, hs⟩ := hrel
    have Hlen := hidden (pRep_length pFile k l1)
    by_cases hlt : k < N
    · have HO := hidden hO
      have Hs := hidden hs
      clear hO hs
      go_wp2_with fail
      refine (readFile_calls _ F g _ Hs.out.rd).mono ?_
      rintro e w2 ⟨v, rfl, hv, hs2⟩
      have hO2 := HO.out.mod hs2.mod (fun k hk => by have := HO.out.blk k hk; omega) (fun b hb hl => by omega)
      have hstep : Step F g (pFile (pRep pFile k l1).2).2 w w2 := ⟨hs2.rd, Hs.out.mod.trans hs2.mod⟩
      have hsz := hs2.mod.size
      have hsz0 := Hs.out.mod.size
      have HF1 : Hid (∀ b, _ ≤ b → b < w2.heap.size → w.heap.size ≤ b ∧ some b ≠ Value.ownBlock _) := hidden fun b hb hl => ⟨Nat.le_trans hsz0 hb, fun q => by have := HO.out.blk b q.symm; omega⟩
      have HO2 := hidden hO2
      have Hv := hidden hv
      have Hstep := hidden hstep
      clear hO2 hv hstep hs2
      go_wp2_with (refine wpList_app1 (c := cFile) (v := u7) hT rfl rfl 18 (.tmp 14) (.tmp 17) rfl rfl rfl rfl Hv.out rfl rfl HO2.out HF1.out (by omega) (by rw [Hlen.out]; omega) ?_; intro v1 w3 hO3 hm3 hat)
      have hblk := HO.out.blk
      have hstep' : Step F g (pFile (pRep pFile k l1).2).2 w w3 :=
        ⟨Hstep.out.rd.mod hm3 (fun q => by have := hblk g q.symm; omega) (fun b hb _ q => by have := hblk b q.symm; have := hF b hb; omega), Hstep.out.mod.trans' hm3 (fun x hx q => by have := hblk x q.symm; omega)⟩
      go_roundw
      case rel => exact ⟨k + 1, hlt, by go_num, by rw [pRep_succ]; exact hO3, by rw [pRep_succ]; exact hstep'⟩
      case measure => simp [intOf]; omega
    · have hkN : k = N := by omega
      subst hkN
      have hfin : ManyPost cFile (pMany M pFile) F g l w (.returned u7) wr := by
        refine ⟨u7, rfl, ?_, ?_⟩
        · rw [Hfin.out]
          exact hO.read (F' := fun b => w.heap.size ≤ b) (fun _ q => q) (fun _ q => q)
        · rw [Hfin.out]; exact hs
      have Hpost := hidden hfin
      clear hO hs hfin
      go_wp2
      go_ret
      exact Hpost.out

set_option maxHeartbeats 400000 in
theorem manyOut_calls (m : Int) (M : Nat) (hM : m = (M : Int)) (hm : M ≤ 255) (w : World) (F : Fp) (g : Nat) (l : Bytes) (hF : ∀ b, F b → b < w.heap.size) (h : IsRd w F g l) :
    Calls Tryz.prog 45 #[.pointer (some ⟨g, 0, none⟩), .int .i64 m, .func (.func 46) #[] #[]] w (ManyPost cOut (pMany M pOut) F g l w) := by
  subst hM
  obtain ⟨n, l1, hn⟩ : ∃ n l1, pNum (M + 1) l = (n, l1) := ⟨_, _, rfl⟩
  have hby := byte_calls (M + 1) (M + 1) (by omega) w F g l h (by omega) (by omega)
  have hr := pNum_range (m := M + 1) (by omega) l
  rw [hn] at hby hr
  obtain ⟨N, rfl⟩ := Int.eq_ofNat_of_zero_le hr.1
  have hN : N ≤ 255 := by have := hr.2; simp only at this; omega
  have hg := h.lt
  have Hfin : Hid (pMany M pOut l = pRep pOut N l1) := hidden (by simp only [pMany, hn, Int.toNat_natCast])
  have Hby := hidden hby
  have hT : SlT Tryz.prog 24 109 cOut.size := slT_of (by kernel_rfl)
  clear hr hby hn h
  go_enter Tryz.func45, Tryz.ntmps45
  go_wp2_with fail
  refine Hby.out.mono ?_
  rintro e w1 ⟨rfl, hs1⟩
  have Hs1 := hidden hs1
  clear hs1 Hby
  go_wp2_with fail
  go_loopw [7, 12] (fun out i wr => ∃ k : Nat, k ≤ N ∧ i = .int .i64 k ∧ Own cOut 109 wr w.heap.size (fun b => w.heap.size ≤ b) out (pRep pOut k l1).1 ∧ Step F g (pRep pOut k l1).2 w wr) (fun _ i _ => N - (intOf i).toNat)
  case atStart => exact ⟨0, Nat.zero_le _, rfl, Own.nil _ _ _ _ _, Hs1.out⟩
  case round =>
    obtain ⟨k, hk, rfl, hO, hs⟩ := hrel
    have Hlen := hidden (pRep_length pOut k l1)
    by_cases hlt : k < N
    · have HO := hidden hO
      have Hs := hidden hs
      clear hO hs
      go_wp2_with fail
      refine (readOutput_calls _ F g _ Hs.out.rd).mono ?_
      rintro e w2 ⟨v, rfl, hv, hs2⟩
      have hO2 := HO.out.mod hs2.mod (fun k hk => by have := HO.out.blk k hk; omega) (fun b hb hl => by omega)
      have hstep : Step F g (pOut (pRep pOut k l1).2).2 w w2 := ⟨hs2.rd, Hs.out.mod.trans hs2.mod⟩
      have hsz := hs2.mod.size
      have hsz0 := Hs.out.mod.size
      have HF1 : Hid (∀ b, _ ≤ b → b < w2.heap.size → w.heap.size ≤ b ∧ some b ≠ Value.ownBlock _) := hidden fun b hb hl => ⟨Nat.le_trans hsz0 hb, fun q => by have := HO.out.blk b q.symm; omega⟩
      have HO2 := hidden hO2
      have Hv := hidden hv
      have Hstep := hidden hstep
      clear hO2 hv hstep hs2
      go_wp2_with (refine wpList_app1 (c := cOut) (v := u7) hT rfl rfl 18 (.tmp 14) (.tmp 17) rfl rfl rfl rfl Hv.out rfl rfl HO2.out HF1.out (by omega) (by rw [Hlen.out]; omega) ?_; intro v1 w3 hO3 hm3 hat)
      have hblk := HO.out.blk
      have hstep' : Step F g (pOut (pRep pOut k l1).2).2 w w3 :=
        ⟨Hstep.out.rd.mod hm3 (fun q => by have := hblk g q.symm; omega) (fun b hb _ q => by have := hblk b q.symm; have := hF b hb; omega), Hstep.out.mod.trans' hm3 (fun x hx q => by have := hblk x q.symm; omega)⟩
      go_roundw
      case rel => exact ⟨k + 1, hlt, by go_num, by rw [pRep_succ]; exact hO3, by rw [pRep_succ]; exact hstep'⟩
      case measure => simp [intOf]; omega
    · have hkN : k = N := by omega
      subst hkN
      have hfin : ManyPost cOut (pMany M pOut) F g l w (.returned u7) wr := by
        refine ⟨u7, rfl, ?_, ?_⟩
        · rw [Hfin.out]
          exact hO.read (F' := fun b => w.heap.size ≤ b) (fun _ q => q) (fun _ q => q)
        · rw [Hfin.out]; exact hs
      have Hpost := hidden hfin
      clear hO hs hfin
      go_wp2
      go_ret
      exact Hpost.out

set_option maxHeartbeats 400000 in
theorem manyEff_calls (m : Int) (M : Nat) (hM : m = (M : Int)) (hm : M ≤ 255) (w : World) (F : Fp) (g : Nat) (l : Bytes) (hF : ∀ b, F b → b < w.heap.size) (h : IsRd w F g l) :
    Calls Tryz.prog 84 #[.pointer (some ⟨g, 0, none⟩), .int .i64 m, .func (.func 85) #[] #[]] w (ManyPost cEff (pMany M pEff) F g l w) := by
  subst hM
  obtain ⟨n, l1, hn⟩ : ∃ n l1, pNum (M + 1) l = (n, l1) := ⟨_, _, rfl⟩
  have hby := byte_calls (M + 1) (M + 1) (by omega) w F g l h (by omega) (by omega)
  have hr := pNum_range (m := M + 1) (by omega) l
  rw [hn] at hby hr
  obtain ⟨N, rfl⟩ := Int.eq_ofNat_of_zero_le hr.1
  have hN : N ≤ 255 := by have := hr.2; simp only at this; omega
  have hg := h.lt
  have Hfin : Hid (pMany M pEff l = pRep pEff N l1) := hidden (by simp only [pMany, hn, Int.toNat_natCast])
  have Hby := hidden hby
  have hT : SlT Tryz.prog 100 104 cEff.size := slT_of (by kernel_rfl)
  clear hr hby hn h
  go_enter Tryz.func84, Tryz.ntmps84
  go_wp2_with fail
  refine Hby.out.mono ?_
  rintro e w1 ⟨rfl, hs1⟩
  have Hs1 := hidden hs1
  clear hs1 Hby
  go_wp2_with fail
  go_loopw [7, 12] (fun out i wr => ∃ k : Nat, k ≤ N ∧ i = .int .i64 k ∧ Own cEff 104 wr w.heap.size (fun b => w.heap.size ≤ b) out (pRep pEff k l1).1 ∧ Step F g (pRep pEff k l1).2 w wr) (fun _ i _ => N - (intOf i).toNat)
  case atStart => exact ⟨0, Nat.zero_le _, rfl, Own.nil _ _ _ _ _, Hs1.out⟩
  case round =>
    obtain ⟨k, hk, rfl, hO, hs⟩ := hrel
    have Hlen := hidden (pRep_length pEff k l1)
    by_cases hlt : k < N
    · have HO := hidden hO
      have Hs := hidden hs
      clear hO hs
      go_wp2_with fail
      refine (readEffect_calls _ F g _ Hs.out.rd).mono ?_
      rintro e w2 ⟨v, rfl, hv, hs2⟩
      have hO2 := HO.out.mod hs2.mod (fun k hk => by have := HO.out.blk k hk; omega) (fun b hb hl => by omega)
      have hstep : Step F g (pEff (pRep pEff k l1).2).2 w w2 := ⟨hs2.rd, Hs.out.mod.trans hs2.mod⟩
      have hsz := hs2.mod.size
      have hsz0 := Hs.out.mod.size
      have HF1 : Hid (∀ b, _ ≤ b → b < w2.heap.size → w.heap.size ≤ b ∧ some b ≠ Value.ownBlock _) := hidden fun b hb hl => ⟨Nat.le_trans hsz0 hb, fun q => by have := HO.out.blk b q.symm; omega⟩
      have HO2 := hidden hO2
      have Hv := hidden hv
      have Hstep := hidden hstep
      clear hO2 hv hstep hs2
      go_wp2_with (refine wpList_app1 (c := cEff) (v := u7) hT rfl rfl 18 (.tmp 14) (.tmp 17) rfl rfl rfl rfl Hv.out rfl rfl HO2.out HF1.out (by omega) (by rw [Hlen.out]; omega) ?_; intro v1 w3 hO3 hm3 hat)
      have hblk := HO.out.blk
      have hstep' : Step F g (pEff (pRep pEff k l1).2).2 w w3 :=
        ⟨Hstep.out.rd.mod hm3 (fun q => by have := hblk g q.symm; omega) (fun b hb _ q => by have := hblk b q.symm; have := hF b hb; omega), Hstep.out.mod.trans' hm3 (fun x hx q => by have := hblk x q.symm; omega)⟩
      go_roundw
      case rel => exact ⟨k + 1, hlt, by go_num, by rw [pRep_succ]; exact hO3, by rw [pRep_succ]; exact hstep'⟩
      case measure => simp [intOf]; omega
    · have hkN : k = N := by omega
      subst hkN
      have hfin : ManyPost cEff (pMany M pEff) F g l w (.returned u7) wr := by
        refine ⟨u7, rfl, ?_, ?_⟩
        · rw [Hfin.out]
          exact hO.read (F' := fun b => w.heap.size ≤ b) (fun _ q => q) (fun _ q => q)
        · rw [Hfin.out]; exact hs
      have Hpost := hidden hfin
      clear hO hs hfin
      go_wp2
      go_ret
      exact Hpost.out

set_option maxHeartbeats 400000 in
theorem manyVer_calls (m : Int) (M : Nat) (hM : m = (M : Int)) (hm : M ≤ 255) (w : World) (F : Fp) (g : Nat) (l : Bytes) (hF : ∀ b, F b → b < w.heap.size) (h : IsRd w F g l) :
    Calls Tryz.prog 49 #[.pointer (some ⟨g, 0, none⟩), .int .i64 m, .func (.func 50) #[] #[]] w (ManyPost cVer (pMany M pVer) F g l w) := by
  subst hM
  obtain ⟨n, l1, hn⟩ : ∃ n l1, pNum (M + 1) l = (n, l1) := ⟨_, _, rfl⟩
  have hby := byte_calls (M + 1) (M + 1) (by omega) w F g l h (by omega) (by omega)
  have hr := pNum_range (m := M + 1) (by omega) l
  rw [hn] at hby hr
  obtain ⟨N, rfl⟩ := Int.eq_ofNat_of_zero_le hr.1
  have hN : N ≤ 255 := by have := hr.2; simp only at this; omega
  have hg := h.lt
  have Hfin : Hid (pMany M pVer l = pRep pVer N l1) := hidden (by simp only [pMany, hn, Int.toNat_natCast])
  have Hby := hidden hby
  have hT : SlT Tryz.prog 26 111 cVer.size := slT_of (by kernel_rfl)
  clear hr hby hn h
  go_enter Tryz.func49, Tryz.ntmps49
  go_wp2_with fail
  refine Hby.out.mono ?_
  rintro e w1 ⟨rfl, hs1⟩
  have Hs1 := hidden hs1
  clear hs1 Hby
  go_wp2_with fail
  go_loopw [7, 12] (fun out i wr => ∃ k : Nat, k ≤ N ∧ i = .int .i64 k ∧ Own cVer 111 wr w.heap.size (fun b => w.heap.size ≤ b) out (pRep pVer k l1).1 ∧ Step F g (pRep pVer k l1).2 w wr) (fun _ i _ => N - (intOf i).toNat)
  case atStart => exact ⟨0, Nat.zero_le _, rfl, Own.nil _ _ _ _ _, Hs1.out⟩
  case round =>
    obtain ⟨k, hk, rfl, hO, hs⟩ := hrel
    have Hlen := hidden (pRep_length pVer k l1)
    by_cases hlt : k < N
    · have HO := hidden hO
      have Hs := hidden hs
      clear hO hs
      go_wp2_with fail
      refine (readVerdict_calls _ F g _ Hs.out.rd).mono ?_
      rintro e w2 ⟨v, rfl, hv, hs2⟩
      have hO2 := HO.out.mod hs2.mod (fun k hk => by have := HO.out.blk k hk; omega) (fun b hb hl => by omega)
      have hstep : Step F g (pVer (pRep pVer k l1).2).2 w w2 := ⟨hs2.rd, Hs.out.mod.trans hs2.mod⟩
      have hsz := hs2.mod.size
      have hsz0 := Hs.out.mod.size
      have HF1 : Hid (∀ b, _ ≤ b → b < w2.heap.size → w.heap.size ≤ b ∧ some b ≠ Value.ownBlock _) := hidden fun b hb hl => ⟨Nat.le_trans hsz0 hb, fun q => by have := HO.out.blk b q.symm; omega⟩
      have HO2 := hidden hO2
      have Hv := hidden hv
      have Hstep := hidden hstep
      clear hO2 hv hstep hs2
      go_wp2_with (refine wpList_app1 (c := cVer) (v := u7) hT rfl rfl 18 (.tmp 14) (.tmp 17) rfl rfl rfl rfl Hv.out rfl rfl HO2.out HF1.out (by omega) (by rw [Hlen.out]; omega) ?_; intro v1 w3 hO3 hm3 hat)
      have hblk := HO.out.blk
      have hstep' : Step F g (pVer (pRep pVer k l1).2).2 w w3 :=
        ⟨Hstep.out.rd.mod hm3 (fun q => by have := hblk g q.symm; omega) (fun b hb _ q => by have := hblk b q.symm; have := hF b hb; omega), Hstep.out.mod.trans' hm3 (fun x hx q => by have := hblk x q.symm; omega)⟩
      go_roundw
      case rel => exact ⟨k + 1, hlt, by go_num, by rw [pRep_succ]; exact hO3, by rw [pRep_succ]; exact hstep'⟩
      case measure => simp [intOf]; omega
    · have hkN : k = N := by omega
      subst hkN
      have hfin : ManyPost cVer (pMany M pVer) F g l w (.returned u7) wr := by
        refine ⟨u7, rfl, ?_, ?_⟩
        · rw [Hfin.out]
          exact hO.read (F' := fun b => w.heap.size ≤ b) (fun _ q => q) (fun _ q => q)
        · rw [Hfin.out]; exact hs
      have Hpost := hidden hfin
      clear hO hs hfin
      go_wp2
      go_ret
      exact Hpost.out

set_option maxHeartbeats 400000 in
theorem manyPick_calls (m : Int) (M : Nat) (hM : m = (M : Int)) (hm : M ≤ 255) (w : World) (F : Fp) (g : Nat) (l : Bytes) (hF : ∀ b, F b → b < w.heap.size) (h : IsRd w F g l) :
    Calls Tryz.prog 53 #[.pointer (some ⟨g, 0, none⟩), .int .i64 m, .func (.func 54) #[] #[]] w (ManyPost cI64 (pMany M (pNum 256)) F g l w) := by
  subst hM
  obtain ⟨n, l1, hn⟩ : ∃ n l1, pNum (M + 1) l = (n, l1) := ⟨_, _, rfl⟩
  have hby := byte_calls (M + 1) (M + 1) (by omega) w F g l h (by omega) (by omega)
  have hr := pNum_range (m := M + 1) (by omega) l
  rw [hn] at hby hr
  obtain ⟨N, rfl⟩ := Int.eq_ofNat_of_zero_le hr.1
  have hN : N ≤ 255 := by have := hr.2; simp only at this; omega
  have hg := h.lt
  have Hfin : Hid (pMany M (pNum 256) l = pRep (pNum 256) N l1) := hidden (by simp only [pMany, hn, Int.toNat_natCast])
  have Hby := hidden hby
  have hT : SlT Tryz.prog 30 3 cI64.size := slT_of (by kernel_rfl)
  clear hr hby hn h
  go_enter Tryz.func53, Tryz.ntmps53
  go_wp2_with fail
  refine Hby.out.mono ?_
  rintro e w1 ⟨rfl, hs1⟩
  have Hs1 := hidden hs1
  clear hs1 Hby
  go_wp2_with fail
  go_loopw [7, 12] (fun out i wr => ∃ k : Nat, k ≤ N ∧ i = .int .i64 k ∧ Own cI64 3 wr w.heap.size (fun b => w.heap.size ≤ b) out (pRep (pNum 256) k l1).1 ∧ Step F g (pRep (pNum 256) k l1).2 w wr) (fun _ i _ => N - (intOf i).toNat)
  case atStart => exact ⟨0, Nat.zero_le _, rfl, Own.nil _ _ _ _ _, Hs1.out⟩
  case round =>
    obtain ⟨k, hk, rfl, hO, hs⟩ := hrel
    have Hlen := hidden (pRep_length (pNum 256) k l1)
    by_cases hlt : k < N
    · have HO := hidden hO
      have Hs := hidden hs
      clear hO hs
      go_wp2_with fail
      refine (readPick_calls _ F g _ Hs.out.rd).mono ?_
      rintro e w2 ⟨v, rfl, hv, hs2⟩
      have hO2 := HO.out.mod hs2.mod (fun k hk => by have := HO.out.blk k hk; omega) (fun b hb hl => by omega)
      have hstep : Step F g ((pNum 256) (pRep (pNum 256) k l1).2).2 w w2 := ⟨hs2.rd, Hs.out.mod.trans hs2.mod⟩
      have hsz := hs2.mod.size
      have hsz0 := Hs.out.mod.size
      have HF1 : Hid (∀ b, _ ≤ b → b < w2.heap.size → w.heap.size ≤ b ∧ some b ≠ Value.ownBlock _) := hidden fun b hb hl => ⟨Nat.le_trans hsz0 hb, fun q => by have := HO.out.blk b q.symm; omega⟩
      have HO2 := hidden hO2
      have Hv := hidden hv
      have Hstep := hidden hstep
      clear hO2 hv hstep hs2
      go_wp2_with (refine wpList_app1 (c := cI64) (v := u7) hT rfl rfl 18 (.tmp 14) (.tmp 17) rfl rfl rfl rfl Hv.out rfl rfl HO2.out HF1.out (by omega) (by rw [Hlen.out]; omega) ?_; intro v1 w3 hO3 hm3 hat)
      have hblk := HO.out.blk
      have hstep' : Step F g ((pNum 256) (pRep (pNum 256) k l1).2).2 w w3 :=
        ⟨Hstep.out.rd.mod hm3 (fun q => by have := hblk g q.symm; omega) (fun b hb _ q => by have := hblk b q.symm; have := hF b hb; omega), Hstep.out.mod.trans' hm3 (fun x hx q => by have := hblk x q.symm; omega)⟩
      go_roundw
      case rel => exact ⟨k + 1, hlt, by go_num, by rw [pRep_succ]; exact hO3, by rw [pRep_succ]; exact hstep'⟩
      case measure => simp [intOf]; omega
    · have hkN : k = N := by omega
      subst hkN
      have hfin : ManyPost cI64 (pMany M (pNum 256)) F g l w (.returned u7) wr := by
        refine ⟨u7, rfl, ?_, ?_⟩
        · rw [Hfin.out]
          exact hO.read (F' := fun b => w.heap.size ≤ b) (fun _ q => q) (fun _ q => q)
        · rw [Hfin.out]; exact hs
      have Hpost := hidden hfin
      clear hO hs hfin
      go_wp2
      go_ret
      exact Hpost.out

set_option maxHeartbeats 400000 in
theorem manyWord_calls (m : Int) (M : Nat) (hM : m = (M : Int)) (hm : M ≤ 255) (w : World) (F : Fp) (g : Nat) (l : Bytes) (hF : ∀ b, F b → b < w.heap.size) (h : IsRd w F g l) :
    Calls Tryz.prog 51 #[.pointer (some ⟨g, 0, none⟩), .int .i64 m, .func (.func 83) #[] #[]] w (ManyPost cStr (pMany M (pText 12)) F g l w) := by
  subst hM
  obtain ⟨n, l1, hn⟩ : ∃ n l1, pNum (M + 1) l = (n, l1) := ⟨_, _, rfl⟩
  have hby := byte_calls (M + 1) (M + 1) (by omega) w F g l h (by omega) (by omega)
  have hr := pNum_range (m := M + 1) (by omega) l
  rw [hn] at hby hr
  obtain ⟨N, rfl⟩ := Int.eq_ofNat_of_zero_le hr.1
  have hN : N ≤ 255 := by have := hr.2; simp only at this; omega
  have hg := h.lt
  have Hfin : Hid (pMany M (pText 12) l = pRep (pText 12) N l1) := hidden (by simp only [pMany, hn, Int.toNat_natCast])
  have Hby := hidden hby
  have hT : SlT Tryz.prog 29 9 cStr.size := slT_of (by kernel_rfl)
  clear hr hby hn h
  go_enter Tryz.func51, Tryz.ntmps51
  go_wp2_with fail
  refine Hby.out.mono ?_
  rintro e w1 ⟨rfl, hs1⟩
  have Hs1 := hidden hs1
  clear hs1 Hby
  go_wp2_with fail
  go_loopw [7, 12] (fun out i wr => ∃ k : Nat, k ≤ N ∧ i = .int .i64 k ∧ Own cStr 9 wr w.heap.size (fun b => w.heap.size ≤ b) out (pRep (pText 12) k l1).1 ∧ Step F g (pRep (pText 12) k l1).2 w wr) (fun _ i _ => N - (intOf i).toNat)
  case atStart => exact ⟨0, Nat.zero_le _, rfl, Own.nil _ _ _ _ _, Hs1.out⟩
  case round =>
    obtain ⟨k, hk, rfl, hO, hs⟩ := hrel
    have Hlen := hidden (pRep_length (pText 12) k l1)
    by_cases hlt : k < N
    · have HO := hidden hO
      have Hs := hidden hs
      clear hO hs
      go_wp2_with fail
      refine (readWord_calls _ F g _ Hs.out.rd).mono ?_
      rintro e w2 ⟨v, rfl, hv, hs2⟩
      have hO2 := HO.out.mod hs2.mod (fun k hk => by have := HO.out.blk k hk; omega) (fun b hb hl => by omega)
      have hstep : Step F g ((pText 12) (pRep (pText 12) k l1).2).2 w w2 := ⟨hs2.rd, Hs.out.mod.trans hs2.mod⟩
      have hsz := hs2.mod.size
      have hsz0 := Hs.out.mod.size
      have HF1 : Hid (∀ b, _ ≤ b → b < w2.heap.size → w.heap.size ≤ b ∧ some b ≠ Value.ownBlock _) := hidden fun b hb hl => ⟨Nat.le_trans hsz0 hb, fun q => by have := HO.out.blk b q.symm; omega⟩
      have HO2 := hidden hO2
      have Hv := hidden hv
      have Hstep := hidden hstep
      clear hO2 hv hstep hs2
      go_wp2_with (refine wpList_app1 (c := cStr) (v := u7) hT rfl rfl 18 (.tmp 14) (.tmp 17) rfl rfl rfl rfl Hv.out rfl rfl HO2.out HF1.out (by omega) (by rw [Hlen.out]; omega) ?_; intro v1 w3 hO3 hm3 hat)
      have hblk := HO.out.blk
      have hstep' : Step F g ((pText 12) (pRep (pText 12) k l1).2).2 w w3 :=
        ⟨Hstep.out.rd.mod hm3 (fun q => by have := hblk g q.symm; omega) (fun b hb _ q => by have := hblk b q.symm; have := hF b hb; omega), Hstep.out.mod.trans' hm3 (fun x hx q => by have := hblk x q.symm; omega)⟩
      go_roundw
      case rel => exact ⟨k + 1, hlt, by go_num, by rw [pRep_succ]; exact hO3, by rw [pRep_succ]; exact hstep'⟩
      case measure => simp [intOf]; omega
    · have hkN : k = N := by omega
      subst hkN
      have hfin : ManyPost cStr (pMany M (pText 12)) F g l w (.returned u7) wr := by
        refine ⟨u7, rfl, ?_, ?_⟩
        · rw [Hfin.out]
          exact hO.read (F' := fun b => w.heap.size ≤ b) (fun _ q => q) (fun _ q => q)
        · rw [Hfin.out]; exact hs
      have Hpost := hidden hfin
      clear hO hs hfin
      go_wp2
      go_ret
      exact Hpost.out

set_option maxHeartbeats 400000 in
theorem manyArg_calls (m : Int) (M : Nat) (hM : m = (M : Int)) (hm : M ≤ 255) (w : World) (F : Fp) (g : Nat) (l : Bytes) (hF : ∀ b, F b → b < w.heap.size) (h : IsRd w F g l) :
    Calls Tryz.prog 51 #[.pointer (some ⟨g, 0, none⟩), .int .i64 m, .func (.func 52) #[] #[]] w (ManyPost cStr (pMany M (pText 20)) F g l w) := by
  subst hM
  obtain ⟨n, l1, hn⟩ : ∃ n l1, pNum (M + 1) l = (n, l1) := ⟨_, _, rfl⟩
  have hby := byte_calls (M + 1) (M + 1) (by omega) w F g l h (by omega) (by omega)
  have hr := pNum_range (m := M + 1) (by omega) l
  rw [hn] at hby hr
  obtain ⟨N, rfl⟩ := Int.eq_ofNat_of_zero_le hr.1
  have hN : N ≤ 255 := by have := hr.2; simp only at this; omega
  have hg := h.lt
  have Hfin : Hid (pMany M (pText 20) l = pRep (pText 20) N l1) := hidden (by simp only [pMany, hn, Int.toNat_natCast])
  have Hby := hidden hby
  have hT : SlT Tryz.prog 29 9 cStr.size := slT_of (by kernel_rfl)
  clear hr hby hn h
  go_enter Tryz.func51, Tryz.ntmps51
  go_wp2_with fail
  refine Hby.out.mono ?_
  rintro e w1 ⟨rfl, hs1⟩
  have Hs1 := hidden hs1
  clear hs1 Hby
  go_wp2_with fail
  go_loopw [7, 12] (fun out i wr => ∃ k : Nat, k ≤ N ∧ i = .int .i64 k ∧ Own cStr 9 wr w.heap.size (fun b => w.heap.size ≤ b) out (pRep (pText 20) k l1).1 ∧ Step F g (pRep (pText 20) k l1).2 w wr) (fun _ i _ => N - (intOf i).toNat)
  case atStart => exact ⟨0, Nat.zero_le _, rfl, Own.nil _ _ _ _ _, Hs1.out⟩
  case round =>
    obtain ⟨k, hk, rfl, hO, hs⟩ := hrel
    have Hlen := hidden (pRep_length (pText 20) k l1)
    by_cases hlt : k < N
    · have HO := hidden hO
      have Hs := hidden hs
      clear hO hs
      go_wp2_with fail
      refine (readArg_calls _ F g _ Hs.out.rd).mono ?_
      rintro e w2 ⟨v, rfl, hv, hs2⟩
      have hO2 := HO.out.mod hs2.mod (fun k hk => by have := HO.out.blk k hk; omega) (fun b hb hl => by omega)
      have hstep : Step F g ((pText 20) (pRep (pText 20) k l1).2).2 w w2 := ⟨hs2.rd, Hs.out.mod.trans hs2.mod⟩
      have hsz := hs2.mod.size
      have hsz0 := Hs.out.mod.size
      have HF1 : Hid (∀ b, _ ≤ b → b < w2.heap.size → w.heap.size ≤ b ∧ some b ≠ Value.ownBlock _) := hidden fun b hb hl => ⟨Nat.le_trans hsz0 hb, fun q => by have := HO.out.blk b q.symm; omega⟩
      have HO2 := hidden hO2
      have Hv := hidden hv
      have Hstep := hidden hstep
      clear hO2 hv hstep hs2
      go_wp2_with (refine wpList_app1 (c := cStr) (v := u7) hT rfl rfl 18 (.tmp 14) (.tmp 17) rfl rfl rfl rfl Hv.out rfl rfl HO2.out HF1.out (by omega) (by rw [Hlen.out]; omega) ?_; intro v1 w3 hO3 hm3 hat)
      have hblk := HO.out.blk
      have hstep' : Step F g ((pText 20) (pRep (pText 20) k l1).2).2 w w3 :=
        ⟨Hstep.out.rd.mod hm3 (fun q => by have := hblk g q.symm; omega) (fun b hb _ q => by have := hblk b q.symm; have := hF b hb; omega), Hstep.out.mod.trans' hm3 (fun x hx q => by have := hblk x q.symm; omega)⟩
      go_roundw
      case rel => exact ⟨k + 1, hlt, by go_num, by rw [pRep_succ]; exact hO3, by rw [pRep_succ]; exact hstep'⟩
      case measure => simp [intOf]; omega
    · have hkN : k = N := by omega
      subst hkN
      have hfin : ManyPost cStr (pMany M (pText 20)) F g l w (.returned u7) wr := by
        refine ⟨u7, rfl, ?_, ?_⟩
        · rw [Hfin.out]
          exact hO.read (F' := fun b => w.heap.size ≤ b) (fun _ q => q) (fun _ q => q)
        · rw [Hfin.out]; exact hs
      have Hpost := hidden hfin
      clear hO hs hfin
      go_wp2
      go_ret
      exact Hpost.out
end Go.Proofs.YthgibbekfcenhaaGreatDoor
