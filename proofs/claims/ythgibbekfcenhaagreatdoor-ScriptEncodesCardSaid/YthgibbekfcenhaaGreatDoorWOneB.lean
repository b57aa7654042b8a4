/- The walks of writeFile, writeEffect, writeVerdict. -/
import Derived.Test.YthgibbekfcenhaaGreatDoorWByte
namespace Go.Proofs.YthgibbekfcenhaaGreatDoor
open Go.RowKit

/-- What was written, and whether it was refused. -/
structure WrRel (l : Bytes) (bad : Bool) (l' : Bytes) (bad' : Bool) (ok : Bool) (e : Bytes) (wt : Nat) : Prop where
  bad : bad' = (bad || !ok)
  eq : bad' = false → l' = l ++ e
  len : l'.length ≤ l.length + wt
theorem WrRel.seq {l l2 l3 : Bytes} {b b2 b3 k1 k2 : Bool} {e1 e2 : Bytes} {w1 w2 : Nat} (h : WrRel l b l2 b2 k1 e1 w1) (k : WrRel l2 b2 l3 b3 k2 e2 w2) : WrRel l b l3 b3 (k1 && k2) (e1 ++ e2) (w1 + w2) := by
  refine ⟨?_, fun q => ?_, by have := h.len; have := k.len; omega⟩
  · rw [k.bad, h.bad]; cases b <;> cases k1 <;> cases k2 <;> rfl
  · have hb := k.bad
    rw [q] at hb
    have hb2 : b2 = false := by cases b2 with | false => rfl | true => cases hb
    rw [k.eq q, h.eq hb2, List.append_assoc]
theorem WrRel.setBad (l : Bytes) (bad B : Bool) : WrRel l bad l (bad || B) (!B) [] 0 := ⟨by rw [Bool.not_not], fun _ => by rw [List.append_nil], Nat.le_refl _⟩
theorem WrRel.of {l l' : Bytes} {b b' k1 k2 : Bool} {e1 e2 : Bytes} {w1 w2 : Nat} (h : WrRel l b l' b' k1 e1 w1) (hk : k1 = k2) (he : k1 = true → e1 = e2) (hw : w1 ≤ w2) : WrRel l b l' b' k2 e2 w2 :=
  ⟨by rw [h.bad, hk], fun q => by
    have hb := h.bad
    rw [q] at hb
    rw [h.eq q, he (by cases k1 with | true => rfl | false => (cases b <;> cases hb))], by have := h.len; omega⟩
theorem WrRel.ofPost {ok : Bool} {e : Bytes} {wt : Nat} {g : Nat} {v : Value} {l : Bytes} {bad : Bool} {w w' : World} {en : Ending} (h : WrPost ok e wt g v l bad w en w') :
    en = .returned (.tuple #[]) ∧ ∃ A n k l' bad', IsWr w' g (.slice A n k) l' bad' ∧ WrStep g v (.slice A n k) w w' ∧ WrRel l bad l' bad' ok e wt := by
  obtain ⟨h1, v', l', bad', hw, hs, hb, he, hl⟩ := h
  obtain ⟨A, n, k, rfl⟩ := hw.own.shape'
  exact ⟨h1, A, n, k, l', bad', hw, hs, hb, he, hl⟩
theorem WrRel.post {ok : Bool} {e : Bytes} {wt : Nat} {g : Nat} {v v' : Value} {l l' : Bytes} {bad bad' : Bool} {w w' : World} (hw : IsWr w' g v' l' bad') (hs : WrStep g v v' w w') (h : WrRel l bad l' bad' ok e wt) : WrPost ok e wt g v l bad w (.returned (.tuple #[])) w' :=
  ⟨rfl, v', l', bad', hw, hs, h.bad, h.eq, h.len⟩

set_option maxHeartbeats 2000000 in
theorem writeVerdictTrue_calls (x1 : ByteArray) (x2 : ByteArray) (x3 : ByteArray) (hx1 : x1.size ≤ 4294967296) (hx2 : x2.size ≤ 4294967296) (hx3 : x3.size ≤ 4294967296)  (w : World) (g : Nat) (v : Value) (l : Bytes) (bad : Bool) (h : IsWr w g v l bad) (hl : l.length + ((1 + x1.size) + (1 + x2.size) + (1 + x3.size) + 1) ≤ 4294967296) :
    Calls Tryz.prog 73 #[.pointer (some ⟨g, 0, none⟩), .agg #[.string x1, .string x2, .string x3, .bool true]] w (WrPost (okVer ⟨x1, x2, x3, true⟩) (eVer ⟨x1, x2, x3, true⟩) ((1 + x1.size) + (1 + x2.size) + (1 + x3.size) + 1) g v l bad w) := by
  obtain ⟨A0, n0, k0, rfl⟩ := h.own.shape'
  have hwa := h.alloc (.cells #[.string x1, .string x2, .string x3, .bool true] 111)
  have hg := h.lt
  have hne : some w.heap.size ≠ (Value.slice A0 n0 k0).ownBlock := fun q => by have := h.own.blk _ q.symm; omega
  have hgne : w.heap.size ≠ g := by omega
  have hst : WrStep g (.slice A0 n0 k0) (.slice A0 n0 k0) w (w.alloc (.cells #[.string x1, .string x2, .string x3, .bool true] 111)) := ⟨(Mod.refl _ _).alloc _, .inl rfl⟩
  have hbx := heap_alloc_new w (.cells #[.string x1, .string x2, .string x3, .bool true] 111)
  have hlt : w.heap.size < (World.heap (w.alloc (.cells #[.string x1, .string x2, .string x3, .bool true] 111))).size := by simp
  go_enter Tryz.func73, Tryz.ntmps73
  go_upto_region 1 with fail
  generalize w.alloc (.cells #[.string x1, .string x2, .string x3, .bool true] 111) = W0 at *
  have Hw0 := hidden hwa
  have Hs0 := hidden hst
  have Hbx0 := hidden hbx
  have Hr0 : Hid (WrRel l bad l bad true [] 0) := hidden ⟨by cases bad <;> rfl, fun _ => by rw [List.append_nil], Nat.le_refl _⟩
  have Hn0 := hidden hne
  have hl0 : l.length ≤ l.length + 0 := Nat.le_refl _
  have b0_0 := cell_lit hbx (j := 0) rfl
  have b0_1 := cell_lit hbx (j := 1) rfl
  have b0_2 := cell_lit hbx (j := 2) rfl
  have b0_3 := cell_lit hbx (j := 3) rfl
  have w0_1 := cell_lit hwa.box (j := 1) rfl
  have f0_1 := free_lit hwa.box 1
  clear h hwa hst hbx hne
  go_wp2_with fail
  refine (wtext_calls x1 6 6 rfl (by decide) hx1 _ g (.slice A0 n0 k0) l bad Hw0.out (by omega)).mono ?_
  rintro e w1 hp
  obtain ⟨rfl, A1, n1, k1, l1, bad1, hw', hs', hr'⟩ := WrRel.ofPost hp
  have hb' := hs'.box Hbx0.out hgne Hn0.out
  have hlen1 := hr'.len
  have b1_0 := cell_lit hb' (j := 0) rfl
  have b1_1 := cell_lit hb' (j := 1) rfl
  have b1_2 := cell_lit hb' (j := 2) rfl
  have b1_3 := cell_lit hb' (j := 3) rfl
  have w1_1 := cell_lit hw'.box (j := 1) rfl
  have f1_1 := free_lit hw'.box 1
  have Hw1 := hidden hw'
  have Hs1 := hidden (Hs0.out.trans hs')
  have Hr1 := hidden (Hr0.out.seq hr')
  have Hbx1 := hidden hb'
  have Hn1 := hidden (hs'.other (Array.getElem?_eq_some_iff.1 Hbx0.out).1 Hn0.out)
  clear hp hw' hs' hr' hb' b0_0 b0_1 b0_2 b0_3 w0_1 f0_1
  go_wp2_with fail
  refine (wtext_calls x2 12 12 rfl (by decide) hx2 _ g (.slice A1 n1 k1) l1 bad1 Hw1.out (by omega)).mono ?_
  rintro e w2 hp
  obtain ⟨rfl, A2, n2, k2, l2, bad2, hw', hs', hr'⟩ := WrRel.ofPost hp
  have hb' := hs'.box Hbx1.out hgne Hn1.out
  have hlen2 := hr'.len
  have b2_0 := cell_lit hb' (j := 0) rfl
  have b2_1 := cell_lit hb' (j := 1) rfl
  have b2_2 := cell_lit hb' (j := 2) rfl
  have b2_3 := cell_lit hb' (j := 3) rfl
  have w2_1 := cell_lit hw'.box (j := 1) rfl
  have f2_1 := free_lit hw'.box 1
  have Hw2 := hidden hw'
  have Hs2 := hidden (Hs1.out.trans hs')
  have Hr2 := hidden (Hr1.out.seq hr')
  have Hbx2 := hidden hb'
  have Hn2 := hidden (hs'.other (Array.getElem?_eq_some_iff.1 Hbx1.out).1 Hn1.out)
  clear hp hw' hs' hr' hb' b1_0 b1_1 b1_2 b1_3 w1_1 f1_1
  go_wp2_with fail
  refine (wtext_calls x3 12 12 rfl (by decide) hx3 _ g (.slice A2 n2 k2) l2 bad2 Hw2.out (by omega)).mono ?_
  rintro e w3 hp
  obtain ⟨rfl, A3, n3, k3, l3, bad3, hw', hs', hr'⟩ := WrRel.ofPost hp
  have hb' := hs'.box Hbx2.out hgne Hn2.out
  have hlen3 := hr'.len
  have b3_0 := cell_lit hb' (j := 0) rfl
  have b3_1 := cell_lit hb' (j := 1) rfl
  have b3_2 := cell_lit hb' (j := 2) rfl
  have b3_3 := cell_lit hb' (j := 3) rfl
  have w3_1 := cell_lit hw'.box (j := 1) rfl
  have f3_1 := free_lit hw'.box 1
  have Hw3 := hidden hw'
  have Hs3 := hidden (Hs2.out.trans hs')
  have Hr3 := hidden (Hr2.out.seq hr')
  have Hbx3 := hidden hb'
  have Hn3 := hidden (hs'.other (Array.getElem?_eq_some_iff.1 Hbx2.out).1 Hn2.out)
  clear hp hw' hs' hr' hb' b2_0 b2_1 b2_2 b2_3 w2_1 f2_1
  go_wp2_with fail
  refine (wbyte_calls 1 2 _ g (.slice A3 n3 k3) l3 bad3 Hw3.out (by omega)).mono ?_
  rintro e w4 hp
  obtain ⟨rfl, A4, n4, k4, l4, bad4, hw', hs', hr'⟩ := WrRel.ofPost hp
  have hb' := hs'.box Hbx3.out hgne Hn3.out
  have hlen4 := hr'.len
  have b4_0 := cell_lit hb' (j := 0) rfl
  have b4_1 := cell_lit hb' (j := 1) rfl
  have b4_2 := cell_lit hb' (j := 2) rfl
  have b4_3 := cell_lit hb' (j := 3) rfl
  have w4_1 := cell_lit hw'.box (j := 1) rfl
  have f4_1 := free_lit hw'.box 1
  have Hw4 := hidden hw'
  have Hs4 := hidden (Hs3.out.trans hs')
  have Hr4 := hidden (Hr3.out.seq hr')
  have Hbx4 := hidden hb'
  have Hn4 := hidden (hs'.other (Array.getElem?_eq_some_iff.1 Hbx3.out).1 Hn3.out)
  clear hp hw' hs' hr' hb' b3_0 b3_1 b3_2 b3_3 w3_1 f3_1
  go_wp2_with fail
  go_end0
  exact WrRel.post Hw4.out Hs4.out (Hr4.out.of (by simp only [okVer, show okNum 2 1 = true from by decide, Bool.and_true, Bool.true_and, Bool.and_assoc]) (fun _ => by simp only [eVer, List.nil_append, List.append_assoc]; rfl) (by omega))
set_option maxHeartbeats 2000000 in
theorem writeVerdictFalse_calls (x1 : ByteArray) (x2 : ByteArray) (x3 : ByteArray) (hx1 : x1.size ≤ 4294967296) (hx2 : x2.size ≤ 4294967296) (hx3 : x3.size ≤ 4294967296)  (w : World) (g : Nat) (v : Value) (l : Bytes) (bad : Bool) (h : IsWr w g v l bad) (hl : l.length + ((1 + x1.size) + (1 + x2.size) + (1 + x3.size) + 1) ≤ 4294967296) :
    Calls Tryz.prog 73 #[.pointer (some ⟨g, 0, none⟩), .agg #[.string x1, .string x2, .string x3, .bool false]] w (WrPost (okVer ⟨x1, x2, x3, false⟩) (eVer ⟨x1, x2, x3, false⟩) ((1 + x1.size) + (1 + x2.size) + (1 + x3.size) + 1) g v l bad w) := by
  obtain ⟨A0, n0, k0, rfl⟩ := h.own.shape'
  have hwa := h.alloc (.cells #[.string x1, .string x2, .string x3, .bool false] 111)
  have hg := h.lt
  have hne : some w.heap.size ≠ (Value.slice A0 n0 k0).ownBlock := fun q => by have := h.own.blk _ q.symm; omega
  have hgne : w.heap.size ≠ g := by omega
  have hst : WrStep g (.slice A0 n0 k0) (.slice A0 n0 k0) w (w.alloc (.cells #[.string x1, .string x2, .string x3, .bool false] 111)) := ⟨(Mod.refl _ _).alloc _, .inl rfl⟩
  have hbx := heap_alloc_new w (.cells #[.string x1, .string x2, .string x3, .bool false] 111)
  have hlt : w.heap.size < (World.heap (w.alloc (.cells #[.string x1, .string x2, .string x3, .bool false] 111))).size := by simp
  go_enter Tryz.func73, Tryz.ntmps73
  go_upto_region 1 with fail
  generalize w.alloc (.cells #[.string x1, .string x2, .string x3, .bool false] 111) = W0 at *
  have Hw0 := hidden hwa
  have Hs0 := hidden hst
  have Hbx0 := hidden hbx
  have Hr0 : Hid (WrRel l bad l bad true [] 0) := hidden ⟨by cases bad <;> rfl, fun _ => by rw [List.append_nil], Nat.le_refl _⟩
  have Hn0 := hidden hne
  have hl0 : l.length ≤ l.length + 0 := Nat.le_refl _
  have b0_0 := cell_lit hbx (j := 0) rfl
  have b0_1 := cell_lit hbx (j := 1) rfl
  have b0_2 := cell_lit hbx (j := 2) rfl
  have b0_3 := cell_lit hbx (j := 3) rfl
  have w0_1 := cell_lit hwa.box (j := 1) rfl
  have f0_1 := free_lit hwa.box 1
  clear h hwa hst hbx hne
  go_wp2_with fail
  refine (wtext_calls x1 6 6 rfl (by decide) hx1 _ g (.slice A0 n0 k0) l bad Hw0.out (by omega)).mono ?_
  rintro e w1 hp
  obtain ⟨rfl, A1, n1, k1, l1, bad1, hw', hs', hr'⟩ := WrRel.ofPost hp
  have hb' := hs'.box Hbx0.out hgne Hn0.out
  have hlen1 := hr'.len
  have b1_0 := cell_lit hb' (j := 0) rfl
  have b1_1 := cell_lit hb' (j := 1) rfl
  have b1_2 := cell_lit hb' (j := 2) rfl
  have b1_3 := cell_lit hb' (j := 3) rfl
  have w1_1 := cell_lit hw'.box (j := 1) rfl
  have f1_1 := free_lit hw'.box 1
  have Hw1 := hidden hw'
  have Hs1 := hidden (Hs0.out.trans hs')
  have Hr1 := hidden (Hr0.out.seq hr')
  have Hbx1 := hidden hb'
  have Hn1 := hidden (hs'.other (Array.getElem?_eq_some_iff.1 Hbx0.out).1 Hn0.out)
  clear hp hw' hs' hr' hb' b0_0 b0_1 b0_2 b0_3 w0_1 f0_1
  go_wp2_with fail
  refine (wtext_calls x2 12 12 rfl (by decide) hx2 _ g (.slice A1 n1 k1) l1 bad1 Hw1.out (by omega)).mono ?_
  rintro e w2 hp
  obtain ⟨rfl, A2, n2, k2, l2, bad2, hw', hs', hr'⟩ := WrRel.ofPost hp
  have hb' := hs'.box Hbx1.out hgne Hn1.out
  have hlen2 := hr'.len
  have b2_0 := cell_lit hb' (j := 0) rfl
  have b2_1 := cell_lit hb' (j := 1) rfl
  have b2_2 := cell_lit hb' (j := 2) rfl
  have b2_3 := cell_lit hb' (j := 3) rfl
  have w2_1 := cell_lit hw'.box (j := 1) rfl
  have f2_1 := free_lit hw'.box 1
  have Hw2 := hidden hw'
  have Hs2 := hidden (Hs1.out.trans hs')
  have Hr2 := hidden (Hr1.out.seq hr')
  have Hbx2 := hidden hb'
  have Hn2 := hidden (hs'.other (Array.getElem?_eq_some_iff.1 Hbx1.out).1 Hn1.out)
  clear hp hw' hs' hr' hb' b1_0 b1_1 b1_2 b1_3 w1_1 f1_1
  go_wp2_with fail
  refine (wtext_calls x3 12 12 rfl (by decide) hx3 _ g (.slice A2 n2 k2) l2 bad2 Hw2.out (by omega)).mono ?_
  rintro e w3 hp
  obtain ⟨rfl, A3, n3, k3, l3, bad3, hw', hs', hr'⟩ := WrRel.ofPost hp
  have hb' := hs'.box Hbx2.out hgne Hn2.out
  have hlen3 := hr'.len
  have b3_0 := cell_lit hb' (j := 0) rfl
  have b3_1 := cell_lit hb' (j := 1) rfl
  have b3_2 := cell_lit hb' (j := 2) rfl
  have b3_3 := cell_lit hb' (j := 3) rfl
  have w3_1 := cell_lit hw'.box (j := 1) rfl
  have f3_1 := free_lit hw'.box 1
  have Hw3 := hidden hw'
  have Hs3 := hidden (Hs2.out.trans hs')
  have Hr3 := hidden (Hr2.out.seq hr')
  have Hbx3 := hidden hb'
  have Hn3 := hidden (hs'.other (Array.getElem?_eq_some_iff.1 Hbx2.out).1 Hn2.out)
  clear hp hw' hs' hr' hb' b2_0 b2_1 b2_2 b2_3 w2_1 f2_1
  go_wp2_with fail
  refine (wbyte_calls 0 2 _ g (.slice A3 n3 k3) l3 bad3 Hw3.out (by omega)).mono ?_
  rintro e w4 hp
  obtain ⟨rfl, A4, n4, k4, l4, bad4, hw', hs', hr'⟩ := WrRel.ofPost hp
  have hb' := hs'.box Hbx3.out hgne Hn3.out
  have hlen4 := hr'.len
  have b4_0 := cell_lit hb' (j := 0) rfl
  have b4_1 := cell_lit hb' (j := 1) rfl
  have b4_2 := cell_lit hb' (j := 2) rfl
  have b4_3 := cell_lit hb' (j := 3) rfl
  have w4_1 := cell_lit hw'.box (j := 1) rfl
  have f4_1 := free_lit hw'.box 1
  have Hw4 := hidden hw'
  have Hs4 := hidden (Hs3.out.trans hs')
  have Hr4 := hidden (Hr3.out.seq hr')
  have Hbx4 := hidden hb'
  have Hn4 := hidden (hs'.other (Array.getElem?_eq_some_iff.1 Hbx3.out).1 Hn3.out)
  clear hp hw' hs' hr' hb' b3_0 b3_1 b3_2 b3_3 w3_1 f3_1
  go_wp2_with fail
  go_end0
  exact WrRel.post Hw4.out Hs4.out (Hr4.out.of (by simp only [okVer, show okNum 2 0 = true from by decide, Bool.and_true, Bool.true_and, Bool.and_assoc]) (fun _ => by simp only [eVer, List.nil_append, List.append_assoc]; rfl) (by omega))
set_option maxHeartbeats 2000000 in
theorem writeFile_calls (x1 : ByteArray) (x2 : ByteArray) (x3 : Int) (hx1 : x1.size ≤ 4294967296) (hx2 : x2.size ≤ 4294967296) (hx3 : -9223372036854775808 ≤ x3) (hy3 : x3 ≤ 9223372036854775807) (w : World) (g : Nat) (v : Value) (l : Bytes) (bad : Bool) (h : IsWr w g v l bad) (hl : l.length + ((1 + x1.size) + (1 + x2.size) + 1) ≤ 4294967296) :
    Calls Tryz.prog 65 #[.pointer (some ⟨g, 0, none⟩), .agg #[.string x1, .string x2, .int .i64 x3]] w (WrPost (okFile ⟨x1, x2, x3⟩) (eFile ⟨x1, x2, x3⟩) ((1 + x1.size) + (1 + x2.size) + 1) g v l bad w) := by
  obtain ⟨A0, n0, k0, rfl⟩ := h.own.shape'
  have hwa := h.alloc (.cells #[.string x1, .string x2, .int .i64 x3] 107)
  have hg := h.lt
  have hne : some w.heap.size ≠ (Value.slice A0 n0 k0).ownBlock := fun q => by have := h.own.blk _ q.symm; omega
  have hgne : w.heap.size ≠ g := by omega
  have hst : WrStep g (.slice A0 n0 k0) (.slice A0 n0 k0) w (w.alloc (.cells #[.string x1, .string x2, .int .i64 x3] 107)) := ⟨(Mod.refl _ _).alloc _, .inl rfl⟩
  have hbx := heap_alloc_new w (.cells #[.string x1, .string x2, .int .i64 x3] 107)
  have hlt : w.heap.size < (World.heap (w.alloc (.cells #[.string x1, .string x2, .int .i64 x3] 107))).size := by simp
  go_enter Tryz.func65, Tryz.ntmps65
  go_upto_region 1 with fail
  generalize w.alloc (.cells #[.string x1, .string x2, .int .i64 x3] 107) = W0 at *
  have Hw0 := hidden hwa
  have Hs0 := hidden hst
  have Hbx0 := hidden hbx
  have Hr0 : Hid (WrRel l bad l bad true [] 0) := hidden ⟨by cases bad <;> rfl, fun _ => by rw [List.append_nil], Nat.le_refl _⟩
  have Hn0 := hidden hne
  have hl0 : l.length ≤ l.length + 0 := Nat.le_refl _
  have b0_0 := cell_lit hbx (j := 0) rfl
  have b0_1 := cell_lit hbx (j := 1) rfl
  have b0_2 := cell_lit hbx (j := 2) rfl
  have w0_1 := cell_lit hwa.box (j := 1) rfl
  have f0_1 := free_lit hwa.box 1
  clear h hwa hst hbx hne
  go_wp2_with fail
  refine (wtext_calls x1 12 12 rfl (by decide) hx1 _ g (.slice A0 n0 k0) l bad Hw0.out (by omega)).mono ?_
  rintro e w1 hp
  obtain ⟨rfl, A1, n1, k1, l1, bad1, hw', hs', hr'⟩ := WrRel.ofPost hp
  have hb' := hs'.box Hbx0.out hgne Hn0.out
  have hlen1 := hr'.len
  have b1_0 := cell_lit hb' (j := 0) rfl
  have b1_1 := cell_lit hb' (j := 1) rfl
  have b1_2 := cell_lit hb' (j := 2) rfl
  have w1_1 := cell_lit hw'.box (j := 1) rfl
  have f1_1 := free_lit hw'.box 1
  have Hw1 := hidden hw'
  have Hs1 := hidden (Hs0.out.trans hs')
  have Hr1 := hidden (Hr0.out.seq hr')
  have Hbx1 := hidden hb'
  have Hn1 := hidden (hs'.other (Array.getElem?_eq_some_iff.1 Hbx0.out).1 Hn0.out)
  clear hp hw' hs' hr' hb' b0_0 b0_1 b0_2 w0_1 f0_1
  go_wp2_with fail
  refine (wtext_calls x2 200 200 rfl (by decide) hx2 _ g (.slice A1 n1 k1) l1 bad1 Hw1.out (by omega)).mono ?_
  rintro e w2 hp
  obtain ⟨rfl, A2, n2, k2, l2, bad2, hw', hs', hr'⟩ := WrRel.ofPost hp
  have hb' := hs'.box Hbx1.out hgne Hn1.out
  have hlen2 := hr'.len
  have b2_0 := cell_lit hb' (j := 0) rfl
  have b2_1 := cell_lit hb' (j := 1) rfl
  have b2_2 := cell_lit hb' (j := 2) rfl
  have w2_1 := cell_lit hw'.box (j := 1) rfl
  have f2_1 := free_lit hw'.box 1
  have Hw2 := hidden hw'
  have Hs2 := hidden (Hs1.out.trans hs')
  have Hr2 := hidden (Hr1.out.seq hr')
  have Hbx2 := hidden hb'
  have Hn2 := hidden (hs'.other (Array.getElem?_eq_some_iff.1 Hbx1.out).1 Hn1.out)
  clear hp hw' hs' hr' hb' b1_0 b1_1 b1_2 w1_1 f1_1
  by_cases hc0 : x3 < 1
  · have dhc0 : decide (x3 < 1) = true := decide_eq_true hc0
    have hr' := Hr2.out
    cases bad2 with
    | true =>
      have Hr3 : Hid (WrRel l bad l2 true _ _ _) := hidden (by have q := (hr'.seq (WrRel.setBad l2 true (decide (x3 < 1)))); rw [show (true || (decide (x3 < 1))) = true from by simp only [dhc0, Bool.or_true]] at q; exact q)
      clear hr'
      go_upto_region 4 with fail
      have hw' := Hw2.out.setBad true
      have hs' := setBad_step (w := w2) (g := g) (v := (.slice A2 n2 k2)) true
      have hb' := hs'.box Hbx2.out hgne Hn2.out
      generalize w2.setCell ⟨g, 1, none⟩ (.bool true) = w3 at *
      have b3_0 := cell_lit hb' (j := 0) rfl
      have b3_1 := cell_lit hb' (j := 1) rfl
      have b3_2 := cell_lit hb' (j := 2) rfl
      have w3_1 := cell_lit hw'.box (j := 1) rfl
      have f3_1 := free_lit hw'.box 1
      have Hw3 := hidden hw'
      have Hs3 := hidden (Hs2.out.trans hs')
      have Hbx3 := hidden hb'
      have Hn3 := hidden Hn2.out
      clear hw' hs' hb' b2_0 b2_1 b2_2 w2_1 f2_1
      go_wp2_with fail
      refine (wbyte_calls _ 256 _ g (.slice A2 n2 k2) l2 true Hw3.out (by omega)).mono ?_
      rintro e w4 hp
      obtain ⟨rfl, A4, n4, k4, l4, bad4, hw', hs', hr'⟩ := WrRel.ofPost hp
      have hb' := hs'.box Hbx3.out hgne Hn3.out
      have hlen4 := hr'.len
      have b4_0 := cell_lit hb' (j := 0) rfl
      have b4_1 := cell_lit hb' (j := 1) rfl
      have b4_2 := cell_lit hb' (j := 2) rfl
      have w4_1 := cell_lit hw'.box (j := 1) rfl
      have f4_1 := free_lit hw'.box 1
      have Hw4 := hidden hw'
      have Hs4 := hidden (Hs3.out.trans hs')
      have Hr4 := hidden (Hr3.out.seq hr')
      have Hbx4 := hidden hb'
      have Hn4 := hidden (hs'.other (Array.getElem?_eq_some_iff.1 Hbx3.out).1 Hn3.out)
      clear hp hw' hs' hr' hb' b3_0 b3_1 b3_2 w3_1 f3_1
      go_wp2_with fail
      go_end0
      exact WrRel.post Hw4.out Hs4.out (Hr4.out.of (by have q : decide (0 ≤ x3 - 1) = false := decide_eq_false (by omega); simp only [okFile, okNum, dhc0, q, Bool.not_true, Bool.and_false, Bool.false_and]) (fun q => by simp only [dhc0, Bool.not_true, Bool.and_false, Bool.false_and] at q; cases q) (by omega))
    | false =>
      have Hr3 : Hid (WrRel l bad l2 true _ _ _) := hidden (by have q := (hr'.seq (WrRel.setBad l2 false (decide (x3 < 1)))); rw [show (false || (decide (x3 < 1))) = true from by simp only [dhc0, Bool.or_true]] at q; exact q)
      clear hr'
      go_upto_region 4 with fail
      have hw' := Hw2.out.setBad true
      have hs' := setBad_step (w := w2) (g := g) (v := (.slice A2 n2 k2)) true
      have hb' := hs'.box Hbx2.out hgne Hn2.out
      generalize w2.setCell ⟨g, 1, none⟩ (.bool true) = w3 at *
      have b3_0 := cell_lit hb' (j := 0) rfl
      have b3_1 := cell_lit hb' (j := 1) rfl
      have b3_2 := cell_lit hb' (j := 2) rfl
      have w3_1 := cell_lit hw'.box (j := 1) rfl
      have f3_1 := free_lit hw'.box 1
      have Hw3 := hidden hw'
      have Hs3 := hidden (Hs2.out.trans hs')
      have Hbx3 := hidden hb'
      have Hn3 := hidden Hn2.out
      clear hw' hs' hb' b2_0 b2_1 b2_2 w2_1 f2_1
      go_wp2_with fail
      refine (wbyte_calls _ 256 _ g (.slice A2 n2 k2) l2 true Hw3.out (by omega)).mono ?_
      rintro e w4 hp
      obtain ⟨rfl, A4, n4, k4, l4, bad4, hw', hs', hr'⟩ := WrRel.ofPost hp
      have hb' := hs'.box Hbx3.out hgne Hn3.out
      have hlen4 := hr'.len
      have b4_0 := cell_lit hb' (j := 0) rfl
      have b4_1 := cell_lit hb' (j := 1) rfl
      have b4_2 := cell_lit hb' (j := 2) rfl
      have w4_1 := cell_lit hw'.box (j := 1) rfl
      have f4_1 := free_lit hw'.box 1
      have Hw4 := hidden hw'
      have Hs4 := hidden (Hs3.out.trans hs')
      have Hr4 := hidden (Hr3.out.seq hr')
      have Hbx4 := hidden hb'
      have Hn4 := hidden (hs'.other (Array.getElem?_eq_some_iff.1 Hbx3.out).1 Hn3.out)
      clear hp hw' hs' hr' hb' b3_0 b3_1 b3_2 w3_1 f3_1
      go_wp2_with fail
      go_end0
      exact WrRel.post Hw4.out Hs4.out (Hr4.out.of (by have q : decide (0 ≤ x3 - 1) = false := decide_eq_false (by omega); simp only [okFile, okNum, dhc0, q, Bool.not_true, Bool.and_false, Bool.false_and]) (fun q => by simp only [dhc0, Bool.not_true, Bool.and_false, Bool.false_and] at q; cases q) (by omega))
  · have dhc0 : decide (x3 < 1) = false := decide_eq_false hc0
    have hr' := Hr2.out
    cases bad2 with
    | true =>
      have Hr3 : Hid (WrRel l bad l2 true _ _ _) := hidden (by have q := (hr'.seq (WrRel.setBad l2 true (decide (x3 < 1)))); rw [show (true || (decide (x3 < 1))) = true from by simp only [dhc0, Bool.or_false]] at q; exact q)
      clear hr'
      go_upto_region 4 with fail
      have hw' := Hw2.out.setBad true
      have hs' := setBad_step (w := w2) (g := g) (v := (.slice A2 n2 k2)) true
      have hb' := hs'.box Hbx2.out hgne Hn2.out
      generalize w2.setCell ⟨g, 1, none⟩ (.bool true) = w3 at *
      have b3_0 := cell_lit hb' (j := 0) rfl
      have b3_1 := cell_lit hb' (j := 1) rfl
      have b3_2 := cell_lit hb' (j := 2) rfl
      have w3_1 := cell_lit hw'.box (j := 1) rfl
      have f3_1 := free_lit hw'.box 1
      have Hw3 := hidden hw'
      have Hs3 := hidden (Hs2.out.trans hs')
      have Hbx3 := hidden hb'
      have Hn3 := hidden Hn2.out
      clear hw' hs' hb' b2_0 b2_1 b2_2 w2_1 f2_1
      go_wp2_with fail
      refine (wbyte_calls (x3 - 1) 256 _ g (.slice A2 n2 k2) l2 true Hw3.out (by omega)).mono ?_
      rintro e w4 hp
      obtain ⟨rfl, A4, n4, k4, l4, bad4, hw', hs', hr'⟩ := WrRel.ofPost hp
      have hb' := hs'.box Hbx3.out hgne Hn3.out
      have hlen4 := hr'.len
      have b4_0 := cell_lit hb' (j := 0) rfl
      have b4_1 := cell_lit hb' (j := 1) rfl
      have b4_2 := cell_lit hb' (j := 2) rfl
      have w4_1 := cell_lit hw'.box (j := 1) rfl
      have f4_1 := free_lit hw'.box 1
      have Hw4 := hidden hw'
      have Hs4 := hidden (Hs3.out.trans hs')
      have Hr4 := hidden (Hr3.out.seq hr')
      have Hbx4 := hidden hb'
      have Hn4 := hidden (hs'.other (Array.getElem?_eq_some_iff.1 Hbx3.out).1 Hn3.out)
      clear hp hw' hs' hr' hb' b3_0 b3_1 b3_2 w3_1 f3_1
      go_wp2_with fail
      go_end0
      exact WrRel.post Hw4.out Hs4.out (Hr4.out.of (by simp only [okFile, dhc0, Bool.not_false, Bool.and_true, Bool.true_and, Bool.and_assoc]) (fun _ => by simp only [eFile, List.nil_append, List.append_nil, List.append_assoc]) (by omega))
    | false =>
      have Hr3 : Hid (WrRel l bad l2 false _ _ _) := hidden (by have q := (hr'.seq (WrRel.setBad l2 false (decide (x3 < 1)))); rw [show (false || (decide (x3 < 1))) = false from by simp only [dhc0, Bool.or_false]] at q; exact q)
      clear hr'
      go_upto_region 4 with fail
      have hw' := Hw2.out.setBad false
      have hs' := setBad_step (w := w2) (g := g) (v := (.slice A2 n2 k2)) false
      have hb' := hs'.box Hbx2.out hgne Hn2.out
      generalize w2.setCell ⟨g, 1, none⟩ (.bool false) = w3 at *
      have b3_0 := cell_lit hb' (j := 0) rfl
      have b3_1 := cell_lit hb' (j := 1) rfl
      have b3_2 := cell_lit hb' (j := 2) rfl
      have w3_1 := cell_lit hw'.box (j := 1) rfl
      have f3_1 := free_lit hw'.box 1
      have Hw3 := hidden hw'
      have Hs3 := hidden (Hs2.out.trans hs')
      have Hbx3 := hidden hb'
      have Hn3 := hidden Hn2.out
      clear hw' hs' hb' b2_0 b2_1 b2_2 w2_1 f2_1
      go_wp2_with fail
      refine (wbyte_calls (x3 - 1) 256 _ g (.slice A2 n2 k2) l2 false Hw3.out (by omega)).mono ?_
      rintro e w4 hp
      obtain ⟨rfl, A4, n4, k4, l4, bad4, hw', hs', hr'⟩ := WrRel.ofPost hp
      have hb' := hs'.box Hbx3.out hgne Hn3.out
      have hlen4 := hr'.len
      have b4_0 := cell_lit hb' (j := 0) rfl
      have b4_1 := cell_lit hb' (j := 1) rfl
      have b4_2 := cell_lit hb' (j := 2) rfl
      have w4_1 := cell_lit hw'.box (j := 1) rfl
      have f4_1 := free_lit hw'.box 1
      have Hw4 := hidden hw'
      have Hs4 := hidden (Hs3.out.trans hs')
      have Hr4 := hidden (Hr3.out.seq hr')
      have Hbx4 := hidden hb'
      have Hn4 := hidden (hs'.other (Array.getElem?_eq_some_iff.1 Hbx3.out).1 Hn3.out)
      clear hp hw' hs' hr' hb' b3_0 b3_1 b3_2 w3_1 f3_1
      go_wp2_with fail
      go_end0
      exact WrRel.post Hw4.out Hs4.out (Hr4.out.of (by simp only [okFile, dhc0, Bool.not_false, Bool.and_true, Bool.true_and, Bool.and_assoc]) (fun _ => by simp only [eFile, List.nil_append, List.append_nil, List.append_assoc]) (by omega))
set_option maxHeartbeats 2000000 in
theorem writeEffect_calls (x1 : Int) (x2 : ByteArray) (x3 : ByteArray) (hx1 : -9223372036854775808 ≤ x1) (hy1 : x1 ≤ 9223372036854775807) (hx2 : x2.size ≤ 4294967296) (hx3 : x3.size ≤ 4294967296) (w : World) (g : Nat) (v : Value) (l : Bytes) (bad : Bool) (h : IsWr w g v l bad) (hl : l.length + (1 + (1 + x2.size) + (1 + x3.size)) ≤ 4294967296) :
    Calls Tryz.prog 95 #[.pointer (some ⟨g, 0, none⟩), .agg #[.int .i64 x1, .string x2, .string x3]] w (WrPost (okEff ⟨x1, x2, x3⟩) (eEff ⟨x1, x2, x3⟩) (1 + (1 + x2.size) + (1 + x3.size)) g v l bad w) := by
  obtain ⟨A0, n0, k0, rfl⟩ := h.own.shape'
  have hwa := h.alloc (.cells #[.int .i64 x1, .string x2, .string x3] 104)
  have hg := h.lt
  have hne : some w.heap.size ≠ (Value.slice A0 n0 k0).ownBlock := fun q => by have := h.own.blk _ q.symm; omega
  have hgne : w.heap.size ≠ g := by omega
  have hst : WrStep g (.slice A0 n0 k0) (.slice A0 n0 k0) w (w.alloc (.cells #[.int .i64 x1, .string x2, .string x3] 104)) := ⟨(Mod.refl _ _).alloc _, .inl rfl⟩
  have hbx := heap_alloc_new w (.cells #[.int .i64 x1, .string x2, .string x3] 104)
  have hlt : w.heap.size < (World.heap (w.alloc (.cells #[.int .i64 x1, .string x2, .string x3] 104))).size := by simp
  go_enter Tryz.func95, Tryz.ntmps95
  go_upto_region 1 with fail
  generalize w.alloc (.cells #[.int .i64 x1, .string x2, .string x3] 104) = W0 at *
  have Hw0 := hidden hwa
  have Hs0 := hidden hst
  have Hbx0 := hidden hbx
  have Hr0 : Hid (WrRel l bad l bad true [] 0) := hidden ⟨by cases bad <;> rfl, fun _ => by rw [List.append_nil], Nat.le_refl _⟩
  have Hn0 := hidden hne
  have hl0 : l.length ≤ l.length + 0 := Nat.le_refl _
  have b0_0 := cell_lit hbx (j := 0) rfl
  have b0_1 := cell_lit hbx (j := 1) rfl
  have b0_2 := cell_lit hbx (j := 2) rfl
  have w0_1 := cell_lit hwa.box (j := 1) rfl
  have f0_1 := free_lit hwa.box 1
  clear h hwa hst hbx hne
  by_cases hc0 : x1 < 1
  · have dhc0 : decide (x1 < 1) = true := decide_eq_true hc0
    have hr' := Hr0.out
    cases bad with
    | true =>
      have Hr1 : Hid (WrRel l true l true _ _ _) := hidden (by have q := (hr'.seq (WrRel.setBad l true (decide (x1 < 1)))); rw [show (true || (decide (x1 < 1))) = true from by simp only [dhc0, Bool.or_true]] at q; exact q)
      clear hr'
      go_upto_region 2 with fail
      have hw' := Hw0.out.setBad true
      have hs' := setBad_step (w := W0) (g := g) (v := (.slice A0 n0 k0)) true
      have hb' := hs'.box Hbx0.out hgne Hn0.out
      generalize W0.setCell ⟨g, 1, none⟩ (.bool true) = w1 at *
      have b1_0 := cell_lit hb' (j := 0) rfl
      have b1_1 := cell_lit hb' (j := 1) rfl
      have b1_2 := cell_lit hb' (j := 2) rfl
      have w1_1 := cell_lit hw'.box (j := 1) rfl
      have f1_1 := free_lit hw'.box 1
      have Hw1 := hidden hw'
      have Hs1 := hidden (Hs0.out.trans hs')
      have Hbx1 := hidden hb'
      have Hn1 := hidden Hn0.out
      clear hw' hs' hb' b0_0 b0_1 b0_2 w0_1 f0_1
      go_wp2_with fail
      refine (wbyte_calls _ 3 _ g (.slice A0 n0 k0) l true Hw1.out (by omega)).mono ?_
      rintro e w2 hp
      obtain ⟨rfl, A2, n2, k2, l2, bad2, hw', hs', hr'⟩ := WrRel.ofPost hp
      have hb' := hs'.box Hbx1.out hgne Hn1.out
      have hlen2 := hr'.len
      have b2_0 := cell_lit hb' (j := 0) rfl
      have b2_1 := cell_lit hb' (j := 1) rfl
      have b2_2 := cell_lit hb' (j := 2) rfl
      have w2_1 := cell_lit hw'.box (j := 1) rfl
      have f2_1 := free_lit hw'.box 1
      have Hw2 := hidden hw'
      have Hs2 := hidden (Hs1.out.trans hs')
      have Hr2 := hidden (Hr1.out.seq hr')
      have Hbx2 := hidden hb'
      have Hn2 := hidden (hs'.other (Array.getElem?_eq_some_iff.1 Hbx1.out).1 Hn1.out)
      clear hp hw' hs' hr' hb' b1_0 b1_1 b1_2 w1_1 f1_1
      go_wp2_with fail
      refine (wtext_calls x2 12 12 rfl (by decide) hx2 _ g (.slice A2 n2 k2) l2 bad2 Hw2.out (by omega)).mono ?_
      rintro e w3 hp
      obtain ⟨rfl, A3, n3, k3, l3, bad3, hw', hs', hr'⟩ := WrRel.ofPost hp
      have hb' := hs'.box Hbx2.out hgne Hn2.out
      have hlen3 := hr'.len
      have b3_0 := cell_lit hb' (j := 0) rfl
      have b3_1 := cell_lit hb' (j := 1) rfl
      have b3_2 := cell_lit hb' (j := 2) rfl
      have w3_1 := cell_lit hw'.box (j := 1) rfl
      have f3_1 := free_lit hw'.box 1
      have Hw3 := hidden hw'
      have Hs3 := hidden (Hs2.out.trans hs')
      have Hr3 := hidden (Hr2.out.seq hr')
      have Hbx3 := hidden hb'
      have Hn3 := hidden (hs'.other (Array.getElem?_eq_some_iff.1 Hbx2.out).1 Hn2.out)
      clear hp hw' hs' hr' hb' b2_0 b2_1 b2_2 w2_1 f2_1
      go_wp2_with fail
      refine (wtext_calls x3 12 12 rfl (by decide) hx3 _ g (.slice A3 n3 k3) l3 bad3 Hw3.out (by omega)).mono ?_
      rintro e w4 hp
      obtain ⟨rfl, A4, n4, k4, l4, bad4, hw', hs', hr'⟩ := WrRel.ofPost hp
      have hb' := hs'.box Hbx3.out hgne Hn3.out
      have hlen4 := hr'.len
      have b4_0 := cell_lit hb' (j := 0) rfl
      have b4_1 := cell_lit hb' (j := 1) rfl
      have b4_2 := cell_lit hb' (j := 2) rfl
      have w4_1 := cell_lit hw'.box (j := 1) rfl
      have f4_1 := free_lit hw'.box 1
      have Hw4 := hidden hw'
      have Hs4 := hidden (Hs3.out.trans hs')
      have Hr4 := hidden (Hr3.out.seq hr')
      have Hbx4 := hidden hb'
      have Hn4 := hidden (hs'.other (Array.getElem?_eq_some_iff.1 Hbx3.out).1 Hn3.out)
      clear hp hw' hs' hr' hb' b3_0 b3_1 b3_2 w3_1 f3_1
      go_wp2_with fail
      go_end0
      exact WrRel.post Hw4.out Hs4.out (Hr4.out.of (by have q : decide (0 ≤ x1 - 1) = false := decide_eq_false (by omega); simp only [okEff, okNum, dhc0, q, Bool.not_true, Bool.and_false, Bool.false_and]) (fun q => by simp only [dhc0, Bool.not_true, Bool.and_false, Bool.false_and] at q; cases q) (by omega))
    | false =>
      have Hr1 : Hid (WrRel l false l true _ _ _) := hidden (by have q := (hr'.seq (WrRel.setBad l false (decide (x1 < 1)))); rw [show (false || (decide (x1 < 1))) = true from by simp only [dhc0, Bool.or_true]] at q; exact q)
      clear hr'
      go_upto_region 2 with fail
      have hw' := Hw0.out.setBad true
      have hs' := setBad_step (w := W0) (g := g) (v := (.slice A0 n0 k0)) true
      have hb' := hs'.box Hbx0.out hgne Hn0.out
      generalize W0.setCell ⟨g, 1, none⟩ (.bool true) = w1 at *
      have b1_0 := cell_lit hb' (j := 0) rfl
      have b1_1 := cell_lit hb' (j := 1) rfl
      have b1_2 := cell_lit hb' (j := 2) rfl
      have w1_1 := cell_lit hw'.box (j := 1) rfl
      have f1_1 := free_lit hw'.box 1
      have Hw1 := hidden hw'
      have Hs1 := hidden (Hs0.out.trans hs')
      have Hbx1 := hidden hb'
      have Hn1 := hidden Hn0.out
      clear hw' hs' hb' b0_0 b0_1 b0_2 w0_1 f0_1
      go_wp2_with fail
      refine (wbyte_calls _ 3 _ g (.slice A0 n0 k0) l true Hw1.out (by omega)).mono ?_
      rintro e w2 hp
      obtain ⟨rfl, A2, n2, k2, l2, bad2, hw', hs', hr'⟩ := WrRel.ofPost hp
      have hb' := hs'.box Hbx1.out hgne Hn1.out
      have hlen2 := hr'.len
      have b2_0 := cell_lit hb' (j := 0) rfl
      have b2_1 := cell_lit hb' (j := 1) rfl
      have b2_2 := cell_lit hb' (j := 2) rfl
      have w2_1 := cell_lit hw'.box (j := 1) rfl
      have f2_1 := free_lit hw'.box 1
      have Hw2 := hidden hw'
      have Hs2 := hidden (Hs1.out.trans hs')
      have Hr2 := hidden (Hr1.out.seq hr')
      have Hbx2 := hidden hb'
      have Hn2 := hidden (hs'.other (Array.getElem?_eq_some_iff.1 Hbx1.out).1 Hn1.out)
      clear hp hw' hs' hr' hb' b1_0 b1_1 b1_2 w1_1 f1_1
      go_wp2_with fail
      refine (wtext_calls x2 12 12 rfl (by decide) hx2 _ g (.slice A2 n2 k2) l2 bad2 Hw2.out (by omega)).mono ?_
      rintro e w3 hp
      obtain ⟨rfl, A3, n3, k3, l3, bad3, hw', hs', hr'⟩ := WrRel.ofPost hp
      have hb' := hs'.box Hbx2.out hgne Hn2.out
      have hlen3 := hr'.len
      have b3_0 := cell_lit hb' (j := 0) rfl
      have b3_1 := cell_lit hb' (j := 1) rfl
      have b3_2 := cell_lit hb' (j := 2) rfl
      have w3_1 := cell_lit hw'.box (j := 1) rfl
      have f3_1 := free_lit hw'.box 1
      have Hw3 := hidden hw'
      have Hs3 := hidden (Hs2.out.trans hs')
      have Hr3 := hidden (Hr2.out.seq hr')
      have Hbx3 := hidden hb'
      have Hn3 := hidden (hs'.other (Array.getElem?_eq_some_iff.1 Hbx2.out).1 Hn2.out)
      clear hp hw' hs' hr' hb' b2_0 b2_1 b2_2 w2_1 f2_1
      go_wp2_with fail
      refine (wtext_calls x3 12 12 rfl (by decide) hx3 _ g (.slice A3 n3 k3) l3 bad3 Hw3.out (by omega)).mono ?_
      rintro e w4 hp
      obtain ⟨rfl, A4, n4, k4, l4, bad4, hw', hs', hr'⟩ := WrRel.ofPost hp
      have hb' := hs'.box Hbx3.out hgne Hn3.out
      have hlen4 := hr'.len
      have b4_0 := cell_lit hb' (j := 0) rfl
      have b4_1 := cell_lit hb' (j := 1) rfl
      have b4_2 := cell_lit hb' (j := 2) rfl
      have w4_1 := cell_lit hw'.box (j := 1) rfl
      have f4_1 := free_lit hw'.box 1
      have Hw4 := hidden hw'
      have Hs4 := hidden (Hs3.out.trans hs')
      have Hr4 := hidden (Hr3.out.seq hr')
      have Hbx4 := hidden hb'
      have Hn4 := hidden (hs'.other (Array.getElem?_eq_some_iff.1 Hbx3.out).1 Hn3.out)
      clear hp hw' hs' hr' hb' b3_0 b3_1 b3_2 w3_1 f3_1
      go_wp2_with fail
      go_end0
      exact WrRel.post Hw4.out Hs4.out (Hr4.out.of (by have q : decide (0 ≤ x1 - 1) = false := decide_eq_false (by omega); simp only [okEff, okNum, dhc0, q, Bool.not_true, Bool.and_false, Bool.false_and]) (fun q => by simp only [dhc0, Bool.not_true, Bool.and_false, Bool.false_and] at q; cases q) (by omega))
  · have dhc0 : decide (x1 < 1) = false := decide_eq_false hc0
    have hr' := Hr0.out
    cases bad with
    | true =>
      have Hr1 : Hid (WrRel l true l true _ _ _) := hidden (by have q := (hr'.seq (WrRel.setBad l true (decide (x1 < 1)))); rw [show (true || (decide (x1 < 1))) = true from by simp only [dhc0, Bool.or_false]] at q; exact q)
      clear hr'
      go_upto_region 2 with fail
      have hw' := Hw0.out.setBad true
      have hs' := setBad_step (w := W0) (g := g) (v := (.slice A0 n0 k0)) true
      have hb' := hs'.box Hbx0.out hgne Hn0.out
      generalize W0.setCell ⟨g, 1, none⟩ (.bool true) = w1 at *
      have b1_0 := cell_lit hb' (j := 0) rfl
      have b1_1 := cell_lit hb' (j := 1) rfl
      have b1_2 := cell_lit hb' (j := 2) rfl
      have w1_1 := cell_lit hw'.box (j := 1) rfl
      have f1_1 := free_lit hw'.box 1
      have Hw1 := hidden hw'
      have Hs1 := hidden (Hs0.out.trans hs')
      have Hbx1 := hidden hb'
      have Hn1 := hidden Hn0.out
      clear hw' hs' hb' b0_0 b0_1 b0_2 w0_1 f0_1
      go_wp2_with fail
      refine (wbyte_calls (x1 - 1) 3 _ g (.slice A0 n0 k0) l true Hw1.out (by omega)).mono ?_
      rintro e w2 hp
      obtain ⟨rfl, A2, n2, k2, l2, bad2, hw', hs', hr'⟩ := WrRel.ofPost hp
      have hb' := hs'.box Hbx1.out hgne Hn1.out
      have hlen2 := hr'.len
      have b2_0 := cell_lit hb' (j := 0) rfl
      have b2_1 := cell_lit hb' (j := 1) rfl
      have b2_2 := cell_lit hb' (j := 2) rfl
      have w2_1 := cell_lit hw'.box (j := 1) rfl
      have f2_1 := free_lit hw'.box 1
      have Hw2 := hidden hw'
      have Hs2 := hidden (Hs1.out.trans hs')
      have Hr2 := hidden (Hr1.out.seq hr')
      have Hbx2 := hidden hb'
      have Hn2 := hidden (hs'.other (Array.getElem?_eq_some_iff.1 Hbx1.out).1 Hn1.out)
      clear hp hw' hs' hr' hb' b1_0 b1_1 b1_2 w1_1 f1_1
      go_wp2_with fail
      refine (wtext_calls x2 12 12 rfl (by decide) hx2 _ g (.slice A2 n2 k2) l2 bad2 Hw2.out (by omega)).mono ?_
      rintro e w3 hp
      obtain ⟨rfl, A3, n3, k3, l3, bad3, hw', hs', hr'⟩ := WrRel.ofPost hp
      have hb' := hs'.box Hbx2.out hgne Hn2.out
      have hlen3 := hr'.len
      have b3_0 := cell_lit hb' (j := 0) rfl
      have b3_1 := cell_lit hb' (j := 1) rfl
      have b3_2 := cell_lit hb' (j := 2) rfl
      have w3_1 := cell_lit hw'.box (j := 1) rfl
      have f3_1 := free_lit hw'.box 1
      have Hw3 := hidden hw'
      have Hs3 := hidden (Hs2.out.trans hs')
      have Hr3 := hidden (Hr2.out.seq hr')
      have Hbx3 := hidden hb'
      have Hn3 := hidden (hs'.other (Array.getElem?_eq_some_iff.1 Hbx2.out).1 Hn2.out)
      clear hp hw' hs' hr' hb' b2_0 b2_1 b2_2 w2_1 f2_1
      go_wp2_with fail
      refine (wtext_calls x3 12 12 rfl (by decide) hx3 _ g (.slice A3 n3 k3) l3 bad3 Hw3.out (by omega)).mono ?_
      rintro e w4 hp
      obtain ⟨rfl, A4, n4, k4, l4, bad4, hw', hs', hr'⟩ := WrRel.ofPost hp
      have hb' := hs'.box Hbx3.out hgne Hn3.out
      have hlen4 := hr'.len
      have b4_0 := cell_lit hb' (j := 0) rfl
      have b4_1 := cell_lit hb' (j := 1) rfl
      have b4_2 := cell_lit hb' (j := 2) rfl
      have w4_1 := cell_lit hw'.box (j := 1) rfl
      have f4_1 := free_lit hw'.box 1
      have Hw4 := hidden hw'
      have Hs4 := hidden (Hs3.out.trans hs')
      have Hr4 := hidden (Hr3.out.seq hr')
      have Hbx4 := hidden hb'
      have Hn4 := hidden (hs'.other (Array.getElem?_eq_some_iff.1 Hbx3.out).1 Hn3.out)
      clear hp hw' hs' hr' hb' b3_0 b3_1 b3_2 w3_1 f3_1
      go_wp2_with fail
      go_end0
      exact WrRel.post Hw4.out Hs4.out (Hr4.out.of (by simp only [okEff, dhc0, Bool.not_false, Bool.and_true, Bool.true_and, Bool.and_assoc]) (fun _ => by simp only [eEff, List.nil_append, List.append_nil, List.append_assoc]) (by omega))
    | false =>
      have Hr1 : Hid (WrRel l false l false _ _ _) := hidden (by have q := (hr'.seq (WrRel.setBad l false (decide (x1 < 1)))); rw [show (false || (decide (x1 < 1))) = false from by simp only [dhc0, Bool.or_false]] at q; exact q)
      clear hr'
      go_upto_region 2 with fail
      have hw' := Hw0.out.setBad false
      have hs' := setBad_step (w := W0) (g := g) (v := (.slice A0 n0 k0)) false
      have hb' := hs'.box Hbx0.out hgne Hn0.out
      generalize W0.setCell ⟨g, 1, none⟩ (.bool false) = w1 at *
      have b1_0 := cell_lit hb' (j := 0) rfl
      have b1_1 := cell_lit hb' (j := 1) rfl
      have b1_2 := cell_lit hb' (j := 2) rfl
      have w1_1 := cell_lit hw'.box (j := 1) rfl
      have f1_1 := free_lit hw'.box 1
      have Hw1 := hidden hw'
      have Hs1 := hidden (Hs0.out.trans hs')
      have Hbx1 := hidden hb'
      have Hn1 := hidden Hn0.out
      clear hw' hs' hb' b0_0 b0_1 b0_2 w0_1 f0_1
      go_wp2_with fail
      refine (wbyte_calls (x1 - 1) 3 _ g (.slice A0 n0 k0) l false Hw1.out (by omega)).mono ?_
      rintro e w2 hp
      obtain ⟨rfl, A2, n2, k2, l2, bad2, hw', hs', hr'⟩ := WrRel.ofPost hp
      have hb' := hs'.box Hbx1.out hgne Hn1.out
      have hlen2 := hr'.len
      have b2_0 := cell_lit hb' (j := 0) rfl
      have b2_1 := cell_lit hb' (j := 1) rfl
      have b2_2 := cell_lit hb' (j := 2) rfl
      have w2_1 := cell_lit hw'.box (j := 1) rfl
      have f2_1 := free_lit hw'.box 1
      have Hw2 := hidden hw'
      have Hs2 := hidden (Hs1.out.trans hs')
      have Hr2 := hidden (Hr1.out.seq hr')
      have Hbx2 := hidden hb'
      have Hn2 := hidden (hs'.other (Array.getElem?_eq_some_iff.1 Hbx1.out).1 Hn1.out)
      clear hp hw' hs' hr' hb' b1_0 b1_1 b1_2 w1_1 f1_1
      go_wp2_with fail
      refine (wtext_calls x2 12 12 rfl (by decide) hx2 _ g (.slice A2 n2 k2) l2 bad2 Hw2.out (by omega)).mono ?_
      rintro e w3 hp
      obtain ⟨rfl, A3, n3, k3, l3, bad3, hw', hs', hr'⟩ := WrRel.ofPost hp
      have hb' := hs'.box Hbx2.out hgne Hn2.out
      have hlen3 := hr'.len
      have b3_0 := cell_lit hb' (j := 0) rfl
      have b3_1 := cell_lit hb' (j := 1) rfl
      have b3_2 := cell_lit hb' (j := 2) rfl
      have w3_1 := cell_lit hw'.box (j := 1) rfl
      have f3_1 := free_lit hw'.box 1
      have Hw3 := hidden hw'
      have Hs3 := hidden (Hs2.out.trans hs')
      have Hr3 := hidden (Hr2.out.seq hr')
      have Hbx3 := hidden hb'
      have Hn3 := hidden (hs'.other (Array.getElem?_eq_some_iff.1 Hbx2.out).1 Hn2.out)
      clear hp hw' hs' hr' hb' b2_0 b2_1 b2_2 w2_1 f2_1
      go_wp2_with fail
      refine (wtext_calls x3 12 12 rfl (by decide) hx3 _ g (.slice A3 n3 k3) l3 bad3 Hw3.out (by omega)).mono ?_
      rintro e w4 hp
      obtain ⟨rfl, A4, n4, k4, l4, bad4, hw', hs', hr'⟩ := WrRel.ofPost hp
      have hb' := hs'.box Hbx3.out hgne Hn3.out
      have hlen4 := hr'.len
      have b4_0 := cell_lit hb' (j := 0) rfl
      have b4_1 := cell_lit hb' (j := 1) rfl
      have b4_2 := cell_lit hb' (j := 2) rfl
      have w4_1 := cell_lit hw'.box (j := 1) rfl
      have f4_1 := free_lit hw'.box 1
      have Hw4 := hidden hw'
      have Hs4 := hidden (Hs3.out.trans hs')
      have Hr4 := hidden (Hr3.out.seq hr')
      have Hbx4 := hidden hb'
      have Hn4 := hidden (hs'.other (Array.getElem?_eq_some_iff.1 Hbx3.out).1 Hn3.out)
      clear hp hw' hs' hr' hb' b3_0 b3_1 b3_2 w3_1 f3_1
      go_wp2_with fail
      go_end0
      exact WrRel.post Hw4.out Hs4.out (Hr4.out.of (by simp only [okEff, dhc0, Bool.not_false, Bool.and_true, Bool.true_and, Bool.and_assoc]) (fun _ => by simp only [eEff, List.nil_append, List.append_nil, List.append_assoc]) (by omega))
theorem writeVerdict_calls (x1 : ByteArray) (x2 : ByteArray) (x3 : ByteArray) (x4 : Bool) (hx1 : x1.size ≤ 4294967296) (hx2 : x2.size ≤ 4294967296) (hx3 : x3.size ≤ 4294967296) (w : World) (g : Nat) (v : Value) (l : Bytes) (bad : Bool) (h : IsWr w g v l bad) (hl : l.length + ((1 + x1.size) + (1 + x2.size) + (1 + x3.size) + 1) ≤ 4294967296) :
    Calls Tryz.prog 73 #[.pointer (some ⟨g, 0, none⟩), .agg #[.string x1, .string x2, .string x3, .bool x4]] w (WrPost (okVer ⟨x1, x2, x3, x4⟩) (eVer ⟨x1, x2, x3, x4⟩) ((1 + x1.size) + (1 + x2.size) + (1 + x3.size) + 1) g v l bad w) := by
  cases x4 with
  | true => exact writeVerdictTrue_calls x1 x2 x3 hx1 hx2 hx3 w g v l bad h hl
  | false => exact writeVerdictFalse_calls x1 x2 x3 hx1 hx2 hx3 w g v l bad h hl
end Go.Proofs.YthgibbekfcenhaaGreatDoor
