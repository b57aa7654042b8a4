/- The walks of writeVar and writeOutcome. -/
import Derived.Test.YthgibbekfcenhaaGreatDoorWAll
namespace Go.Proofs.YthgibbekfcenhaaGreatDoor
open Go.RowKit

set_option maxHeartbeats 2000000 in
theorem writeVarTrue_calls (x1 : ByteArray) (x3 : Int) (ys : List ByteArray) (B : Option Addr) (nb kb : Nat) (F : Fp) (hx1 : x1.size ≤ 4294967296)  (hx3 : -9223372036854775808 ≤ x3) (hy3 : x3 ≤ 9223372036854775807)  (hnb : nb = ys.length) (w : World) (g : Nat) (v : Value) (l : Bytes) (bad : Bool) (hrd : (cSl cStr).rd w F [.slice B nb kb] ys) (hF : ∀ b, F b → b < g) (hnl : nb ≤ 4294967296) (h : IsWr w g v l bad) (hl : l.length + ((1 + x1.size) + wMany (fun x : ByteArray => 1 + x.size) ys + 1) ≤ 4294967296) :
    Calls Tryz.prog 67 #[.pointer (some ⟨g, 0, none⟩), .agg #[.string x1, .slice B nb kb, .int .i64 x3, .bool true]] w (WrPost (okVar ⟨x1, ys, x3, true⟩) (eVar ⟨x1, ys, x3, true⟩) ((1 + x1.size) + wMany (fun x : ByteArray => 1 + x.size) ys + 1) g v l bad w) := by
  obtain ⟨A0, n0, k0, rfl⟩ := h.own.shape'
  have HRD : Hid (∀ v' W, WrStep g (.slice A0 n0 k0) v' w W → (cSl cStr).rd W F [.slice B nb kb] ys) := hidden fun v' W hs => (cSl cStr).keep hrd fun b hb hl => ⟨hs.keep h (hF b hb), hb⟩
  have Hnb := hidden hnb
  have HF := hidden hF
  clear hrd hnb hF
  have hwa := h.alloc (.cells #[.string x1, .slice B nb kb, .int .i64 x3, .bool true] 98)
  have hg := h.lt
  have hne : some w.heap.size ≠ (Value.slice A0 n0 k0).ownBlock := fun q => by have := h.own.blk _ q.symm; omega
  have hgne : w.heap.size ≠ g := by omega
  have hst : WrStep g (.slice A0 n0 k0) (.slice A0 n0 k0) w (w.alloc (.cells #[.string x1, .slice B nb kb, .int .i64 x3, .bool true] 98)) := ⟨(Mod.refl _ _).alloc _, .inl rfl⟩
  have hbx := heap_alloc_new w (.cells #[.string x1, .slice B nb kb, .int .i64 x3, .bool true] 98)
  have hlt : w.heap.size < (World.heap (w.alloc (.cells #[.string x1, .slice B nb kb, .int .i64 x3, .bool true] 98))).size := by simp
  go_enter Tryz.func67, Tryz.ntmps67
  go_upto_region 1 with fail
  generalize w.alloc (.cells #[.string x1, .slice B nb kb, .int .i64 x3, .bool true] 98) = W0 at *
  have Hw0 := hidden hwa
  have Hs0 := hidden hst
  have Hbx0 := hidden hbx
  have Hr0 : Hid (WrRel l bad l bad true [] 0) := hidden ⟨by cases bad <;> rfl, fun _ => by rw [List.append_nil], Nat.le_refl _⟩
  have Hn0 := hidden hne
  have hl0 : l.length ≤ l.length + 0 := Nat.le_refl _
  have b0_0 := cell_lit hbx (j := 0) rfl
  have b0_1 := cell_lit hbx (j := 1) rfl
  have b0_2 := cell_lit hbx (j := 2) rfl
  have b0_3 := cell_lit hbx (j := 3) rfl
  have w0_1 := cell_lit hwa.box (j := 1) rfl
  have f0_1 := free_lit hwa.box 1
  clear h hwa hst hbx hne
  go_wp2_with fail
  refine (wtext_calls x1 12 12 rfl (by decide) hx1 _ g (.slice A0 n0 k0) l bad Hw0.out (by omega)).mono ?_
  rintro e w1 hp
  obtain ⟨rfl, A1, n1, k1, l1, bad1, hw', hs', hr'⟩ := WrRel.ofPost hp
  have hb' := hs'.box Hbx0.out hgne Hn0.out
  have hlen1 := hr'.len
  have b1_0 := cell_lit hb' (j := 0) rfl
  have b1_1 := cell_lit hb' (j := 1) rfl
  have b1_2 := cell_lit hb' (j := 2) rfl
  have b1_3 := cell_lit hb' (j := 3) rfl
  have w1_1 := cell_lit hw'.box (j := 1) rfl
  have f1_1 := free_lit hw'.box 1
  have Hw1 := hidden hw'
  have Hs1 := hidden (Hs0.out.trans hs')
  have Hr1 := hidden (Hr0.out.seq hr')
  have Hbx1 := hidden hb'
  have Hn1 := hidden (hs'.other (Array.getElem?_eq_some_iff.1 Hbx0.out).1 Hn0.out)
  clear hp hw' hs' hr' hb' b0_0 b0_1 b0_2 b0_3 w0_1 f0_1
  go_wp2_with fail
  refine (allWord_calls 3 3 rfl (by decide) B nb kb _ F g (.slice A1 n1 k1) l1 bad1 ys Hnb.out (HRD.out _ _ Hs1.out) HF.out hnl Hw1.out (by omega)).mono ?_
  rintro e w2 hp
  obtain ⟨rfl, A2, n2, k2, l2, bad2, hw', hs', hr'⟩ := WrRel.ofPost hp
  have hb' := hs'.box Hbx1.out hgne Hn1.out
  have hlen2 := hr'.len
  have b2_0 := cell_lit hb' (j := 0) rfl
  have b2_1 := cell_lit hb' (j := 1) rfl
  have b2_2 := cell_lit hb' (j := 2) rfl
  have b2_3 := cell_lit hb' (j := 3) rfl
  have w2_1 := cell_lit hw'.box (j := 1) rfl
  have f2_1 := free_lit hw'.box 1
  have Hw2 := hidden hw'
  have Hs2 := hidden (Hs1.out.trans hs')
  have Hr2 := hidden (Hr1.out.seq hr')
  have Hbx2 := hidden hb'
  have Hn2 := hidden (hs'.other (Array.getElem?_eq_some_iff.1 Hbx1.out).1 Hn1.out)
  clear hp hw' hs' hr' hb' b1_0 b1_1 b1_2 b1_3 w1_1 f1_1
  by_cases hc0 : x3 < 0
  · have dhc0 : decide (x3 < 0) = true := decide_eq_true hc0
    have hr' := Hr2.out
    cases bad2 with
    | true =>
      have Hr3 : Hid (WrRel l bad l2 true _ _ _) := hidden (by have q := (hr'.seq (WrRel.setBad l2 true (decide (x3 < 0) || decide (3 ≤ x3)))); rw [show (true || (decide (x3 < 0) || decide (3 ≤ x3))) = true from by simp only [dhc0, Bool.or_true, Bool.true_or]] at q; exact q)
      clear hr'
      go_upto_region 4 with fail
      have hw' := Hw2.out.setBad true
      have hs' := setBad_step (w := w2) (g := g) (v := (.slice A2 n2 k2)) true
      have hb' := hs'.box Hbx2.out hgne Hn2.out
      generalize w2.setCell ⟨g, 1, none⟩ (.bool true) = w3 at *
      have b3_0 := cell_lit hb' (j := 0) rfl
      have b3_1 := cell_lit hb' (j := 1) rfl
      have b3_2 := cell_lit hb' (j := 2) rfl
      have b3_3 := cell_lit hb' (j := 3) rfl
      have w3_1 := cell_lit hw'.box (j := 1) rfl
      have f3_1 := free_lit hw'.box 1
      have Hw3 := hidden hw'
      have Hs3 := hidden (Hs2.out.trans hs')
      have Hbx3 := hidden hb'
      have Hn3 := hidden Hn2.out
      clear hw' hs' hb' b2_0 b2_1 b2_2 b2_3 w2_1 f2_1
      go_wp2_with fail
      refine (wbyte_calls _ 6 _ g (.slice A2 n2 k2) l2 true Hw3.out (by omega)).mono ?_
      rintro e w4 hp
      obtain ⟨rfl, A4, n4, k4, l4, bad4, hw', hs', hr'⟩ := WrRel.ofPost hp
      have hb' := hs'.box Hbx3.out hgne Hn3.out
      have hlen4 := hr'.len
      have b4_0 := cell_lit hb' (j := 0) rfl
      have b4_1 := cell_lit hb' (j := 1) rfl
      have b4_2 := cell_lit hb' (j := 2) rfl
      have b4_3 := cell_lit hb' (j := 3) rfl
      have w4_1 := cell_lit hw'.box (j := 1) rfl
      have f4_1 := free_lit hw'.box 1
      have Hw4 := hidden hw'
      have Hs4 := hidden (Hs3.out.trans hs')
      have Hr4 := hidden (Hr3.out.seq hr')
      have Hbx4 := hidden hb'
      have Hn4 := hidden (hs'.other (Array.getElem?_eq_some_iff.1 Hbx3.out).1 Hn3.out)
      clear hp hw' hs' hr' hb' b3_0 b3_1 b3_2 b3_3 w3_1 f3_1
      go_wp2_with fail
      go_end0
      exact WrRel.post Hw4.out Hs4.out (Hr4.out.of (by have q : okNum 3 x3 = false := (by simp only [okNum, Bool.and_eq_false_iff, decide_eq_false_iff_not]; omega); first | (simp only [okVar, q, dhc0, Bool.true_or, Bool.not_true, Bool.and_false, Bool.false_and]; done) | (simp only [okVar, q, dhc0, dhc1, Bool.false_or, Bool.not_true, Bool.and_false, Bool.false_and])) (fun q => by first | (simp only [dhc0, Bool.true_or, Bool.not_true, Bool.and_false, Bool.false_and] at q; cases q) | (simp only [dhc0, dhc1, Bool.false_or, Bool.not_true, Bool.and_false, Bool.false_and] at q; cases q)) (by omega))
    | false =>
      have Hr3 : Hid (WrRel l bad l2 true _ _ _) := hidden (by have q := (hr'.seq (WrRel.setBad l2 false (decide (x3 < 0) || decide (3 ≤ x3)))); rw [show (false || (decide (x3 < 0) || decide (3 ≤ x3))) = true from by simp only [dhc0, Bool.or_true, Bool.true_or]] at q; exact q)
      clear hr'
      go_upto_region 4 with fail
      have hw' := Hw2.out.setBad true
      have hs' := setBad_step (w := w2) (g := g) (v := (.slice A2 n2 k2)) true
      have hb' := hs'.box Hbx2.out hgne Hn2.out
      generalize w2.setCell ⟨g, 1, none⟩ (.bool true) = w3 at *
      have b3_0 := cell_lit hb' (j := 0) rfl
      have b3_1 := cell_lit hb' (j := 1) rfl
      have b3_2 := cell_lit hb' (j := 2) rfl
      have b3_3 := cell_lit hb' (j := 3) rfl
      have w3_1 := cell_lit hw'.box (j := 1) rfl
      have f3_1 := free_lit hw'.box 1
      have Hw3 := hidden hw'
      have Hs3 := hidden (Hs2.out.trans hs')
      have Hbx3 := hidden hb'
      have Hn3 := hidden Hn2.out
      clear hw' hs' hb' b2_0 b2_1 b2_2 b2_3 w2_1 f2_1
      go_wp2_with fail
      refine (wbyte_calls _ 6 _ g (.slice A2 n2 k2) l2 true Hw3.out (by omega)).mono ?_
      rintro e w4 hp
      obtain ⟨rfl, A4, n4, k4, l4, bad4, hw', hs', hr'⟩ := WrRel.ofPost hp
      have hb' := hs'.box Hbx3.out hgne Hn3.out
      have hlen4 := hr'.len
      have b4_0 := cell_lit hb' (j := 0) rfl
      have b4_1 := cell_lit hb' (j := 1) rfl
      have b4_2 := cell_lit hb' (j := 2) rfl
      have b4_3 := cell_lit hb' (j := 3) rfl
      have w4_1 := cell_lit hw'.box (j := 1) rfl
      have f4_1 := free_lit hw'.box 1
      have Hw4 := hidden hw'
      have Hs4 := hidden (Hs3.out.trans hs')
      have Hr4 := hidden (Hr3.out.seq hr')
      have Hbx4 := hidden hb'
      have Hn4 := hidden (hs'.other (Array.getElem?_eq_some_iff.1 Hbx3.out).1 Hn3.out)
      clear hp hw' hs' hr' hb' b3_0 b3_1 b3_2 b3_3 w3_1 f3_1
      go_wp2_with fail
      go_end0
      exact WrRel.post Hw4.out Hs4.out (Hr4.out.of (by have q : okNum 3 x3 = false := (by simp only [okNum, Bool.and_eq_false_iff, decide_eq_false_iff_not]; omega); first | (simp only [okVar, q, dhc0, Bool.true_or, Bool.not_true, Bool.and_false, Bool.false_and]; done) | (simp only [okVar, q, dhc0, dhc1, Bool.false_or, Bool.not_true, Bool.and_false, Bool.false_and])) (fun q => by first | (simp only [dhc0, Bool.true_or, Bool.not_true, Bool.and_false, Bool.false_and] at q; cases q) | (simp only [dhc0, dhc1, Bool.false_or, Bool.not_true, Bool.and_false, Bool.false_and] at q; cases q)) (by omega))
  · have dhc0 : decide (x3 < 0) = false := decide_eq_false hc0
    by_cases hc1 : 3 ≤ x3
    · have dhc1 : decide (3 ≤ x3) = true := decide_eq_true hc1
      have hr' := Hr2.out
      cases bad2 with
      | true =>
        have Hr3 : Hid (WrRel l bad l2 true _ _ _) := hidden (by have q := (hr'.seq (WrRel.setBad l2 true (decide (x3 < 0) || decide (3 ≤ x3)))); rw [show (true || (decide (x3 < 0) || decide (3 ≤ x3))) = true from by simp only [dhc0, dhc1, Bool.or_true]] at q; exact q)
        clear hr'
        go_upto_region 4 with fail
        have hw' := Hw2.out.setBad true
        have hs' := setBad_step (w := w2) (g := g) (v := (.slice A2 n2 k2)) true
        have hb' := hs'.box Hbx2.out hgne Hn2.out
        generalize w2.setCell ⟨g, 1, none⟩ (.bool true) = w3 at *
        have b3_0 := cell_lit hb' (j := 0) rfl
        have b3_1 := cell_lit hb' (j := 1) rfl
        have b3_2 := cell_lit hb' (j := 2) rfl
        have b3_3 := cell_lit hb' (j := 3) rfl
        have w3_1 := cell_lit hw'.box (j := 1) rfl
        have f3_1 := free_lit hw'.box 1
        have Hw3 := hidden hw'
        have Hs3 := hidden (Hs2.out.trans hs')
        have Hbx3 := hidden hb'
        have Hn3 := hidden Hn2.out
        clear hw' hs' hb' b2_0 b2_1 b2_2 b2_3 w2_1 f2_1
        go_wp2_with fail
        refine (wbyte_calls _ 6 _ g (.slice A2 n2 k2) l2 true Hw3.out (by omega)).mono ?_
        rintro e w4 hp
        obtain ⟨rfl, A4, n4, k4, l4, bad4, hw', hs', hr'⟩ := WrRel.ofPost hp
        have hb' := hs'.box Hbx3.out hgne Hn3.out
        have hlen4 := hr'.len
        have b4_0 := cell_lit hb' (j := 0) rfl
        have b4_1 := cell_lit hb' (j := 1) rfl
        have b4_2 := cell_lit hb' (j := 2) rfl
        have b4_3 := cell_lit hb' (j := 3) rfl
        have w4_1 := cell_lit hw'.box (j := 1) rfl
        have f4_1 := free_lit hw'.box 1
        have Hw4 := hidden hw'
        have Hs4 := hidden (Hs3.out.trans hs')
        have Hr4 := hidden (Hr3.out.seq hr')
        have Hbx4 := hidden hb'
        have Hn4 := hidden (hs'.other (Array.getElem?_eq_some_iff.1 Hbx3.out).1 Hn3.out)
        clear hp hw' hs' hr' hb' b3_0 b3_1 b3_2 b3_3 w3_1 f3_1
        go_wp2_with fail
        go_end0
        exact WrRel.post Hw4.out Hs4.out (Hr4.out.of (by have q : okNum 3 x3 = false := (by simp only [okNum, Bool.and_eq_false_iff, decide_eq_false_iff_not]; omega); first | (simp only [okVar, q, dhc0, Bool.and_false]; done) | (simp only [okVar, q, dhc0, dhc1, Bool.false_or, Bool.not_true, Bool.and_false, Bool.false_and])) (fun q => by first | (simp only [dhc0] at q; cases q) | (simp only [dhc0, dhc1, Bool.false_or, Bool.not_true, Bool.and_false, Bool.false_and] at q; cases q)) (by omega))
      | false =>
        have Hr3 : Hid (WrRel l bad l2 true _ _ _) := hidden (by have q := (hr'.seq (WrRel.setBad l2 false (decide (x3 < 0) || decide (3 ≤ x3)))); rw [show (false || (decide (x3 < 0) || decide (3 ≤ x3))) = true from by simp only [dhc0, dhc1, Bool.or_true]] at q; exact q)
        clear hr'
        go_upto_region 4 with fail
        have hw' := Hw2.out.setBad true
        have hs' := setBad_step (w := w2) (g := g) (v := (.slice A2 n2 k2)) true
        have hb' := hs'.box Hbx2.out hgne Hn2.out
        generalize w2.setCell ⟨g, 1, none⟩ (.bool true) = w3 at *
        have b3_0 := cell_lit hb' (j := 0) rfl
        have b3_1 := cell_lit hb' (j := 1) rfl
        have b3_2 := cell_lit hb' (j := 2) rfl
        have b3_3 := cell_lit hb' (j := 3) rfl
        have w3_1 := cell_lit hw'.box (j := 1) rfl
        have f3_1 := free_lit hw'.box 1
        have Hw3 := hidden hw'
        have Hs3 := hidden (Hs2.out.trans hs')
        have Hbx3 := hidden hb'
        have Hn3 := hidden Hn2.out
        clear hw' hs' hb' b2_0 b2_1 b2_2 b2_3 w2_1 f2_1
        go_wp2_with fail
        refine (wbyte_calls _ 6 _ g (.slice A2 n2 k2) l2 true Hw3.out (by omega)).mono ?_
        rintro e w4 hp
        obtain ⟨rfl, A4, n4, k4, l4, bad4, hw', hs', hr'⟩ := WrRel.ofPost hp
        have hb' := hs'.box Hbx3.out hgne Hn3.out
        have hlen4 := hr'.len
        have b4_0 := cell_lit hb' (j := 0) rfl
        have b4_1 := cell_lit hb' (j := 1) rfl
        have b4_2 := cell_lit hb' (j := 2) rfl
        have b4_3 := cell_lit hb' (j := 3) rfl
        have w4_1 := cell_lit hw'.box (j := 1) rfl
        have f4_1 := free_lit hw'.box 1
        have Hw4 := hidden hw'
        have Hs4 := hidden (Hs3.out.trans hs')
        have Hr4 := hidden (Hr3.out.seq hr')
        have Hbx4 := hidden hb'
        have Hn4 := hidden (hs'.other (Array.getElem?_eq_some_iff.1 Hbx3.out).1 Hn3.out)
        clear hp hw' hs' hr' hb' b3_0 b3_1 b3_2 b3_3 w3_1 f3_1
        go_wp2_with fail
        go_end0
        exact WrRel.post Hw4.out Hs4.out (Hr4.out.of (by have q : okNum 3 x3 = false := (by simp only [okNum, Bool.and_eq_false_iff, decide_eq_false_iff_not]; omega); first | (simp only [okVar, q, dhc0, Bool.and_false]; done) | (simp only [okVar, q, dhc0, dhc1, Bool.false_or, Bool.not_true, Bool.and_false, Bool.false_and])) (fun q => by first | (simp only [dhc0] at q; cases q) | (simp only [dhc0, dhc1, Bool.false_or, Bool.not_true, Bool.and_false, Bool.false_and] at q; cases q)) (by omega))
    · have dhc1 : decide (3 ≤ x3) = false := decide_eq_false hc1
      have hr' := Hr2.out
      cases bad2 with
      | true =>
        have Hr3 : Hid (WrRel l bad l2 true _ _ _) := hidden (by have q := (hr'.seq (WrRel.setBad l2 true (decide (x3 < 0) || decide (3 ≤ x3)))); rw [show (true || (decide (x3 < 0) || decide (3 ≤ x3))) = true from by simp only [dhc0, dhc1, Bool.or_false]] at q; exact q)
        clear hr'
        go_upto_region 4 with fail
        have hw' := Hw2.out.setBad true
        have hs' := setBad_step (w := w2) (g := g) (v := (.slice A2 n2 k2)) true
        have hb' := hs'.box Hbx2.out hgne Hn2.out
        generalize w2.setCell ⟨g, 1, none⟩ (.bool true) = w3 at *
        have b3_0 := cell_lit hb' (j := 0) rfl
        have b3_1 := cell_lit hb' (j := 1) rfl
        have b3_2 := cell_lit hb' (j := 2) rfl
        have b3_3 := cell_lit hb' (j := 3) rfl
        have w3_1 := cell_lit hw'.box (j := 1) rfl
        have f3_1 := free_lit hw'.box 1
        have Hw3 := hidden hw'
        have Hs3 := hidden (Hs2.out.trans hs')
        have Hbx3 := hidden hb'
        have Hn3 := hidden Hn2.out
        clear hw' hs' hb' b2_0 b2_1 b2_2 b2_3 w2_1 f2_1
        go_wp2_with fail
        refine (wbyte_calls (x3 + 3) 6 _ g (.slice A2 n2 k2) l2 true Hw3.out (by omega)).mono ?_
        rintro e w4 hp
        obtain ⟨rfl, A4, n4, k4, l4, bad4, hw', hs', hr'⟩ := WrRel.ofPost hp
        have hb' := hs'.box Hbx3.out hgne Hn3.out
        have hlen4 := hr'.len
        have b4_0 := cell_lit hb' (j := 0) rfl
        have b4_1 := cell_lit hb' (j := 1) rfl
        have b4_2 := cell_lit hb' (j := 2) rfl
        have b4_3 := cell_lit hb' (j := 3) rfl
        have w4_1 := cell_lit hw'.box (j := 1) rfl
        have f4_1 := free_lit hw'.box 1
        have Hw4 := hidden hw'
        have Hs4 := hidden (Hs3.out.trans hs')
        have Hr4 := hidden (Hr3.out.seq hr')
        have Hbx4 := hidden hb'
        have Hn4 := hidden (hs'.other (Array.getElem?_eq_some_iff.1 Hbx3.out).1 Hn3.out)
        clear hp hw' hs' hr' hb' b3_0 b3_1 b3_2 b3_3 w3_1 f3_1
        go_wp2_with fail
        go_end0
        exact WrRel.post Hw4.out Hs4.out (Hr4.out.of (by have q : okNum 3 x3 = true := (by simp only [okNum, Bool.and_eq_true, decide_eq_true_eq]; omega); have q2 : okNum 6 (x3 + 3) = true := (by simp only [okNum, Bool.and_eq_true, decide_eq_true_eq]; omega); simp only [okVar, q, q2, dhc0, dhc1, Bool.or_false, Bool.not_false, Bool.and_true, Bool.true_and]) (fun _ => by simp only [eVar, List.nil_append, List.append_nil, List.append_assoc]; rfl) (by omega))
      | false =>
        have Hr3 : Hid (WrRel l bad l2 false _ _ _) := hidden (by have q := (hr'.seq (WrRel.setBad l2 false (decide (x3 < 0) || decide (3 ≤ x3)))); rw [show (false || (decide (x3 < 0) || decide (3 ≤ x3))) = false from by simp only [dhc0, dhc1, Bool.or_false]] at q; exact q)
        clear hr'
        go_upto_region 4 with fail
        have hw' := Hw2.out.setBad false
        have hs' := setBad_step (w := w2) (g := g) (v := (.slice A2 n2 k2)) false
        have hb' := hs'.box Hbx2.out hgne Hn2.out
        generalize w2.setCell ⟨g, 1, none⟩ (.bool false) = w3 at *
        have b3_0 := cell_lit hb' (j := 0) rfl
        have b3_1 := cell_lit hb' (j := 1) rfl
        have b3_2 := cell_lit hb' (j := 2) rfl
        have b3_3 := cell_lit hb' (j := 3) rfl
        have w3_1 := cell_lit hw'.box (j := 1) rfl
        have f3_1 := free_lit hw'.box 1
        have Hw3 := hidden hw'
        have Hs3 := hidden (Hs2.out.trans hs')
        have Hbx3 := hidden hb'
        have Hn3 := hidden Hn2.out
        clear hw' hs' hb' b2_0 b2_1 b2_2 b2_3 w2_1 f2_1
        go_wp2_with fail
        refine (wbyte_calls (x3 + 3) 6 _ g (.slice A2 n2 k2) l2 false Hw3.out (by omega)).mono ?_
        rintro e w4 hp
        obtain ⟨rfl, A4, n4, k4, l4, bad4, hw', hs', hr'⟩ := WrRel.ofPost hp
        have hb' := hs'.box Hbx3.out hgne Hn3.out
        have hlen4 := hr'.len
        have b4_0 := cell_lit hb' (j := 0) rfl
        have b4_1 := cell_lit hb' (j := 1) rfl
        have b4_2 := cell_lit hb' (j := 2) rfl
        have b4_3 := cell_lit hb' (j := 3) rfl
        have w4_1 := cell_lit hw'.box (j := 1) rfl
        have f4_1 := free_lit hw'.box 1
        have Hw4 := hidden hw'
        have Hs4 := hidden (Hs3.out.trans hs')
        have Hr4 := hidden (Hr3.out.seq hr')
        have Hbx4 := hidden hb'
        have Hn4 := hidden (hs'.other (Array.getElem?_eq_some_iff.1 Hbx3.out).1 Hn3.out)
        clear hp hw' hs' hr' hb' b3_0 b3_1 b3_2 b3_3 w3_1 f3_1
        go_wp2_with fail
        go_end0
        exact WrRel.post Hw4.out Hs4.out (Hr4.out.of (by have q : okNum 3 x3 = true := (by simp only [okNum, Bool.and_eq_true, decide_eq_true_eq]; omega); have q2 : okNum 6 (x3 + 3) = true := (by simp only [okNum, Bool.and_eq_true, decide_eq_true_eq]; omega); simp only [okVar, q, q2, dhc0, dhc1, Bool.or_false, Bool.not_false, Bool.and_true, Bool.true_and]) (fun _ => by simp only [eVar, List.nil_append, List.append_nil, List.append_assoc]; rfl) (by omega))
set_option maxHeartbeats 2000000 in
theorem writeVarFalse_calls (x1 : ByteArray) (x3 : Int) (ys : List ByteArray) (B : Option Addr) (nb kb : Nat) (F : Fp) (hx1 : x1.size ≤ 4294967296)  (hx3 : -9223372036854775808 ≤ x3) (hy3 : x3 ≤ 9223372036854775807)  (hnb : nb = ys.length) (w : World) (g : Nat) (v : Value) (l : Bytes) (bad : Bool) (hrd : (cSl cStr).rd w F [.slice B nb kb] ys) (hF : ∀ b, F b → b < g) (hnl : nb ≤ 4294967296) (h : IsWr w g v l bad) (hl : l.length + ((1 + x1.size) + wMany (fun x : ByteArray => 1 + x.size) ys + 1) ≤ 4294967296) :
    Calls Tryz.prog 67 #[.pointer (some ⟨g, 0, none⟩), .agg #[.string x1, .slice B nb kb, .int .i64 x3, .bool false]] w (WrPost (okVar ⟨x1, ys, x3, false⟩) (eVar ⟨x1, ys, x3, false⟩) ((1 + x1.size) + wMany (fun x : ByteArray => 1 + x.size) ys + 1) g v l bad w) := by
  obtain ⟨A0, n0, k0, rfl⟩ := h.own.shape'
  have HRD : Hid (∀ v' W, WrStep g (.slice A0 n0 k0) v' w W → (cSl cStr).rd W F [.slice B nb kb] ys) := hidden fun v' W hs => (cSl cStr).keep hrd fun b hb hl => ⟨hs.keep h (hF b hb), hb⟩
  have Hnb := hidden hnb
  have HF := hidden hF
  clear hrd hnb hF
  have hwa := h.alloc (.cells #[.string x1, .slice B nb kb, .int .i64 x3, .bool false] 98)
  have hg := h.lt
  have hne : some w.heap.size ≠ (Value.slice A0 n0 k0).ownBlock := fun q => by have := h.own.blk _ q.symm; omega
  have hgne : w.heap.size ≠ g := by omega
  have hst : WrStep g (.slice A0 n0 k0) (.slice A0 n0 k0) w (w.alloc (.cells #[.string x1, .slice B nb kb, .int .i64 x3, .bool false] 98)) := ⟨(Mod.refl _ _).alloc _, .inl rfl⟩
  have hbx := heap_alloc_new w (.cells #[.string x1, .slice B nb kb, .int .i64 x3, .bool false] 98)
  have hlt : w.heap.size < (World.heap (w.alloc (.cells #[.string x1, .slice B nb kb, .int .i64 x3, .bool false] 98))).size := by simp
  go_enter Tryz.func67, Tryz.ntmps67
  go_upto_region 1 with fail
  generalize w.alloc (.cells #[.string x1, .slice B nb kb, .int .i64 x3, .bool false] 98) = W0 at *
  have Hw0 := hidden hwa
  have Hs0 := hidden hst
  have Hbx0 := hidden hbx
  have Hr0 : Hid (WrRel l bad l bad true [] 0) := hidden ⟨by cases bad <;> rfl, fun _ => by rw [List.append_nil], Nat.le_refl _⟩
  have Hn0 := hidden hne
  have hl0 : l.length ≤ l.length + 0 := Nat.le_refl _
  have b0_0 := cell_lit hbx (j := 0) rfl
  have b0_1 := cell_lit hbx (j := 1) rfl
  have b0_2 := cell_lit hbx (j := 2) rfl
  have b0_3 := cell_lit hbx (j := 3) rfl
  have w0_1 := cell_lit hwa.box (j := 1) rfl
  have f0_1 := free_lit hwa.box 1
  clear h hwa hst hbx hne
  go_wp2_with fail
  refine (wtext_calls x1 12 12 rfl (by decide) hx1 _ g (.slice A0 n0 k0) l bad Hw0.out (by omega)).mono ?_
  rintro e w1 hp
  obtain ⟨rfl, A1, n1, k1, l1, bad1, hw', hs', hr'⟩ := WrRel.ofPost hp
  have hb' := hs'.box Hbx0.out hgne Hn0.out
  have hlen1 := hr'.len
  have b1_0 := cell_lit hb' (j := 0) rfl
  have b1_1 := cell_lit hb' (j := 1) rfl
  have b1_2 := cell_lit hb' (j := 2) rfl
  have b1_3 := cell_lit hb' (j := 3) rfl
  have w1_1 := cell_lit hw'.box (j := 1) rfl
  have f1_1 := free_lit hw'.box 1
  have Hw1 := hidden hw'
  have Hs1 := hidden (Hs0.out.trans hs')
  have Hr1 := hidden (Hr0.out.seq hr')
  have Hbx1 := hidden hb'
  have Hn1 := hidden (hs'.other (Array.getElem?_eq_some_iff.1 Hbx0.out).1 Hn0.out)
  clear hp hw' hs' hr' hb' b0_0 b0_1 b0_2 b0_3 w0_1 f0_1
  go_wp2_with fail
  refine (allWord_calls 3 3 rfl (by decide) B nb kb _ F g (.slice A1 n1 k1) l1 bad1 ys Hnb.out (HRD.out _ _ Hs1.out) HF.out hnl Hw1.out (by omega)).mono ?_
  rintro e w2 hp
  obtain ⟨rfl, A2, n2, k2, l2, bad2, hw', hs', hr'⟩ := WrRel.ofPost hp
  have hb' := hs'.box Hbx1.out hgne Hn1.out
  have hlen2 := hr'.len
  have b2_0 := cell_lit hb' (j := 0) rfl
  have b2_1 := cell_lit hb' (j := 1) rfl
  have b2_2 := cell_lit hb' (j := 2) rfl
  have b2_3 := cell_lit hb' (j := 3) rfl
  have w2_1 := cell_lit hw'.box (j := 1) rfl
  have f2_1 := free_lit hw'.box 1
  have Hw2 := hidden hw'
  have Hs2 := hidden (Hs1.out.trans hs')
  have Hr2 := hidden (Hr1.out.seq hr')
  have Hbx2 := hidden hb'
  have Hn2 := hidden (hs'.other (Array.getElem?_eq_some_iff.1 Hbx1.out).1 Hn1.out)
  clear hp hw' hs' hr' hb' b1_0 b1_1 b1_2 b1_3 w1_1 f1_1
  by_cases hc0 : x3 < 0
  · have dhc0 : decide (x3 < 0) = true := decide_eq_true hc0
    have hr' := Hr2.out
    cases bad2 with
    | true =>
      have Hr3 : Hid (WrRel l bad l2 true _ _ _) := hidden (by have q := (hr'.seq (WrRel.setBad l2 true (decide (x3 < 0) || decide (3 ≤ x3)))); rw [show (true || (decide (x3 < 0) || decide (3 ≤ x3))) = true from by simp only [dhc0, Bool.or_true, Bool.true_or]] at q; exact q)
      clear hr'
      go_upto_region 4 with fail
      have hw' := Hw2.out.setBad true
      have hs' := setBad_step (w := w2) (g := g) (v := (.slice A2 n2 k2)) true
      have hb' := hs'.box Hbx2.out hgne Hn2.out
      generalize w2.setCell ⟨g, 1, none⟩ (.bool true) = w3 at *
      have b3_0 := cell_lit hb' (j := 0) rfl
      have b3_1 := cell_lit hb' (j := 1) rfl
      have b3_2 := cell_lit hb' (j := 2) rfl
      have b3_3 := cell_lit hb' (j := 3) rfl
      have w3_1 := cell_lit hw'.box (j := 1) rfl
      have f3_1 := free_lit hw'.box 1
      have Hw3 := hidden hw'
      have Hs3 := hidden (Hs2.out.trans hs')
      have Hbx3 := hidden hb'
      have Hn3 := hidden Hn2.out
      clear hw' hs' hb' b2_0 b2_1 b2_2 b2_3 w2_1 f2_1
      go_wp2_with fail
      refine (wbyte_calls _ 6 _ g (.slice A2 n2 k2) l2 true Hw3.out (by omega)).mono ?_
      rintro e w4 hp
      obtain ⟨rfl, A4, n4, k4, l4, bad4, hw', hs', hr'⟩ := WrRel.ofPost hp
      have hb' := hs'.box Hbx3.out hgne Hn3.out
      have hlen4 := hr'.len
      have b4_0 := cell_lit hb' (j := 0) rfl
      have b4_1 := cell_lit hb' (j := 1) rfl
      have b4_2 := cell_lit hb' (j := 2) rfl
      have b4_3 := cell_lit hb' (j := 3) rfl
      have w4_1 := cell_lit hw'.box (j := 1) rfl
      have f4_1 := free_lit hw'.box 1
      have Hw4 := hidden hw'
      have Hs4 := hidden (Hs3.out.trans hs')
      have Hr4 := hidden (Hr3.out.seq hr')
      have Hbx4 := hidden hb'
      have Hn4 := hidden (hs'.other (Array.getElem?_eq_some_iff.1 Hbx3.out).1 Hn3.out)
      clear hp hw' hs' hr' hb' b3_0 b3_1 b3_2 b3_3 w3_1 f3_1
      go_wp2_with fail
      go_end0
      exact WrRel.post Hw4.out Hs4.out (Hr4.out.of (by have q : okNum 3 x3 = false := (by simp only [okNum, Bool.and_eq_false_iff, decide_eq_false_iff_not]; omega); first | (simp only [okVar, q, dhc0, Bool.true_or, Bool.not_true, Bool.and_false, Bool.false_and]; done) | (simp only [okVar, q, dhc0, dhc1, Bool.false_or, Bool.not_true, Bool.and_false, Bool.false_and])) (fun q => by first | (simp only [dhc0, Bool.true_or, Bool.not_true, Bool.and_false, Bool.false_and] at q; cases q) | (simp only [dhc0, dhc1, Bool.false_or, Bool.not_true, Bool.and_false, Bool.false_and] at q; cases q)) (by omega))
    | false =>
      have Hr3 : Hid (WrRel l bad l2 true _ _ _) := hidden (by have q := (hr'.seq (WrRel.setBad l2 false (decide (x3 < 0) || decide (3 ≤ x3)))); rw [show (false || (decide (x3 < 0) || decide (3 ≤ x3))) = true from by simp only [dhc0, Bool.or_true, Bool.true_or]] at q; exact q)
      clear hr'
      go_upto_region 4 with fail
      have hw' := Hw2.out.setBad true
      have hs' := setBad_step (w := w2) (g := g) (v := (.slice A2 n2 k2)) true
      have hb' := hs'.box Hbx2.out hgne Hn2.out
      generalize w2.setCell ⟨g, 1, none⟩ (.bool true) = w3 at *
      have b3_0 := cell_lit hb' (j := 0) rfl
      have b3_1 := cell_lit hb' (j := 1) rfl
      have b3_2 := cell_lit hb' (j := 2) rfl
      have b3_3 := cell_lit hb' (j := 3) rfl
      have w3_1 := cell_lit hw'.box (j := 1) rfl
      have f3_1 := free_lit hw'.box 1
      have Hw3 := hidden hw'
      have Hs3 := hidden (Hs2.out.trans hs')
      have Hbx3 := hidden hb'
      have Hn3 := hidden Hn2.out
      clear hw' hs' hb' b2_0 b2_1 b2_2 b2_3 w2_1 f2_1
      go_wp2_with fail
      refine (wbyte_calls _ 6 _ g (.slice A2 n2 k2) l2 true Hw3.out (by omega)).mono ?_
      rintro e w4 hp
      obtain ⟨rfl, A4, n4, k4, l4, bad4, hw', hs', hr'⟩ := WrRel.ofPost hp
      have hb' := hs'.box Hbx3.out hgne Hn3.out
      have hlen4 := hr'.len
      have b4_0 := cell_lit hb' (j := 0) rfl
      have b4_1 := cell_lit hb' (j := 1) rfl
      have b4_2 := cell_lit hb' (j := 2) rfl
      have b4_3 := cell_lit hb' (j := 3) rfl
      have w4_1 := cell_lit hw'.box (j := 1) rfl
      have f4_1 := free_lit hw'.box 1
      have Hw4 := hidden hw'
      have Hs4 := hidden (Hs3.out.trans hs')
      have Hr4 := hidden (Hr3.out.seq hr')
      have Hbx4 := hidden hb'
      have Hn4 := hidden (hs'.other (Array.getElem?_eq_some_iff.1 Hbx3.out).1 Hn3.out)
      clear hp hw' hs' hr' hb' b3_0 b3_1 b3_2 b3_3 w3_1 f3_1
      go_wp2_with fail
      go_end0
      exact WrRel.post Hw4.out Hs4.out (Hr4.out.of (by have q : okNum 3 x3 = false := (by simp only [okNum, Bool.and_eq_false_iff, decide_eq_false_iff_not]; omega); first | (simp only [okVar, q, dhc0, Bool.true_or, Bool.not_true, Bool.and_false, Bool.false_and]; done) | (simp only [okVar, q, dhc0, dhc1, Bool.false_or, Bool.not_true, Bool.and_false, Bool.false_and])) (fun q => by first | (simp only [dhc0, Bool.true_or, Bool.not_true, Bool.and_false, Bool.false_and] at q; cases q) | (simp only [dhc0, dhc1, Bool.false_or, Bool.not_true, Bool.and_false, Bool.false_and] at q; cases q)) (by omega))
  · have dhc0 : decide (x3 < 0) = false := decide_eq_false hc0
    by_cases hc1 : 3 ≤ x3
    · have dhc1 : decide (3 ≤ x3) = true := decide_eq_true hc1
      have hr' := Hr2.out
      cases bad2 with
      | true =>
        have Hr3 : Hid (WrRel l bad l2 true _ _ _) := hidden (by have q := (hr'.seq (WrRel.setBad l2 true (decide (x3 < 0) || decide (3 ≤ x3)))); rw [show (true || (decide (x3 < 0) || decide (3 ≤ x3))) = true from by simp only [dhc0, dhc1, Bool.or_true]] at q; exact q)
        clear hr'
        go_upto_region 4 with fail
        have hw' := Hw2.out.setBad true
        have hs' := setBad_step (w := w2) (g := g) (v := (.slice A2 n2 k2)) true
        have hb' := hs'.box Hbx2.out hgne Hn2.out
        generalize w2.setCell ⟨g, 1, none⟩ (.bool true) = w3 at *
        have b3_0 := cell_lit hb' (j := 0) rfl
        have b3_1 := cell_lit hb' (j := 1) rfl
        have b3_2 := cell_lit hb' (j := 2) rfl
        have b3_3 := cell_lit hb' (j := 3) rfl
        have w3_1 := cell_lit hw'.box (j := 1) rfl
        have f3_1 := free_lit hw'.box 1
        have Hw3 := hidden hw'
        have Hs3 := hidden (Hs2.out.trans hs')
        have Hbx3 := hidden hb'
        have Hn3 := hidden Hn2.out
        clear hw' hs' hb' b2_0 b2_1 b2_2 b2_3 w2_1 f2_1
        go_wp2_with fail
        refine (wbyte_calls _ 6 _ g (.slice A2 n2 k2) l2 true Hw3.out (by omega)).mono ?_
        rintro e w4 hp
        obtain ⟨rfl, A4, n4, k4, l4, bad4, hw', hs', hr'⟩ := WrRel.ofPost hp
        have hb' := hs'.box Hbx3.out hgne Hn3.out
        have hlen4 := hr'.len
        have b4_0 := cell_lit hb' (j := 0) rfl
        have b4_1 := cell_lit hb' (j := 1) rfl
        have b4_2 := cell_lit hb' (j := 2) rfl
        have b4_3 := cell_lit hb' (j := 3) rfl
        have w4_1 := cell_lit hw'.box (j := 1) rfl
        have f4_1 := free_lit hw'.box 1
        have Hw4 := hidden hw'
        have Hs4 := hidden (Hs3.out.trans hs')
        have Hr4 := hidden (Hr3.out.seq hr')
        have Hbx4 := hidden hb'
        have Hn4 := hidden (hs'.other (Array.getElem?_eq_some_iff.1 Hbx3.out).1 Hn3.out)
        clear hp hw' hs' hr' hb' b3_0 b3_1 b3_2 b3_3 w3_1 f3_1
        go_wp2_with fail
        go_end0
        exact WrRel.post Hw4.out Hs4.out (Hr4.out.of (by have q : okNum 3 x3 = false := (by simp only [okNum, Bool.and_eq_false_iff, decide_eq_false_iff_not]; omega); first | (simp only [okVar, q, dhc0, Bool.and_false]; done) | (simp only [okVar, q, dhc0, dhc1, Bool.false_or, Bool.not_true, Bool.and_false, Bool.false_and])) (fun q => by first | (simp only [dhc0] at q; cases q) | (simp only [dhc0, dhc1, Bool.false_or, Bool.not_true, Bool.and_false, Bool.false_and] at q; cases q)) (by omega))
      | false =>
        have Hr3 : Hid (WrRel l bad l2 true _ _ _) := hidden (by have q := (hr'.seq (WrRel.setBad l2 false (decide (x3 < 0) || decide (3 ≤ x3)))); rw [show (false || (decide (x3 < 0) || decide (3 ≤ x3))) = true from by simp only [dhc0, dhc1, Bool.or_true]] at q; exact q)
        clear hr'
        go_upto_region 4 with fail
        have hw' := Hw2.out.setBad true
        have hs' := setBad_step (w := w2) (g := g) (v := (.slice A2 n2 k2)) true
        have hb' := hs'.box Hbx2.out hgne Hn2.out
        generalize w2.setCell ⟨g, 1, none⟩ (.bool true) = w3 at *
        have b3_0 := cell_lit hb' (j := 0) rfl
        have b3_1 := cell_lit hb' (j := 1) rfl
        have b3_2 := cell_lit hb' (j := 2) rfl
        have b3_3 := cell_lit hb' (j := 3) rfl
        have w3_1 := cell_lit hw'.box (j := 1) rfl
        have f3_1 := free_lit hw'.box 1
        have Hw3 := hidden hw'
        have Hs3 := hidden (Hs2.out.trans hs')
        have Hbx3 := hidden hb'
        have Hn3 := hidden Hn2.out
        clear hw' hs' hb' b2_0 b2_1 b2_2 b2_3 w2_1 f2_1
        go_wp2_with fail
        refine (wbyte_calls _ 6 _ g (.slice A2 n2 k2) l2 true Hw3.out (by omega)).mono ?_
        rintro e w4 hp
        obtain ⟨rfl, A4, n4, k4, l4, bad4, hw', hs', hr'⟩ := WrRel.ofPost hp
        have hb' := hs'.box Hbx3.out hgne Hn3.out
        have hlen4 := hr'.len
        have b4_0 := cell_lit hb' (j := 0) rfl
        have b4_1 := cell_lit hb' (j := 1) rfl
        have b4_2 := cell_lit hb' (j := 2) rfl
        have b4_3 := cell_lit hb' (j := 3) rfl
        have w4_1 := cell_lit hw'.box (j := 1) rfl
        have f4_1 := free_lit hw'.box 1
        have Hw4 := hidden hw'
        have Hs4 := hidden (Hs3.out.trans hs')
        have Hr4 := hidden (Hr3.out.seq hr')
        have Hbx4 := hidden hb'
        have Hn4 := hidden (hs'.other (Array.getElem?_eq_some_iff.1 Hbx3.out).1 Hn3.out)
        clear hp hw' hs' hr' hb' b3_0 b3_1 b3_2 b3_3 w3_1 f3_1
        go_wp2_with fail
        go_end0
        exact WrRel.post Hw4.out Hs4.out (Hr4.out.of (by have q : okNum 3 x3 = false := (by simp only [okNum, Bool.and_eq_false_iff, decide_eq_false_iff_not]; omega); first | (simp only [okVar, q, dhc0, Bool.and_false]; done) | (simp only [okVar, q, dhc0, dhc1, Bool.false_or, Bool.not_true, Bool.and_false, Bool.false_and])) (fun q => by first | (simp only [dhc0] at q; cases q) | (simp only [dhc0, dhc1, Bool.false_or, Bool.not_true, Bool.and_false, Bool.false_and] at q; cases q)) (by omega))
    · have dhc1 : decide (3 ≤ x3) = false := decide_eq_false hc1
      have hr' := Hr2.out
      cases bad2 with
      | true =>
        have Hr3 : Hid (WrRel l bad l2 true _ _ _) := hidden (by have q := (hr'.seq (WrRel.setBad l2 true (decide (x3 < 0) || decide (3 ≤ x3)))); rw [show (true || (decide (x3 < 0) || decide (3 ≤ x3))) = true from by simp only [dhc0, dhc1, Bool.or_false]] at q; exact q)
        clear hr'
        go_upto_region 4 with fail
        have hw' := Hw2.out.setBad true
        have hs' := setBad_step (w := w2) (g := g) (v := (.slice A2 n2 k2)) true
        have hb' := hs'.box Hbx2.out hgne Hn2.out
        generalize w2.setCell ⟨g, 1, none⟩ (.bool true) = w3 at *
        have b3_0 := cell_lit hb' (j := 0) rfl
        have b3_1 := cell_lit hb' (j := 1) rfl
        have b3_2 := cell_lit hb' (j := 2) rfl
        have b3_3 := cell_lit hb' (j := 3) rfl
        have w3_1 := cell_lit hw'.box (j := 1) rfl
        have f3_1 := free_lit hw'.box 1
        have Hw3 := hidden hw'
        have Hs3 := hidden (Hs2.out.trans hs')
        have Hbx3 := hidden hb'
        have Hn3 := hidden Hn2.out
        clear hw' hs' hb' b2_0 b2_1 b2_2 b2_3 w2_1 f2_1
        go_wp2_with fail
        refine (wbyte_calls x3 6 _ g (.slice A2 n2 k2) l2 true Hw3.out (by omega)).mono ?_
        rintro e w4 hp
        obtain ⟨rfl, A4, n4, k4, l4, bad4, hw', hs', hr'⟩ := WrRel.ofPost hp
        have hb' := hs'.box Hbx3.out hgne Hn3.out
        have hlen4 := hr'.len
        have b4_0 := cell_lit hb' (j := 0) rfl
        have b4_1 := cell_lit hb' (j := 1) rfl
        have b4_2 := cell_lit hb' (j := 2) rfl
        have b4_3 := cell_lit hb' (j := 3) rfl
        have w4_1 := cell_lit hw'.box (j := 1) rfl
        have f4_1 := free_lit hw'.box 1
        have Hw4 := hidden hw'
        have Hs4 := hidden (Hs3.out.trans hs')
        have Hr4 := hidden (Hr3.out.seq hr')
        have Hbx4 := hidden hb'
        have Hn4 := hidden (hs'.other (Array.getElem?_eq_some_iff.1 Hbx3.out).1 Hn3.out)
        clear hp hw' hs' hr' hb' b3_0 b3_1 b3_2 b3_3 w3_1 f3_1
        go_wp2_with fail
        go_end0
        exact WrRel.post Hw4.out Hs4.out (Hr4.out.of (by have q : okNum 3 x3 = true := (by simp only [okNum, Bool.and_eq_true, decide_eq_true_eq]; omega); have q2 : okNum 6 (x3) = true := (by simp only [okNum, Bool.and_eq_true, decide_eq_true_eq]; omega); simp only [okVar, q, q2, dhc0, dhc1, Bool.or_false, Bool.not_false, Bool.and_true, Bool.true_and]) (fun _ => by simp only [eVar, List.nil_append, List.append_nil, List.append_assoc]; rfl) (by omega))
      | false =>
        have Hr3 : Hid (WrRel l bad l2 false _ _ _) := hidden (by have q := (hr'.seq (WrRel.setBad l2 false (decide (x3 < 0) || decide (3 ≤ x3)))); rw [show (false || (decide (x3 < 0) || decide (3 ≤ x3))) = false from by simp only [dhc0, dhc1, Bool.or_false]] at q; exact q)
        clear hr'
        go_upto_region 4 with fail
        have hw' := Hw2.out.setBad false
        have hs' := setBad_step (w := w2) (g := g) (v := (.slice A2 n2 k2)) false
        have hb' := hs'.box Hbx2.out hgne Hn2.out
        generalize w2.setCell ⟨g, 1, none⟩ (.bool false) = w3 at *
        have b3_0 := cell_lit hb' (j := 0) rfl
        have b3_1 := cell_lit hb' (j := 1) rfl
        have b3_2 := cell_lit hb' (j := 2) rfl
        have b3_3 := cell_lit hb' (j := 3) rfl
        have w3_1 := cell_lit hw'.box (j := 1) rfl
        have f3_1 := free_lit hw'.box 1
        have Hw3 := hidden hw'
        have Hs3 := hidden (Hs2.out.trans hs')
        have Hbx3 := hidden hb'
        have Hn3 := hidden Hn2.out
        clear hw' hs' hb' b2_0 b2_1 b2_2 b2_3 w2_1 f2_1
        go_wp2_with fail
        refine (wbyte_calls x3 6 _ g (.slice A2 n2 k2) l2 false Hw3.out (by omega)).mono ?_
        rintro e w4 hp
        obtain ⟨rfl, A4, n4, k4, l4, bad4, hw', hs', hr'⟩ := WrRel.ofPost hp
        have hb' := hs'.box Hbx3.out hgne Hn3.out
        have hlen4 := hr'.len
        have b4_0 := cell_lit hb' (j := 0) rfl
        have b4_1 := cell_lit hb' (j := 1) rfl
        have b4_2 := cell_lit hb' (j := 2) rfl
        have b4_3 := cell_lit hb' (j := 3) rfl
        have w4_1 := cell_lit hw'.box (j := 1) rfl
        have f4_1 := free_lit hw'.box 1
        have Hw4 := hidden hw'
        have Hs4 := hidden (Hs3.out.trans hs')
        have Hr4 := hidden (Hr3.out.seq hr')
        have Hbx4 := hidden hb'
        have Hn4 := hidden (hs'.other (Array.getElem?_eq_some_iff.1 Hbx3.out).1 Hn3.out)
        clear hp hw' hs' hr' hb' b3_0 b3_1 b3_2 b3_3 w3_1 f3_1
        go_wp2_with fail
        go_end0
        exact WrRel.post Hw4.out Hs4.out (Hr4.out.of (by have q : okNum 3 x3 = true := (by simp only [okNum, Bool.and_eq_true, decide_eq_true_eq]; omega); have q2 : okNum 6 (x3) = true := (by simp only [okNum, Bool.and_eq_true, decide_eq_true_eq]; omega); simp only [okVar, q, q2, dhc0, dhc1, Bool.or_false, Bool.not_false, Bool.and_true, Bool.true_and]) (fun _ => by simp only [eVar, List.nil_append, List.append_nil, List.append_assoc]; rfl) (by omega))
theorem writeVar_calls (x1 : ByteArray) (x3 : Int) (x4 : Bool) (hx1 : x1.size ≤ 4294967296) (hx3 : -9223372036854775808 ≤ x3) (hy3 : x3 ≤ 9223372036854775807) (ys : List ByteArray) (B : Option Addr) (nb kb : Nat) (F : Fp) (hnb : nb = ys.length) (w : World) (g : Nat) (v : Value) (l : Bytes) (bad : Bool) (hrd : (cSl cStr).rd w F [.slice B nb kb] ys) (hF : ∀ b, F b → b < g) (hnl : nb ≤ 4294967296) (h : IsWr w g v l bad) (hl : l.length + ((1 + x1.size) + wMany (fun x : ByteArray => 1 + x.size) ys + 1) ≤ 4294967296) :
    Calls Tryz.prog 67 #[.pointer (some ⟨g, 0, none⟩), .agg #[.string x1, .slice B nb kb, .int .i64 x3, .bool x4]] w (WrPost (okVar ⟨x1, ys, x3, x4⟩) (eVar ⟨x1, ys, x3, x4⟩) ((1 + x1.size) + wMany (fun x : ByteArray => 1 + x.size) ys + 1) g v l bad w) := by
  cases x4 with
  | true => exact writeVarTrue_calls x1 x3 ys B nb kb F hx1 hx3 hy3 hnb w g v l bad hrd hF hnl h hl
  | false => exact writeVarFalse_calls x1 x3 ys B nb kb F hx1 hx3 hy3 hnb w g v l bad hrd hF hnl h hl
set_option maxHeartbeats 2000000 in
theorem writeOutcome_calls (x1 : ByteArray) (x2 : Int) (ys : List PEff) (B : Option Addr) (nb kb : Nat) (F : Fp) (hx1 : x1.size ≤ 4294967296) (_hx2 : -9223372036854775808 ≤ x2) (_hy2 : x2 ≤ 9223372036854775807)  (hnb : nb = ys.length) (w : World) (g : Nat) (v : Value) (l : Bytes) (bad : Bool) (hrd : (cSl cEff).rd w F [.slice B nb kb] ys) (hF : ∀ b, F b → b < g) (hnl : nb ≤ 4294967296) (h : IsWr w g v l bad) (hl : l.length + ((1 + x1.size) + 1 + wMany (fun x : PEff => 1 + (1 + x.name.size) + (1 + x.text.size)) ys) ≤ 4294967296) :
    Calls Tryz.prog 71 #[.pointer (some ⟨g, 0, none⟩), .agg #[.string x1, .int .i64 x2, .slice B nb kb]] w (WrPost (okOutc ⟨x1, x2, ys⟩) (eOutc ⟨x1, x2, ys⟩) ((1 + x1.size) + 1 + wMany (fun x : PEff => 1 + (1 + x.name.size) + (1 + x.text.size)) ys) g v l bad w) := by
  obtain ⟨A0, n0, k0, rfl⟩ := h.own.shape'
  have HRD : Hid (∀ v' W, WrStep g (.slice A0 n0 k0) v' w W → (cSl cEff).rd W F [.slice B nb kb] ys) := hidden fun v' W hs => (cSl cEff).keep hrd fun b hb hl => ⟨hs.keep h (hF b hb), hb⟩
  have Hnb := hidden hnb
  have HF := hidden hF
  clear hrd hnb hF
  have hwa := h.alloc (.cells #[.string x1, .int .i64 x2, .slice B nb kb] 102)
  have hg := h.lt
  have hne : some w.heap.size ≠ (Value.slice A0 n0 k0).ownBlock := fun q => by have := h.own.blk _ q.symm; omega
  have hgne : w.heap.size ≠ g := by omega
  have hst : WrStep g (.slice A0 n0 k0) (.slice A0 n0 k0) w (w.alloc (.cells #[.string x1, .int .i64 x2, .slice B nb kb] 102)) := ⟨(Mod.refl _ _).alloc _, .inl rfl⟩
  have hbx := heap_alloc_new w (.cells #[.string x1, .int .i64 x2, .slice B nb kb] 102)
  have hlt : w.heap.size < (World.heap (w.alloc (.cells #[.string x1, .int .i64 x2, .slice B nb kb] 102))).size := by simp
  go_enter Tryz.func71, Tryz.ntmps71
  go_upto_region 1 with fail
  generalize w.alloc (.cells #[.string x1, .int .i64 x2, .slice B nb kb] 102) = W0 at *
  have Hw0 := hidden hwa
  have Hs0 := hidden hst
  have Hbx0 := hidden hbx
  have Hr0 : Hid (WrRel l bad l bad true [] 0) := hidden ⟨by cases bad <;> rfl, fun _ => by rw [List.append_nil], Nat.le_refl _⟩
  have Hn0 := hidden hne
  have hl0 : l.length ≤ l.length + 0 := Nat.le_refl _
  have b0_0 := cell_lit hbx (j := 0) rfl
  have b0_1 := cell_lit hbx (j := 1) rfl
  have b0_2 := cell_lit hbx (j := 2) rfl
  have w0_1 := cell_lit hwa.box (j := 1) rfl
  have f0_1 := free_lit hwa.box 1
  clear h hwa hst hbx hne
  go_wp2_with fail
  refine (wtext_calls x1 12 12 rfl (by decide) hx1 _ g (.slice A0 n0 k0) l bad Hw0.out (by omega)).mono ?_
  rintro e w1 hp
  obtain ⟨rfl, A1, n1, k1, l1, bad1, hw', hs', hr'⟩ := WrRel.ofPost hp
  have hb' := hs'.box Hbx0.out hgne Hn0.out
  have hlen1 := hr'.len
  have b1_0 := cell_lit hb' (j := 0) rfl
  have b1_1 := cell_lit hb' (j := 1) rfl
  have b1_2 := cell_lit hb' (j := 2) rfl
  have w1_1 := cell_lit hw'.box (j := 1) rfl
  have f1_1 := free_lit hw'.box 1
  have Hw1 := hidden hw'
  have Hs1 := hidden (Hs0.out.trans hs')
  have Hr1 := hidden (Hr0.out.seq hr')
  have Hbx1 := hidden hb'
  have Hn1 := hidden (hs'.other (Array.getElem?_eq_some_iff.1 Hbx0.out).1 Hn0.out)
  clear hp hw' hs' hr' hb' b0_0 b0_1 b0_2 w0_1 f0_1
  go_wp2_with fail
  refine (wbyte_calls x2 4 _ g (.slice A1 n1 k1) l1 bad1 Hw1.out (by omega)).mono ?_
  rintro e w2 hp
  obtain ⟨rfl, A2, n2, k2, l2, bad2, hw', hs', hr'⟩ := WrRel.ofPost hp
  have hb' := hs'.box Hbx1.out hgne Hn1.out
  have hlen2 := hr'.len
  have b2_0 := cell_lit hb' (j := 0) rfl
  have b2_1 := cell_lit hb' (j := 1) rfl
  have b2_2 := cell_lit hb' (j := 2) rfl
  have w2_1 := cell_lit hw'.box (j := 1) rfl
  have f2_1 := free_lit hw'.box 1
  have Hw2 := hidden hw'
  have Hs2 := hidden (Hs1.out.trans hs')
  have Hr2 := hidden (Hr1.out.seq hr')
  have Hbx2 := hidden hb'
  have Hn2 := hidden (hs'.other (Array.getElem?_eq_some_iff.1 Hbx1.out).1 Hn1.out)
  clear hp hw' hs' hr' hb' b1_0 b1_1 b1_2 w1_1 f1_1
  go_wp2_with fail
  refine (allEffect_calls 2 2 rfl (by decide) B nb kb _ F g (.slice A2 n2 k2) l2 bad2 ys Hnb.out (HRD.out _ _ Hs2.out) HF.out hnl Hw2.out (by omega)).mono ?_
  rintro e w3 hp
  obtain ⟨rfl, A3, n3, k3, l3, bad3, hw', hs', hr'⟩ := WrRel.ofPost hp
  have hb' := hs'.box Hbx2.out hgne Hn2.out
  have hlen3 := hr'.len
  have b3_0 := cell_lit hb' (j := 0) rfl
  have b3_1 := cell_lit hb' (j := 1) rfl
  have b3_2 := cell_lit hb' (j := 2) rfl
  have w3_1 := cell_lit hw'.box (j := 1) rfl
  have f3_1 := free_lit hw'.box 1
  have Hw3 := hidden hw'
  have Hs3 := hidden (Hs2.out.trans hs')
  have Hr3 := hidden (Hr2.out.seq hr')
  have Hbx3 := hidden hb'
  have Hn3 := hidden (hs'.other (Array.getElem?_eq_some_iff.1 Hbx2.out).1 Hn2.out)
  clear hp hw' hs' hr' hb' b2_0 b2_1 b2_2 w2_1 f2_1
  go_wp2_with fail
  go_end0
  exact WrRel.post Hw3.out Hs3.out (Hr3.out.of (by simp only [okOutc, Bool.true_and, Bool.and_assoc]) (fun _ => by simp only [eOutc, List.nil_append, List.append_assoc]) (by omega))
theorem len_wMany {α : Type} {wt : α → Nat} (h : ∀ x, 1 ≤ wt x) (xs : List α) : xs.length ≤ wMany wt xs := by
  unfold wMany
  induction xs with
  | nil => simp
  | cons x xs ih => have := h x; simp only [List.length_cons, List.map_cons, List.sum_cons]; omega
theorem var_shape2 {w : World} {F : Fp} {cs : List Value} {v : PVar} (h : cVar.rd w F cs v) : ∃ A n cap, cs = [.string v.name, .slice A n cap, .int .i64 v.level, .bool v.hidden] ∧ n = v.words.length ∧ (-9223372036854775808 ≤ v.level ∧ v.level ≤ 9223372036854775807) ∧ (cSl cStr).rd w F [.slice A n cap] v.words := by
  obtain ⟨p, q, rfl, ⟨rfl, h1⟩, p', q', rfl, ⟨A, cap, rfl, h3⟩, p3, q3, rfl, ⟨rfl, h4⟩, rfl⟩ := h
  exact ⟨A, _, cap, rfl, rfl, h4, A, cap, rfl, h3⟩
set_option maxHeartbeats 1000000 in
theorem allVar_calls (m : Int) (M : Nat) (hM : m = (M : Int)) (hm : m ≤ 1000) (A : Option Addr) (n k1 : Nat) (w : World) (F : Fp) (g : Nat) (v : Value) (l : Bytes) (bad : Bool) (xs : List PVar) (hn : n = xs.length) (hrd : (cSl cVar).rd w F [.slice A n k1] xs) (hF : ∀ b, F b → b < g) (hlen : n ≤ 4294967296)
    (h : IsWr w g v l bad) (hl : l.length + wMany (fun x : PVar => (1 + x.name.size) + wMany (fun x : ByteArray => 1 + x.size) x.words + 1) xs ≤ 4294967296) :
    Calls Tryz.prog 66 #[.pointer (some ⟨g, 0, none⟩), .slice A n k1, .int .i64 m, .func (.func 67) #[] #[]] w (WrPost (okMany M okVar xs) (eMany eVar xs) (wMany (fun x : PVar => (1 + x.name.size) + wMany (fun x : ByteArray => 1 + x.size) x.words + 1) xs) g v l bad w) := by
  have Hn := hidden hn
  have hg := h.lt
  have Hw := hidden h
  have Hx : Hid (∀ v' W, WrStep g v v' w W → (cSl cVar).rd W F [.slice A n k1] xs) := hidden fun v' W hs => (cSl cVar).keep hrd fun b hb hl => ⟨hs.keep h (hF b hb), hb⟩
  have hl1 : l.length + 1 ≤ 4294967296 := by unfold wMany at hl; omega
  have Hl := hidden hl
  have hby := wbyte_calls n (m + 1) w g v l bad h hl1
  have Hby := hidden hby
  have HM := hidden hM
  have h0m : 0 ≤ m := by omega
  clear hn hrd h hl hby hM
  go_enter Tryz.func66, Tryz.ntmps66
  go_wp2_with fail
  refine Hby.out.mono ?_
  rintro e1 w1 hp
  obtain ⟨rfl, A1, n1, k2, l1, bad1, hw1, hs1, hr1⟩ := WrRel.ofPost hp
  have Hw1 := hidden hw1
  have Hs1 := hidden hs1
  have Hr1 : Hid (AllRel M okVar eVar (fun x : PVar => (1 + x.name.size) + wMany (fun x : ByteArray => 1 + x.size) x.words + 1) xs l bad 0 l1 bad1) := hidden (allRel_zero (by rw [HM.out, Hn.out] at hr1; exact hr1))
  clear hp hw1 hs1 hr1 Hby
  go_wp2_with fail
  go_loopw [18] (fun i wr => ∃ k A2 n2 k2 l' bad', k ≤ n ∧ i = .int .i64 (k : Nat) ∧ IsWr wr g (.slice A2 n2 k2) l' bad' ∧ WrStep g v (.slice A2 n2 k2) w wr ∧ AllRel M okVar eVar (fun x : PVar => (1 + x.name.size) + wMany (fun x : ByteArray => 1 + x.size) x.words + 1) xs l bad k l' bad') (fun i _ => n - (intOf i).toNat)
  case atStart => exact ⟨0, _, _, _, _, _, Nat.zero_le _, rfl, Hw1.out, Hs1.out, Hr1.out⟩
  obtain ⟨k, A2, n2, k2, l2, bad2, hk, rfl, hw2, hs2, hr2⟩ := hrel
  by_cases hlt : k < n
  case pos =>
    have hkx : k < xs.length := by rw [← Hn.out]; exact hlt
    obtain ⟨x, hx⟩ : ∃ x, xs[k]? = some x := ⟨_, List.getElem?_eq_getElem hkx⟩
    have hrx := Hx.out _ _ hs2
    rw [Hn.out] at hrx
    obtain ⟨bx, offx, hA, _, hbx, hrx⟩ := cSl_at hrx (by intro q; rw [q] at hkx; simp at hkx)
    obtain ⟨cs, hcx', hcx⟩ := hrx.get k x hx
    have hknz : (k : Int) < n := by omega
    have h0k : (0 : Int) ≤ k := by omega
    have hsum := sum_step (wt := (fun x : PVar => (1 + x.name.size) + wMany (fun x : ByteArray => 1 + x.size) x.words + 1)) hx
    have hsum2 := sum_take (wt := (fun x : PVar => (1 + x.name.size) + wMany (fun x : ByteArray => 1 + x.size) x.words + 1)) xs (k + 1)
    have hlen2 := hr2.len
    have hL : l.length + (1 + (xs.map (fun x : PVar => (1 + x.name.size) + wMany (fun x : ByteArray => 1 + x.size) x.words + 1)).sum) ≤ 4294967296 := Hl.out
    subst hA
    obtain ⟨x1, ys, x3, x4⟩ := x
    obtain ⟨B, nb, kb, rfl, hnb, hox, hwr⟩ := var_shape2 hcx'
    simp only at hcx hnb hwr hox
    have hnl : nb ≤ 4294967296 := by have := len_wMany (wt := fun x : ByteArray => 1 + x.size) (fun _ => by omega) ys; simp only at hsum; omega
    have Hnb := hidden hnb
    have Hwr := hidden hwr
    clear hnb hwr
    have cx0 := hcx 0 (by decide)
    have cx1 := hcx 1 (by decide)
    have cx2 := hcx 2 (by decide)
    have cx3 := hcx 3 (by decide)
    simp only [show cVar.size = 4 from rfl, Nat.add_zero, List.getElem?_cons_zero, List.getElem?_cons_succ] at cx0 cx1 cx2 cx3
    have Hx2 := hidden hx
    have Hr2 := hidden hr2
    have Hs2 := hidden hs2
    have Hw2 := hidden hw2
    have hg2 := hw2.lt
    have hgn : g ≠ wr.heap.size := by omega
    have w1 := cell_lit hw2.box (j := 1) rfl
    have hbl : l2.length + ((1 + x1.size) + wMany (fun x : ByteArray => 1 + x.size) ys + 1) ≤ 4294967296 := by (try (simp only at hsum)); omega
    clear hrx hcx hx hcx' hr2 hs2 hw2
    cases bad2 with
    | true =>
      go_wp2_with fail
      refine bodyPost_ret (results_none rfl _ _ _) rfl ?_
      exact WrRel.post (Hw2.out.alloc _) (Hs2.out.trans ⟨(Mod.refl _ _).alloc _, .inl rfl⟩) (allRel_bad Hr2.out)
    | false =>
      go_wp2_with fail
      refine (writeVar_calls x1 x3 x4 (by omega) hox.1 hox.2 ys B nb kb F Hnb.out _ g _ l2 false ((cSl cStr).alloc Hwr.out _) hF hnl (Hw2.out.alloc _) hbl).mono ?_
      rintro e1 w3 hp
      obtain ⟨rfl, A3, n3, k3, l3, bad3, hw3, hs3, hr3⟩ := WrRel.ofPost hp
      have Hw3 := hidden hw3
      have Hs3 := hidden (Hs2.out.trans hs3.alloc)
      have Hr3 := hidden (allRel_step Hr2.out Hx2.out hr3)
      clear hp hw3 hs3 hr3
      go_wp2_with fail
      go_roundw
      case rel => exact ⟨k + 1, _, _, _, _, _, by omega, by go_num, Hw3.out, Hs3.out, Hr3.out⟩
      case measure => simp [intOf]; omega
  obtain rfl : k = n := by omega
  have hkn : ¬ (k : Int) < k := by omega
  have Hfin := hidden (WrRel.post hw2 hs2 (allRel_end hr2 (by rw [← Hn.out]; exact Nat.le_refl _)))
  clear hw2 hs2 hr2
  go_wp2_with fail
  go_end0
  exact Hfin.out
set_option maxHeartbeats 1000000 in
theorem allOutcome_calls (m : Int) (M : Nat) (hM : m = (M : Int)) (hm : m ≤ 1000) (A : Option Addr) (n k1 : Nat) (w : World) (F : Fp) (g : Nat) (v : Value) (l : Bytes) (bad : Bool) (xs : List POutc) (hn : n = xs.length) (hrd : (cSl cOutc).rd w F [.slice A n k1] xs) (hF : ∀ b, F b → b < g) (hlen : n ≤ 4294967296)
    (h : IsWr w g v l bad) (hl : l.length + wMany (fun x : POutc => (1 + x.target.size) + 1 + wMany (fun x : PEff => 1 + (1 + x.name.size) + (1 + x.text.size)) x.effects) xs ≤ 4294967296) :
    Calls Tryz.prog 70 #[.pointer (some ⟨g, 0, none⟩), .slice A n k1, .int .i64 m, .func (.func 71) #[] #[]] w (WrPost (okMany M okOutc xs) (eMany eOutc xs) (wMany (fun x : POutc => (1 + x.target.size) + 1 + wMany (fun x : PEff => 1 + (1 + x.name.size) + (1 + x.text.size)) x.effects) xs) g v l bad w) := by
  have Hn := hidden hn
  have hg := h.lt
  have Hw := hidden h
  have Hx : Hid (∀ v' W, WrStep g v v' w W → (cSl cOutc).rd W F [.slice A n k1] xs) := hidden fun v' W hs => (cSl cOutc).keep hrd fun b hb hl => ⟨hs.keep h (hF b hb), hb⟩
  have hl1 : l.length + 1 ≤ 4294967296 := by unfold wMany at hl; omega
  have Hl := hidden hl
  have hby := wbyte_calls n (m + 1) w g v l bad h hl1
  have Hby := hidden hby
  have HM := hidden hM
  have h0m : 0 ≤ m := by omega
  clear hn hrd h hl hby hM
  go_enter Tryz.func70, Tryz.ntmps70
  go_wp2_with fail
  refine Hby.out.mono ?_
  rintro e1 w1 hp
  obtain ⟨rfl, A1, n1, k2, l1, bad1, hw1, hs1, hr1⟩ := WrRel.ofPost hp
  have Hw1 := hidden hw1
  have Hs1 := hidden hs1
  have Hr1 : Hid (AllRel M okOutc eOutc (fun x : POutc => (1 + x.target.size) + 1 + wMany (fun x : PEff => 1 + (1 + x.name.size) + (1 + x.text.size)) x.effects) xs l bad 0 l1 bad1) := hidden (allRel_zero (by rw [HM.out, Hn.out] at hr1; exact hr1))
  clear hp hw1 hs1 hr1 Hby
  go_wp2_with fail
  go_loopw [18] (fun i wr => ∃ k A2 n2 k2 l' bad', k ≤ n ∧ i = .int .i64 (k : Nat) ∧ IsWr wr g (.slice A2 n2 k2) l' bad' ∧ WrStep g v (.slice A2 n2 k2) w wr ∧ AllRel M okOutc eOutc (fun x : POutc => (1 + x.target.size) + 1 + wMany (fun x : PEff => 1 + (1 + x.name.size) + (1 + x.text.size)) x.effects) xs l bad k l' bad') (fun i _ => n - (intOf i).toNat)
  case atStart => exact ⟨0, _, _, _, _, _, Nat.zero_le _, rfl, Hw1.out, Hs1.out, Hr1.out⟩
  obtain ⟨k, A2, n2, k2, l2, bad2, hk, rfl, hw2, hs2, hr2⟩ := hrel
  by_cases hlt : k < n
  case pos =>
    have hkx : k < xs.length := by rw [← Hn.out]; exact hlt
    obtain ⟨x, hx⟩ : ∃ x, xs[k]? = some x := ⟨_, List.getElem?_eq_getElem hkx⟩
    have hrx := Hx.out _ _ hs2
    rw [Hn.out] at hrx
    obtain ⟨bx, offx, hA, _, hbx, hrx⟩ := cSl_at hrx (by intro q; rw [q] at hkx; simp at hkx)
    obtain ⟨cs, hcx', hcx⟩ := hrx.get k x hx
    have hknz : (k : Int) < n := by omega
    have h0k : (0 : Int) ≤ k := by omega
    have hsum := sum_step (wt := (fun x : POutc => (1 + x.target.size) + 1 + wMany (fun x : PEff => 1 + (1 + x.name.size) + (1 + x.text.size)) x.effects)) hx
    have hsum2 := sum_take (wt := (fun x : POutc => (1 + x.target.size) + 1 + wMany (fun x : PEff => 1 + (1 + x.name.size) + (1 + x.text.size)) x.effects)) xs (k + 1)
    have hlen2 := hr2.len
    have hL : l.length + (1 + (xs.map (fun x : POutc => (1 + x.target.size) + 1 + wMany (fun x : PEff => 1 + (1 + x.name.size) + (1 + x.text.size)) x.effects)).sum) ≤ 4294967296 := Hl.out
    subst hA
    obtain ⟨x1, x2, ys⟩ := x
    obtain ⟨B, nb, kb, rfl, hnb, hox1, hox, hwr⟩ := cOutc_iff.1 hcx'
    simp only at hcx hnb hwr hox
    have hnl : nb ≤ 4294967296 := by have := len_wMany (wt := fun x : PEff => 1 + (1 + x.name.size) + (1 + x.text.size)) (fun _ => by omega) ys; simp only at hsum; omega
    have Hnb := hidden hnb
    have Hwr := hidden hwr
    clear hnb hwr
    have cx0 := hcx 0 (by decide)
    have cx1 := hcx 1 (by decide)
    have cx2 := hcx 2 (by decide)
    simp only [show cOutc.size = 3 from rfl, Nat.add_zero, List.getElem?_cons_zero, List.getElem?_cons_succ] at cx0 cx1 cx2
    have Hx2 := hidden hx
    have Hr2 := hidden hr2
    have Hs2 := hidden hs2
    have Hw2 := hidden hw2
    have hg2 := hw2.lt
    have hgn : g ≠ wr.heap.size := by omega
    have w1 := cell_lit hw2.box (j := 1) rfl
    have hbl : l2.length + ((1 + x1.size) + 1 + wMany (fun x : PEff => 1 + (1 + x.name.size) + (1 + x.text.size)) ys) ≤ 4294967296 := by (try (simp only at hsum)); omega
    clear hrx hcx hx hcx' hr2 hs2 hw2
    cases bad2 with
    | true =>
      go_wp2_with fail
      refine bodyPost_ret (results_none rfl _ _ _) rfl ?_
      exact WrRel.post (Hw2.out.alloc _) (Hs2.out.trans ⟨(Mod.refl _ _).alloc _, .inl rfl⟩) (allRel_bad Hr2.out)
    | false =>
      go_wp2_with fail
      refine (writeOutcome_calls x1 x2 ys B nb kb F (by omega) hox.1 hox.2 Hnb.out _ g _ l2 false ((cSl cEff).alloc Hwr.out _) hF hnl (Hw2.out.alloc _) hbl).mono ?_
      rintro e1 w3 hp
      obtain ⟨rfl, A3, n3, k3, l3, bad3, hw3, hs3, hr3⟩ := WrRel.ofPost hp
      have Hw3 := hidden hw3
      have Hs3 := hidden (Hs2.out.trans hs3.alloc)
      have Hr3 := hidden (allRel_step Hr2.out Hx2.out hr3)
      clear hp hw3 hs3 hr3
      go_wp2_with fail
      go_roundw
      case rel => exact ⟨k + 1, _, _, _, _, _, by omega, by go_num, Hw3.out, Hs3.out, Hr3.out⟩
      case measure => simp [intOf]; omega
  obtain rfl : k = n := by omega
  have hkn : ¬ (k : Int) < k := by omega
  have Hfin := hidden (WrRel.post hw2 hs2 (allRel_end hr2 (by rw [← Hn.out]; exact Nat.le_refl _)))
  clear hw2 hs2 hr2
  go_wp2_with fail
  go_end0
  exact Hfin.out
end Go.Proofs.YthgibbekfcenhaaGreatDoor
