/- The walk of the writer's text. -/
import Derived.Test.YtpfaognjfbilmaaDoorWByte
namespace Go.Proofs.YtpfaognjfbilmaaDoor
open Go.RowKit

theorem IsWr.text_step {w w3 : World} {g : Nat} {v u : Value} {l : Bytes} {bad : Bool} (_h : IsWr w g v l bad) (hm : Mod (fun k => some k = v.ownBlock) w w3)
    (hat : u.ownBlock = v.ownBlock ∨ ∃ b, u.ownBlock = some b ∧ w.heap.size ≤ b) : WrStep g v u w (w3.setCell ⟨g, 0, none⟩ u) := by
  have h2 : Mod (· = g) w3 (w3.setCell ⟨g, 0, none⟩ u) := (Mod.refl (· = g) w3).set1 0 _
  exact ⟨(hm.mono fun _ _ q => Or.inr q).trans' h2 fun _ _ q => Or.inl q, hat⟩

def strTB (P : Program) (t u e : TypeId) : Bool :=
  (match P.underlying t with | some (.slice e') => e' == e | _ => false) && ((match P.underlying u with | some .string => true | _ => false) &&
  (match P.info? e with | some i => (match i.zero with | some (.int .u8 n) => n == 0 | _ => false) && (i.size == 1 && i.bytes == 1) | none => false))
theorem strT_of {P : Program} {t u e : TypeId} (h : strTB P t u e = true) : P.underlying t = some (.slice e) ∧ P.underlying u = some .string ∧ ∃ i, P.info? e = some i ∧ i.zero = some (.int .u8 0) ∧ i.size = 1 ∧ i.bytes = 1 := by
  unfold strTB at h
  simp only [Bool.and_eq_true] at h
  obtain ⟨h1, h2, h3⟩ := h
  refine ⟨?_, ?_, ?_⟩
  · split at h1
    · rename_i q; rw [q]; simp at h1; rw [h1]
    · cases h1
  · split at h2
    · rename_i q; exact q
    · cases h2
  · split at h3
    · rename_i i q
      rw [Bool.and_eq_true] at h3
      obtain ⟨h4, h5⟩ := h3
      simp only [Bool.and_eq_true, beq_iff_eq] at h5
      refine ⟨i, q, ?_, h5.1, h5.2⟩
      split at h4
      · rename_i n qz; rw [qz]; simp at h4; rw [h4]
      · cases h4
    · cases h3

set_option maxHeartbeats 1000000 in
theorem wtext_calls (s : ByteArray) (m : Int) (M : Nat) (hM : m = (M : Int)) (hm : m ≤ 1000) (hs : s.size ≤ 4294967296) (w : World) (g : Nat) (v : Value) (l : Bytes) (bad : Bool) (h : IsWr w g v l bad) (hl : l.length + (1 + s.size) ≤ 4294967296) :
    Calls Tryd.prog 84 #[.pointer (some ⟨g, 0, none⟩), .string s, .int .i64 m] w (WrPost (okText M s) (eText s) (1 + s.size) g v l bad w) := by
  have hT := strT_of (P := Tryd.prog) (t := 22) (u := 9) (e := 5) (by kernel_rfl)
  have h0m : 0 ≤ m := by omega
  have Hok : Hid (okNum (m + 1) s.size = okText M s) := hidden (by
    simp only [okNum, okText]
    by_cases q : s.size ≤ M
    · rw [decide_eq_true (by omega), decide_eq_true (by omega), decide_eq_true q]; rfl
    · rw [decide_eq_true (by omega), decide_eq_false (by omega), decide_eq_false q]; rfl)
  have Hw := hidden h
  have hg := h.lt
  clear h hM
  go_enter Tryd.func84, Tryd.ntmps84
  go_wp2_with (first | (go_at_call 83; (with_reducible refine (wbyte_calls _ _ _ _ _ _ _ Hw.out ?_).mono ?_); omega; rintro e w2 ⟨rfl, v2, l2, bad2, hw2, hs2, hbad, heq, hlen⟩; obtain ⟨A2, n2, k2, rfl⟩ := hw2.own.shape'; have c0 := cell_lit hw2.box (j := 0) rfl; have f0 := free_lit hw2.box 0; have hg2 := hw2.lt; have Hw2 := hidden hw2; have Hs2 := hidden hs2; have Hbad := hidden hbad; have Heq := hidden heq; clear hw2 hs2 hbad heq) | ((with_reducible refine wpList_app_str (o := ⟨some 18, _, _, _, _, _⟩) (sl := .tmp 16) (x := .tmp 17) (s := s) hT Hw2.out.own ?_ ?_ ?_ ?_); exact hg2; omega; exact ⟨⟨rfl, rfl⟩, rfl, rfl⟩; intro v1 w3 hO3 hm3 hat; obtain ⟨Av, n3, k3, rfl⟩ := hO3.shape'; have hb3 := hm3.heap Hw2.out.box (fun q => by have := Hw2.out.own.blk _ q.symm; omega); have e0 := cell_lit hb3 (j := 0) rfl; have d0 := free_lit hb3 0; have Hb3 := hidden hb3; have HO3 := hidden hO3; have Hm3 := hidden hm3; have Hat := hidden hat; clear hb3 hO3 hm3 hat))
  refine bodyPost_end (results_none rfl _ _ _) rfl ?_
  refine ⟨rfl, _, _, bad2, Hw2.out.byte_end Hb3.out HO3.out, Hs2.out.trans (Hw2.out.text_step Hm3.out Hat.out), by rw [Hbad.out, Hok.out], (fun q => ?_), ?_⟩
  · rw [Heq.out q]
    simp [eText, eNum]
  · rw [List.length_append, Array.length_toList]
    show l2.length + s.size ≤ _
    omega
end Go.Proofs.YtpfaognjfbilmaaDoor
