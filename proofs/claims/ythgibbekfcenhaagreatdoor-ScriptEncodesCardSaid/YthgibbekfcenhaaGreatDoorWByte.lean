/- The walks of the writer's byte and text. -/
import Derived.Test.YthgibbekfcenhaaGreatDoorWriter
namespace Go.Proofs.YthgibbekfcenhaaGreatDoor
open Go.RowKit

theorem IsWr.setBad {w : World} {g : Nat} {v : Value} {l : Bytes} {bad : Bool} (h : IsWr w g v l bad) (B : Bool) : IsWr (w.setCell ⟨g, 1, none⟩ (.bool B)) g v l B :=
  ⟨set_lit h.box 1 _, h.own.mod ((Mod.refl (· = g) w).set1 1 _) (fun k hk q => by have := h.own.blk k hk; omega) fun _ q => q.elim⟩
/-- .. and its bytes' row stored anew. -/
theorem IsWr.byte_end {w w3 : World} {g : Nat} {v : Value} {l l3 : Bytes} {bad B : Bool} {u : Value} (_h : IsWr w g v l bad) (hb : w3.heap[g]? = some (.cells #[v, .bool B] 85 (0, 0))) (ho : Own cU8 5 w3 (g + 1) (fun _ => False) u l3) :
    IsWr (w3.setCell ⟨g, 0, none⟩ u) g u l3 B :=
  ⟨set_lit hb 0 _, ho.mod ((Mod.refl (· = g) w3).set1 0 _) (fun k hk q => by have := ho.blk k hk; omega) fun _ q => q.elim⟩
theorem IsWr.byte_step {w w3 : World} {g : Nat} {v u : Value} {l : Bytes} {bad B : Bool} (_h : IsWr w g v l bad) (hm : Mod (fun k => some k = v.ownBlock) (w.setCell ⟨g, 1, none⟩ (.bool B)) w3)
    (hat : u.ownBlock = v.ownBlock ∨ ∃ b, u.ownBlock = some b ∧ (w.setCell ⟨g, 1, none⟩ (.bool B)).heap.size ≤ b) : WrStep g v u w (w3.setCell ⟨g, 0, none⟩ u) := by
  have h1 : Mod (· = g) w (w.setCell ⟨g, 1, none⟩ (.bool B)) := (Mod.refl (· = g) w).set1 1 _
  have h2 : Mod (· = g) w3 (w3.setCell ⟨g, 0, none⟩ u) := (Mod.refl (· = g) w3).set1 0 _
  refine ⟨((h1.mono fun _ _ q => Or.inl q).trans' hm fun _ _ q => Or.inr q).trans' h2 fun _ _ q => Or.inl q, hat.imp id fun ⟨b, e, q⟩ => ⟨b, e, Nat.le_trans h1.size q⟩⟩
theorem byteOf_int (n : Int) : ((byteOf n).toNat : Int) = n % 256 := by
  unfold byteOf
  rw [UInt8.toNat_ofNat']
  omega

set_option maxHeartbeats 1000000 in
theorem wbyte_calls (n m : Int) (w : World) (g : Nat) (v : Value) (l : Bytes) (bad : Bool) (h : IsWr w g v l bad) (hl : l.length + 1 ≤ 4294967296) :
    Calls Tryz.prog 91 #[.pointer (some ⟨g, 0, none⟩), .int .i64 n, .int .i64 m] w (WrPost (okNum m n) (eNum n) 1 g v l bad w) := by
  have hT : SlT Tryz.prog 46 5 cU8.size := slT_of (by kernel_rfl)
  have Hw := hidden h
  have Hy : Hid (∀ W : World, cU8.rd W (fun _ => False) (Value.int .u8 (n % 256)).cells.toList (byteOf n)) := hidden fun W => by
    show [Value.int .u8 (n % 256)] = [Value.int .u8 ((byteOf n).toNat : Int)]
    rw [byteOf_int]
  obtain ⟨A, nv, kv, rfl⟩ := h.own.shape'
  have hb := h.box
  have hg := h.lt
  have c0 := cell_lit hb (j := 0) rfl
  have c1 := cell_lit hb (j := 1) rfl
  have f0 := free_lit hb 0
  have f1 := free_lit hb 1
  have Hb := hidden hb
  clear h hb
  cases bad with
  | true =>
    have Hw1 : Hid (IsWr (w.setCell ⟨g, 1, none⟩ (.bool true)) g (.slice A nv kv) l true) := hidden (Hw.out.setBad true)
    have hlt1 : g < (World.heap (w.setCell ⟨g, 1, none⟩ (.bool true))).size := Hw1.out.lt
    go_enter Tryz.func91, Tryz.ntmps91
    go_wp2_with ((with_reducible refine wpList_app1s (o := ⟨some 29, _, _, _, _, _⟩) (c := cU8) (d := 29) (s := .tmp 26) (x := .tmp 28) (v := (.slice A nv kv)) (y := .int .u8 (n % 256)) hT (Hy.out _) Hw1.out.own (fun _ q _ => q.elim) ?_ ?_ ?_ ?_); exact hlt1; exact hl; exact ⟨⟨rfl, rfl, rfl, rfl, rfl⟩, rfl, rfl, rfl⟩; intro v1 w3 hO3 hm3 hat; obtain ⟨Av, n3, k3, rfl⟩ := hO3.shape'; have hb3 := hm3.heap Hw1.out.box (fun q => by have := Hw1.out.own.blk _ q.symm; omega); have e0 := cell_lit hb3 (j := 0) rfl; have d0 := free_lit hb3 0; have Hb3 := hidden hb3; have HO3 := hidden hO3; have Hm3 := hidden hm3; have Hat := hidden hat; clear hb3 hO3 hm3 hat)
    refine bodyPost_end (results_none rfl _ _ _) rfl ?_
    exact ⟨rfl, _, _, true, Hw.out.byte_end Hb3.out HO3.out, Hw.out.byte_step Hm3.out Hat.out, rfl, (fun q => by cases q), by rw [List.length_append]; exact Nat.le_refl _⟩
  | false =>
    by_cases h1 : n < 0
    · have Hok : Hid (okNum m n = false) := hidden (by simp only [okNum, Bool.and_eq_false_iff, decide_eq_false_iff_not]; omega)
      have d1 : decide (n < 0) = true := decide_eq_true h1
      have Hw1 : Hid (IsWr (w.setCell ⟨g, 1, none⟩ (.bool true)) g (.slice A nv kv) l true) := hidden (Hw.out.setBad true)
      have hlt1 : g < (World.heap (w.setCell ⟨g, 1, none⟩ (.bool true))).size := Hw1.out.lt
      go_enter Tryz.func91, Tryz.ntmps91
      go_wp2_with ((with_reducible refine wpList_app1s (o := ⟨some 29, _, _, _, _, _⟩) (c := cU8) (d := 29) (s := .tmp 26) (x := .tmp 28) (v := (.slice A nv kv)) (y := .int .u8 (n % 256)) hT (Hy.out _) Hw1.out.own (fun _ q _ => q.elim) ?_ ?_ ?_ ?_); exact hlt1; exact hl; exact ⟨⟨rfl, rfl, rfl, rfl, rfl⟩, rfl, rfl, rfl⟩; intro v1 w3 hO3 hm3 hat; obtain ⟨Av, n3, k3, rfl⟩ := hO3.shape'; have hb3 := hm3.heap Hw1.out.box (fun q => by have := Hw1.out.own.blk _ q.symm; omega); have e0 := cell_lit hb3 (j := 0) rfl; have d0 := free_lit hb3 0; have Hb3 := hidden hb3; have HO3 := hidden hO3; have Hm3 := hidden hm3; have Hat := hidden hat; clear hb3 hO3 hm3 hat)
      refine bodyPost_end (results_none rfl _ _ _) rfl ?_
      exact ⟨rfl, _, _, true, Hw.out.byte_end Hb3.out HO3.out, Hw.out.byte_step Hm3.out Hat.out, by rw [Hok.out]; rfl, (fun q => by cases q), by rw [List.length_append]; exact Nat.le_refl _⟩
    · by_cases h2 : m ≤ n
      · have Hok : Hid (okNum m n = false) := hidden (by simp only [okNum, Bool.and_eq_false_iff, decide_eq_false_iff_not]; omega)
        have d1 : decide (n < 0) = false := decide_eq_false h1
        have d2 : decide (m ≤ n) = true := decide_eq_true h2
        have Hw1 : Hid (IsWr (w.setCell ⟨g, 1, none⟩ (.bool true)) g (.slice A nv kv) l true) := hidden (Hw.out.setBad true)
        have hlt1 : g < (World.heap (w.setCell ⟨g, 1, none⟩ (.bool true))).size := Hw1.out.lt
        go_enter Tryz.func91, Tryz.ntmps91
        go_wp2_with ((with_reducible refine wpList_app1s (o := ⟨some 29, _, _, _, _, _⟩) (c := cU8) (d := 29) (s := .tmp 26) (x := .tmp 28) (v := (.slice A nv kv)) (y := .int .u8 (n % 256)) hT (Hy.out _) Hw1.out.own (fun _ q _ => q.elim) ?_ ?_ ?_ ?_); exact hlt1; exact hl; exact ⟨⟨rfl, rfl, rfl, rfl, rfl⟩, rfl, rfl, rfl⟩; intro v1 w3 hO3 hm3 hat; obtain ⟨Av, n3, k3, rfl⟩ := hO3.shape'; have hb3 := hm3.heap Hw1.out.box (fun q => by have := Hw1.out.own.blk _ q.symm; omega); have e0 := cell_lit hb3 (j := 0) rfl; have d0 := free_lit hb3 0; have Hb3 := hidden hb3; have HO3 := hidden hO3; have Hm3 := hidden hm3; have Hat := hidden hat; clear hb3 hO3 hm3 hat)
        refine bodyPost_end (results_none rfl _ _ _) rfl ?_
        exact ⟨rfl, _, _, true, Hw.out.byte_end Hb3.out HO3.out, Hw.out.byte_step Hm3.out Hat.out, by rw [Hok.out]; rfl, (fun q => by cases q), by rw [List.length_append]; exact Nat.le_refl _⟩
      · have Hok : Hid (okNum m n = true) := hidden (by simp only [okNum, Bool.and_eq_true, decide_eq_true_eq]; omega)
        have d1 : decide (n < 0) = false := decide_eq_false h1
        have d2 : decide (m ≤ n) = false := decide_eq_false h2
        have Hw1 : Hid (IsWr (w.setCell ⟨g, 1, none⟩ (.bool false)) g (.slice A nv kv) l false) := hidden (Hw.out.setBad false)
        have hlt1 : g < (World.heap (w.setCell ⟨g, 1, none⟩ (.bool false))).size := Hw1.out.lt
        go_enter Tryz.func91, Tryz.ntmps91
        go_wp2_with ((with_reducible refine wpList_app1s (o := ⟨some 29, _, _, _, _, _⟩) (c := cU8) (d := 29) (s := .tmp 26) (x := .tmp 28) (v := (.slice A nv kv)) (y := .int .u8 (n % 256)) hT (Hy.out _) Hw1.out.own (fun _ q _ => q.elim) ?_ ?_ ?_ ?_); exact hlt1; exact hl; exact ⟨⟨rfl, rfl, rfl, rfl, rfl⟩, rfl, rfl, rfl⟩; intro v1 w3 hO3 hm3 hat; obtain ⟨Av, n3, k3, rfl⟩ := hO3.shape'; have hb3 := hm3.heap Hw1.out.box (fun q => by have := Hw1.out.own.blk _ q.symm; omega); have e0 := cell_lit hb3 (j := 0) rfl; have d0 := free_lit hb3 0; have Hb3 := hidden hb3; have HO3 := hidden hO3; have Hm3 := hidden hm3; have Hat := hidden hat; clear hb3 hO3 hm3 hat)
        refine bodyPost_end (results_none rfl _ _ _) rfl ?_
        exact ⟨rfl, _, _, false, Hw.out.byte_end Hb3.out HO3.out, Hw.out.byte_step Hm3.out Hat.out, by rw [Hok.out]; rfl, (fun _ => rfl), by rw [List.length_append]; exact Nat.le_refl _⟩
end Go.Proofs.YthgibbekfcenhaaGreatDoor
namespace Go.Proofs.YthgibbekfcenhaaGreatDoor
open Go.RowKit

theorem IsWr.text_step {w w3 : World} {g : Nat} {v u : Value} {l : Bytes} {bad : Bool} (_h : IsWr w g v l bad) (hm : Mod (fun k => some k = v.ownBlock) w w3)
    (hat : u.ownBlock = v.ownBlock ∨ ∃ b, u.ownBlock = some b ∧ w.heap.size ≤ b) : WrStep g v u w (w3.setCell ⟨g, 0, none⟩ u) := by
  have h2 : Mod (· = g) w3 (w3.setCell ⟨g, 0, none⟩ u) := (Mod.refl (· = g) w3).set1 0 _
  exact ⟨(hm.mono fun _ _ q => Or.inr q).trans' h2 fun _ _ q => Or.inl q, hat⟩

def strTB (P : Program) (t u e : TypeId) : Bool :=
  (match P.underlying t with | some (.slice e') => e' == e | _ => false) && ((match P.underlying u with | some .string => true | _ => false) &&
  (match P.info? e with | some i => (match i.zero with | some (.int .u8 n) => n == 0 | _ => false) && (i.size == 1 && i.bytes == 1) | none => false))
theorem strT_of {P : Program} {t u e : TypeId} (h : strTB P t u e = true) : P.underlying t = some (.slice e) ∧ P.underlying u = some .string ∧ ∃ i, P.info? e = some i ∧ i.zero = some (.int .u8 0) ∧ i.size = 1 ∧ i.bytes = 1 := by
  unfold strTB at h
  simp only [Bool.and_eq_true] at h
  obtain ⟨h1, h2, h3⟩ := h
  refine ⟨?_, ?_, ?_⟩
  · split at h1
    · rename_i q; rw [q]; simp at h1; rw [h1]
    · cases h1
  · split at h2
    · rename_i q; exact q
    · cases h2
  · split at h3
    · rename_i i q
      rw [Bool.and_eq_true] at h3
      obtain ⟨h4, h5⟩ := h3
      simp only [Bool.and_eq_true, beq_iff_eq] at h5
      refine ⟨i, q, ?_, h5.1, h5.2⟩
      split at h4
      · rename_i n qz; rw [qz]; simp at h4; rw [h4]
      · cases h4
    · cases h3

set_option maxHeartbeats 1000000 in
theorem wtext_calls (s : ByteArray) (m : Int) (M : Nat) (hM : m = (M : Int)) (hm : m ≤ 1000) (hs : s.size ≤ 4294967296) (w : World) (g : Nat) (v : Value) (l : Bytes) (bad : Bool) (h : IsWr w g v l bad) (hl : l.length + (1 + s.size) ≤ 4294967296) :
    Calls Tryz.prog 92 #[.pointer (some ⟨g, 0, none⟩), .string s, .int .i64 m] w (WrPost (okText M s) (eText s) (1 + s.size) g v l bad w) := by
  have hT := strT_of (P := Tryz.prog) (t := 46) (u := 9) (e := 5) (by kernel_rfl)
  have h0m : 0 ≤ m := by omega
  have Hok : Hid (okNum (m + 1) s.size = okText M s) := hidden (by
    simp only [okNum, okText]
    by_cases q : s.size ≤ M
    · rw [decide_eq_true (by omega), decide_eq_true (by omega), decide_eq_true q]; rfl
    · rw [decide_eq_true (by omega), decide_eq_false (by omega), decide_eq_false q]; rfl)
  have Hw := hidden h
  have hg := h.lt
  clear h hM
  go_enter Tryz.func92, Tryz.ntmps92
  go_wp2_with (first | (go_at_call 91; (with_reducible refine (wbyte_calls _ _ _ _ _ _ _ Hw.out ?_).mono ?_); omega; rintro e w2 ⟨rfl, v2, l2, bad2, hw2, hs2, hbad, heq, hlen⟩; obtain ⟨A2, n2, k2, rfl⟩ := hw2.own.shape'; have c0 := cell_lit hw2.box (j := 0) rfl; have f0 := free_lit hw2.box 0; have hg2 := hw2.lt; have Hw2 := hidden hw2; have Hs2 := hidden hs2; have Hbad := hidden hbad; have Heq := hidden heq; clear hw2 hs2 hbad heq) | ((with_reducible refine wpList_app_str (o := ⟨some 18, _, _, _, _, _⟩) (sl := .tmp 16) (x := .tmp 17) (s := s) hT Hw2.out.own ?_ ?_ ?_ ?_); exact hg2; omega; exact ⟨⟨rfl, rfl⟩, rfl, rfl⟩; intro v1 w3 hO3 hm3 hat; obtain ⟨Av, n3, k3, rfl⟩ := hO3.shape'; have hb3 := hm3.heap Hw2.out.box (fun q => by have := Hw2.out.own.blk _ q.symm; omega); have e0 := cell_lit hb3 (j := 0) rfl; have d0 := free_lit hb3 0; have Hb3 := hidden hb3; have HO3 := hidden hO3; have Hm3 := hidden hm3; have Hat := hidden hat; clear hb3 hO3 hm3 hat))
  refine bodyPost_end (results_none rfl _ _ _) rfl ?_
  refine ⟨rfl, _, _, bad2, Hw2.out.byte_end Hb3.out HO3.out, Hs2.out.trans (Hw2.out.text_step Hm3.out Hat.out), by rw [Hbad.out, Hok.out], (fun q => ?_), ?_⟩
  · rw [Heq.out q]
    simp [eText, eNum]
  · rw [List.length_append, Array.length_toList]
    show l2.length + s.size ≤ _
    omega
end Go.Proofs.YthgibbekfcenhaaGreatDoor
namespace Go.Proofs.YthgibbekfcenhaaGreatDoor
open Go.RowKit

theorem writeWord_calls (s : ByteArray) (hs : s.size ≤ 4294967296) (w : World) (g : Nat) (v : Value) (l : Bytes) (bad : Bool) (h : IsWr w g v l bad) (hl : l.length + (1 + s.size) ≤ 4294967296) :
    Calls Tryz.prog 93 #[.pointer (some ⟨g, 0, none⟩), .string s] w (WrPost (okText 12 s) (eText s) (1 + s.size) g v l bad w) := by
  have Hc := hidden (wtext_calls s 12 12 rfl (by decide) hs w g v l bad h hl)
  clear h hl hs
  go_enter Tryz.func93, Tryz.ntmps93
  go_wp2_with fail
  refine Hc.out.mono ?_
  rintro e w1 ⟨rfl, h1⟩
  have H1 := hidden h1
  clear h1
  go_wp2_with fail
  go_end0
  exact ⟨rfl, H1.out⟩
theorem writeArg_calls (s : ByteArray) (hs : s.size ≤ 4294967296) (w : World) (g : Nat) (v : Value) (l : Bytes) (bad : Bool) (h : IsWr w g v l bad) (hl : l.length + (1 + s.size) ≤ 4294967296) :
    Calls Tryz.prog 75 #[.pointer (some ⟨g, 0, none⟩), .string s] w (WrPost (okText 20 s) (eText s) (1 + s.size) g v l bad w) := by
  have Hc := hidden (wtext_calls s 20 20 rfl (by decide) hs w g v l bad h hl)
  clear h hl hs
  go_enter Tryz.func75, Tryz.ntmps75
  go_wp2_with fail
  refine Hc.out.mono ?_
  rintro e w1 ⟨rfl, h1⟩
  have H1 := hidden h1
  clear h1
  go_wp2_with fail
  go_end0
  exact ⟨rfl, H1.out⟩
theorem writePick_calls (n : Int) (w : World) (g : Nat) (v : Value) (l : Bytes) (bad : Bool) (h : IsWr w g v l bad) (hl : l.length + 1 ≤ 4294967296) :
    Calls Tryz.prog 77 #[.pointer (some ⟨g, 0, none⟩), .int .i64 n] w (WrPost (okNum 256 n) (eNum n) 1 g v l bad w) := by
  have Hc := hidden (wbyte_calls n 256 w g v l bad h hl)
  clear h hl
  go_enter Tryz.func77, Tryz.ntmps77
  go_wp2_with fail
  refine Hc.out.mono ?_
  rintro e w1 ⟨rfl, h1⟩
  have H1 := hidden h1
  clear h1
  go_wp2_with fail
  go_end0
  exact ⟨rfl, H1.out⟩

/-- A block behind the writer's own row, other than it, is kept. -/
theorem WrStep.box {g : Nat} {v v' : Value} {w w' : World} {k : Nat} {ob : Obj} (h : WrStep g v v' w w') (hk : w.heap[k]? = some ob) (hg : k ≠ g) (ho : some k ≠ v.ownBlock) : w'.heap[k]? = some ob :=
  h.mod.heap hk (by rintro (q | q); exact hg q; exact ho q)
theorem WrStep.other {g : Nat} {v v' : Value} {w w' : World} {k : Nat} (h : WrStep g v v' w w') (hk : k < w.heap.size) (ho : some k ≠ v.ownBlock) : some k ≠ v'.ownBlock := by
  rcases h.lies with e | ⟨b, e, hb⟩
  · rw [e]; exact ho
  · rw [e]; intro q; have := Option.some.inj q; omega
theorem setBad_step {w : World} {g : Nat} {v : Value} (B : Bool) : WrStep g v v w (w.setCell ⟨g, 1, none⟩ (.bool B)) :=
  ⟨((Mod.refl (· = g) w).set1 1 _).mono fun _ _ q => .inl q, .inl rfl⟩

set_option maxHeartbeats 1000000 in
theorem writeOutput_calls (x : POut) (hx : x.command.size ≤ 4294967296 ∧ x.text.size ≤ 4294967296) (w : World) (g : Nat) (v : Value) (l : Bytes) (bad : Bool) (h : IsWr w g v l bad) (hl : l.length + ((1 + x.command.size) + (1 + x.text.size)) ≤ 4294967296) :
    Calls Tryz.prog 69 #[.pointer (some ⟨g, 0, none⟩), .agg #[.string x.command, .string x.text]] w (WrPost (okOut x) (eOut x) ((1 + x.command.size) + (1 + x.text.size)) g v l bad w) := by
  obtain ⟨x1, x2⟩ := x
  simp only at *
  have Hw := hidden (h.alloc (.cells #[.string x1, .string x2] 109))
  have hg := h.lt
  have hne : some w.heap.size ≠ v.ownBlock := fun q => by have := h.own.blk _ q.symm; omega
  obtain ⟨hx1, hx2⟩ := hx
  clear h
  go_enter Tryz.func69, Tryz.ntmps69
  go_wp2_with fail
  refine (wtext_calls x1 12 12 rfl (by decide) hx1 _ g v l bad Hw.out (by omega)).mono ?_
  rintro e w2 ⟨rfl, v2, l2, bad2, hw2, hs2, hbad2, heq2, hlen2⟩
  have hb2 := hs2.box (heap_alloc_new _ _) (by omega) hne
  have c1 := cell_lit hb2 (j := 1) rfl
  have Hw2 := hidden hw2
  have Hs2 := hidden hs2
  have Hbad2 := hidden hbad2
  have Heq2 := hidden heq2
  clear hw2 hs2 hbad2 heq2 hb2
  go_wp2_with fail
  refine (wtext_calls x2 60 60 rfl (by decide) hx2 _ g v2 l2 bad2 Hw2.out (by omega)).mono ?_
  rintro e w3 ⟨rfl, v3, l3, bad3, hw3, hs3, hbad3, heq3, hlen3⟩
  have Hfin : Hid (WrPost (okOut ⟨x1, x2⟩) (eOut ⟨x1, x2⟩) ((1 + x1.size) + (1 + x2.size)) g v l bad w (.returned (.tuple #[])) w3) := hidden (by
    refine ⟨rfl, v3, l3, bad3, hw3, (Hs2.out.alloc).trans hs3, ?_, fun q => ?_, by omega⟩
    · rw [hbad3, Hbad2.out]
      show _ = (bad || !(okText 12 x1 && okText 60 x2))
      cases bad <;> cases okText 12 x1 <;> cases okText 60 x2 <;> rfl
    · rw [q] at hbad3
      have hb2 : bad2 = false := by cases bad2 with | false => rfl | true => cases hbad3
      rw [heq3 q, Heq2.out hb2, List.append_assoc]
      rfl)
  clear hw3 hs3 hbad3 heq3
  go_wp2_with fail
  go_end0
  exact Hfin.out
end Go.Proofs.YthgibbekfcenhaaGreatDoor
