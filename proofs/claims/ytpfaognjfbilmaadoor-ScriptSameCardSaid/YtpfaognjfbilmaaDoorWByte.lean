/- The walks of the writer's byte and text. -/
import Derived.Test.YtpfaognjfbilmaaDoorWriter
namespace Go.Proofs.YtpfaognjfbilmaaDoor
open Go.RowKit

theorem IsWr.setBad {w : World} {g : Nat} {v : Value} {l : Bytes} {bad : Bool} (h : IsWr w g v l bad) (B : Bool) : IsWr (w.setCell ⟨g, 1, none⟩ (.bool B)) g v l B :=
  ⟨set_lit h.box 1 _, h.own.mod ((Mod.refl (· = g) w).set1 1 _) (fun k hk q => by have := h.own.blk k hk; omega) fun _ q => q.elim⟩
/-- .. and its bytes' row stored anew. -/
theorem IsWr.byte_end {w w3 : World} {g : Nat} {v : Value} {l l3 : Bytes} {bad B : Bool} {u : Value} (_h : IsWr w g v l bad) (hb : w3.heap[g]? = some (.cells #[v, .bool B] 105 (0, 0))) (ho : Own cU8 5 w3 (g + 1) (fun _ => False) u l3) :
    IsWr (w3.setCell ⟨g, 0, none⟩ u) g u l3 B :=
  ⟨set_lit hb 0 _, ho.mod ((Mod.refl (· = g) w3).set1 0 _) (fun k hk q => by have := ho.blk k hk; omega) fun _ q => q.elim⟩
theorem IsWr.byte_step {w w3 : World} {g : Nat} {v u : Value} {l : Bytes} {bad B : Bool} (_h : IsWr w g v l bad) (hm : Mod (fun k => some k = v.ownBlock) (w.setCell ⟨g, 1, none⟩ (.bool B)) w3)
    (hat : u.ownBlock = v.ownBlock ∨ ∃ b, u.ownBlock = some b ∧ (w.setCell ⟨g, 1, none⟩ (.bool B)).heap.size ≤ b) : WrStep g v u w (w3.setCell ⟨g, 0, none⟩ u) := by
  have h1 : Mod (· = g) w (w.setCell ⟨g, 1, none⟩ (.bool B)) := (Mod.refl (· = g) w).set1 1 _
  have h2 : Mod (· = g) w3 (w3.setCell ⟨g, 0, none⟩ u) := (Mod.refl (· = g) w3).set1 0 _
  refine ⟨((h1.mono fun _ _ q => Or.inl q).trans' hm fun _ _ q => Or.inr q).trans' h2 fun _ _ q => Or.inl q, hat.imp id fun ⟨b, e, q⟩ => ⟨b, e, Nat.le_trans h1.size q⟩⟩
theorem byteOf_int (n : Int) : ((byteOf n).toNat : Int) = n % 256 := by
  unfold byteOf
  rw [UInt8.toNat_ofNat']
  omega

set_option maxHeartbeats 1000000 in
theorem wbyte_calls (n m : Int) (w : World) (g : Nat) (v : Value) (l : Bytes) (bad : Bool) (h : IsWr w g v l bad) (hl : l.length + 1 ≤ 4294967296) :
    Calls Tryd.prog 83 #[.pointer (some ⟨g, 0, none⟩), .int .i64 n, .int .i64 m] w (WrPost (okNum m n) (eNum n) 1 g v l bad w) := by
  have hT : SlT Tryd.prog 22 5 cU8.size := slT_of (by kernel_rfl)
  have Hw := hidden h
  have Hy : Hid (∀ W : World, cU8.rd W (fun _ => False) (Value.int .u8 (n % 256)).cells.toList (byteOf n)) := hidden fun W => by
    show [Value.int .u8 (n % 256)] = [Value.int .u8 ((byteOf n).toNat : Int)]
    rw [byteOf_int]
  obtain ⟨A, nv, kv, rfl⟩ := h.own.shape'
  have hb := h.box
  have hg := h.lt
  have c0 := cell_lit hb (j := 0) rfl
  have c1 := cell_lit hb (j := 1) rfl
  have f0 := free_lit hb 0
  have f1 := free_lit hb 1
  have Hb := hidden hb
  clear h hb
  cases bad with
  | true =>
    have Hw1 : Hid (IsWr (w.setCell ⟨g, 1, none⟩ (.bool true)) g (.slice A nv kv) l true) := hidden (Hw.out.setBad true)
    have hlt1 : g < (World.heap (w.setCell ⟨g, 1, none⟩ (.bool true))).size := Hw1.out.lt
    go_enter Tryd.func83, Tryd.ntmps83
    go_wp2_with ((with_reducible refine wpList_app1s (o := ⟨some 29, _, _, _, _, _⟩) (c := cU8) (d := 29) (s := .tmp 26) (x := .tmp 28) (v := (.slice A nv kv)) (y := .int .u8 (n % 256)) hT (Hy.out _) Hw1.out.own (fun _ q _ => q.elim) ?_ ?_ ?_ ?_); exact hlt1; exact hl; exact ⟨⟨rfl, rfl, rfl, rfl, rfl⟩, rfl, rfl, rfl⟩; intro v1 w3 hO3 hm3 hat; obtain ⟨Av, n3, k3, rfl⟩ := hO3.shape'; have hb3 := hm3.heap Hw1.out.box (fun q => by have := Hw1.out.own.blk _ q.symm; omega); have e0 := cell_lit hb3 (j := 0) rfl; have d0 := free_lit hb3 0; have Hb3 := hidden hb3; have HO3 := hidden hO3; have Hm3 := hidden hm3; have Hat := hidden hat; clear hb3 hO3 hm3 hat)
    refine bodyPost_end (results_none rfl _ _ _) rfl ?_
    exact ⟨rfl, _, _, true, Hw.out.byte_end Hb3.out HO3.out, Hw.out.byte_step Hm3.out Hat.out, rfl, (fun q => by cases q), by rw [List.length_append]; exact Nat.le_refl _⟩
  | false =>
    by_cases h1 : n < 0
    · have Hok : Hid (okNum m n = false) := hidden (by simp only [okNum, Bool.and_eq_false_iff, decide_eq_false_iff_not]; omega)
      have d1 : decide (n < 0) = true := decide_eq_true h1
      have Hw1 : Hid (IsWr (w.setCell ⟨g, 1, none⟩ (.bool true)) g (.slice A nv kv) l true) := hidden (Hw.out.setBad true)
      have hlt1 : g < (World.heap (w.setCell ⟨g, 1, none⟩ (.bool true))).size := Hw1.out.lt
      go_enter Tryd.func83, Tryd.ntmps83
      go_wp2_with ((with_reducible refine wpList_app1s (o := ⟨some 29, _, _, _, _, _⟩) (c := cU8) (d := 29) (s := .tmp 26) (x := .tmp 28) (v := (.slice A nv kv)) (y := .int .u8 (n % 256)) hT (Hy.out _) Hw1.out.own (fun _ q _ => q.elim) ?_ ?_ ?_ ?_); exact hlt1; exact hl; exact ⟨⟨rfl, rfl, rfl, rfl, rfl⟩, rfl, rfl, rfl⟩; intro v1 w3 hO3 hm3 hat; obtain ⟨Av, n3, k3, rfl⟩ := hO3.shape'; have hb3 := hm3.heap Hw1.out.box (fun q => by have := Hw1.out.own.blk _ q.symm; omega); have e0 := cell_lit hb3 (j := 0) rfl; have d0 := free_lit hb3 0; have Hb3 := hidden hb3; have HO3 := hidden hO3; have Hm3 := hidden hm3; have Hat := hidden hat; clear hb3 hO3 hm3 hat)
      refine bodyPost_end (results_none rfl _ _ _) rfl ?_
      exact ⟨rfl, _, _, true, Hw.out.byte_end Hb3.out HO3.out, Hw.out.byte_step Hm3.out Hat.out, by rw [Hok.out]; rfl, (fun q => by cases q), by rw [List.length_append]; exact Nat.le_refl _⟩
    · by_cases h2 : m ≤ n
      · have Hok : Hid (okNum m n = false) := hidden (by simp only [okNum, Bool.and_eq_false_iff, decide_eq_false_iff_not]; omega)
        have d1 : decide (n < 0) = false := decide_eq_false h1
        have d2 : decide (m ≤ n) = true := decide_eq_true h2
        have Hw1 : Hid (IsWr (w.setCell ⟨g, 1, none⟩ (.bool true)) g (.slice A nv kv) l true) := hidden (Hw.out.setBad true)
        have hlt1 : g < (World.heap (w.setCell ⟨g, 1, none⟩ (.bool true))).size := Hw1.out.lt
        go_enter Tryd.func83, Tryd.ntmps83
        go_wp2_with ((with_reducible refine wpList_app1s (o := ⟨some 29, _, _, _, _, _⟩) (c := cU8) (d := 29) (s := .tmp 26) (x := .tmp 28) (v := (.slice A nv kv)) (y := .int .u8 (n % 256)) hT (Hy.out _) Hw1.out.own (fun _ q _ => q.elim) ?_ ?_ ?_ ?_); exact hlt1; exact hl; exact ⟨⟨rfl, rfl, rfl, rfl, rfl⟩, rfl, rfl, rfl⟩; intro v1 w3 hO3 hm3 hat; obtain ⟨Av, n3, k3, rfl⟩ := hO3.shape'; have hb3 := hm3.heap Hw1.out.box (fun q => by have := Hw1.out.own.blk _ q.symm; omega); have e0 := cell_lit hb3 (j := 0) rfl; have d0 := free_lit hb3 0; have Hb3 := hidden hb3; have HO3 := hidden hO3; have Hm3 := hidden hm3; have Hat := hidden hat; clear hb3 hO3 hm3 hat)
        refine bodyPost_end (results_none rfl _ _ _) rfl ?_
        exact ⟨rfl, _, _, true, Hw.out.byte_end Hb3.out HO3.out, Hw.out.byte_step Hm3.out Hat.out, by rw [Hok.out]; rfl, (fun q => by cases q), by rw [List.length_append]; exact Nat.le_refl _⟩
      · have Hok : Hid (okNum m n = true) := hidden (by simp only [okNum, Bool.and_eq_true, decide_eq_true_eq]; omega)
        have d1 : decide (n < 0) = false := decide_eq_false h1
        have d2 : decide (m ≤ n) = false := decide_eq_false h2
        have Hw1 : Hid (IsWr (w.setCell ⟨g, 1, none⟩ (.bool false)) g (.slice A nv kv) l false) := hidden (Hw.out.setBad false)
        have hlt1 : g < (World.heap (w.setCell ⟨g, 1, none⟩ (.bool false))).size := Hw1.out.lt
        go_enter Tryd.func83, Tryd.ntmps83
        go_wp2_with ((with_reducible refine wpList_app1s (o := ⟨some 29, _, _, _, _, _⟩) (c := cU8) (d := 29) (s := .tmp 26) (x := .tmp 28) (v := (.slice A nv kv)) (y := .int .u8 (n % 256)) hT (Hy.out _) Hw1.out.own (fun _ q _ => q.elim) ?_ ?_ ?_ ?_); exact hlt1; exact hl; exact ⟨⟨rfl, rfl, rfl, rfl, rfl⟩, rfl, rfl, rfl⟩; intro v1 w3 hO3 hm3 hat; obtain ⟨Av, n3, k3, rfl⟩ := hO3.shape'; have hb3 := hm3.heap Hw1.out.box (fun q => by have := Hw1.out.own.blk _ q.symm; omega); have e0 := cell_lit hb3 (j := 0) rfl; have d0 := free_lit hb3 0; have Hb3 := hidden hb3; have HO3 := hidden hO3; have Hm3 := hidden hm3; have Hat := hidden hat; clear hb3 hO3 hm3 hat)
        refine bodyPost_end (results_none rfl _ _ _) rfl ?_
        exact ⟨rfl, _, _, false, Hw.out.byte_end Hb3.out HO3.out, Hw.out.byte_step Hm3.out Hat.out, by rw [Hok.out]; rfl, (fun _ => rfl), by rw [List.length_append]; exact Nat.le_refl _⟩
end Go.Proofs.YtpfaognjfbilmaaDoor
