/- The walks of the functions that write one thing. -/
import Derived.Test.YtpfaognjfbilmaaDoorWText
namespace Go.Proofs.YtpfaognjfbilmaaDoor
open Go.RowKit

theorem writeWord_calls (s : ByteArray) (hs : s.size ≤ 4294967296) (w : World) (g : Nat) (v : Value) (l : Bytes) (bad : Bool) (h : IsWr w g v l bad) (hl : l.length + (1 + s.size) ≤ 4294967296) :
    Calls Tryd.prog 85 #[.pointer (some ⟨g, 0, none⟩), .string s] w (WrPost (okText 12 s) (eText s) (1 + s.size) g v l bad w) := by
  have Hc := hidden (wtext_calls s 12 12 rfl (by decide) hs w g v l bad h hl)
  clear h hl hs
  go_enter Tryd.func85, Tryd.ntmps85
  go_wp2_with fail
  refine Hc.out.mono ?_
  rintro e w1 ⟨rfl, h1⟩
  have H1 := hidden h1
  clear h1
  go_wp2_with fail
  go_end0
  exact ⟨rfl, H1.out⟩
theorem writeArg_calls (s : ByteArray) (hs : s.size ≤ 4294967296) (w : World) (g : Nat) (v : Value) (l : Bytes) (bad : Bool) (h : IsWr w g v l bad) (hl : l.length + (1 + s.size) ≤ 4294967296) :
    Calls Tryd.prog 74 #[.pointer (some ⟨g, 0, none⟩), .string s] w (WrPost (okText 20 s) (eText s) (1 + s.size) g v l bad w) := by
  have Hc := hidden (wtext_calls s 20 20 rfl (by decide) hs w g v l bad h hl)
  clear h hl hs
  go_enter Tryd.func74, Tryd.ntmps74
  go_wp2_with fail
  refine Hc.out.mono ?_
  rintro e w1 ⟨rfl, h1⟩
  have H1 := hidden h1
  clear h1
  go_wp2_with fail
  go_end0
  exact ⟨rfl, H1.out⟩
theorem writePick_calls (n : Int) (w : World) (g : Nat) (v : Value) (l : Bytes) (bad : Bool) (h : IsWr w g v l bad) (hl : l.length + 1 ≤ 4294967296) :
    Calls Tryd.prog 76 #[.pointer (some ⟨g, 0, none⟩), .int .i64 n] w (WrPost (okNum 256 n) (eNum n) 1 g v l bad w) := by
  have Hc := hidden (wbyte_calls n 256 w g v l bad h hl)
  clear h hl
  go_enter Tryd.func76, Tryd.ntmps76
  go_wp2_with fail
  refine Hc.out.mono ?_
  rintro e w1 ⟨rfl, h1⟩
  have H1 := hidden h1
  clear h1
  go_wp2_with fail
  go_end0
  exact ⟨rfl, H1.out⟩

/-- A block behind the writer's own row, other than it, is kept. -/
theorem WrStep.box {g : Nat} {v v' : Value} {w w' : World} {k : Nat} {ob : Obj} (h : WrStep g v v' w w') (hk : w.heap[k]? = some ob) (hg : k ≠ g) (ho : some k ≠ v.ownBlock) : w'.heap[k]? = some ob :=
  h.mod.heap hk (by rintro (q | q); exact hg q; exact ho q)
theorem WrStep.other {g : Nat} {v v' : Value} {w w' : World} {k : Nat} (h : WrStep g v v' w w') (hk : k < w.heap.size) (ho : some k ≠ v.ownBlock) : some k ≠ v'.ownBlock := by
  rcases h.lies with e | ⟨b, e, hb⟩
  · rw [e]; exact ho
  · rw [e]; intro q; have := Option.some.inj q; omega
theorem setBad_step {w : World} {g : Nat} {v : Value} (B : Bool) : WrStep g v v w (w.setCell ⟨g, 1, none⟩ (.bool B)) :=
  ⟨((Mod.refl (· = g) w).set1 1 _).mono fun _ _ q => .inl q, .inl rfl⟩

set_option maxHeartbeats 1000000 in
theorem writeOutput_calls (x : POut) (hx : x.command.size ≤ 4294967296 ∧ x.text.size ≤ 4294967296) (w : World) (g : Nat) (v : Value) (l : Bytes) (bad : Bool) (h : IsWr w g v l bad) (hl : l.length + ((1 + x.command.size) + (1 + x.text.size)) ≤ 4294967296) :
    Calls Tryd.prog 68 #[.pointer (some ⟨g, 0, none⟩), .agg #[.string x.command, .string x.text]] w (WrPost (okOut x) (eOut x) ((1 + x.command.size) + (1 + x.text.size)) g v l bad w) := by
  obtain ⟨x1, x2⟩ := x
  simp only at *
  have Hw := hidden (h.alloc (.cells #[.string x1, .string x2] 70))
  have hg := h.lt
  have hne : some w.heap.size ≠ v.ownBlock := fun q => by have := h.own.blk _ q.symm; omega
  obtain ⟨hx1, hx2⟩ := hx
  clear h
  go_enter Tryd.func68, Tryd.ntmps68
  go_wp2_with fail
  refine (wtext_calls x1 12 12 rfl (by decide) hx1 _ g v l bad Hw.out (by omega)).mono ?_
  rintro e w2 ⟨rfl, v2, l2, bad2, hw2, hs2, hbad2, heq2, hlen2⟩
  have hb2 := hs2.box (heap_alloc_new _ _) (by omega) hne
  have c1 := cell_lit hb2 (j := 1) rfl
  have Hw2 := hidden hw2
  have Hs2 := hidden hs2
  have Hbad2 := hidden hbad2
  have Heq2 := hidden heq2
  clear hw2 hs2 hbad2 heq2 hb2
  go_wp2_with fail
  refine (wtext_calls x2 60 60 rfl (by decide) hx2 _ g v2 l2 bad2 Hw2.out (by omega)).mono ?_
  rintro e w3 ⟨rfl, v3, l3, bad3, hw3, hs3, hbad3, heq3, hlen3⟩
  have Hfin : Hid (WrPost (okOut ⟨x1, x2⟩) (eOut ⟨x1, x2⟩) ((1 + x1.size) + (1 + x2.size)) g v l bad w (.returned (.tuple #[])) w3) := hidden (by
    refine ⟨rfl, v3, l3, bad3, hw3, (Hs2.out.alloc).trans hs3, ?_, fun q => ?_, by omega⟩
    · rw [hbad3, Hbad2.out]
      show _ = (bad || !(okText 12 x1 && okText 60 x2))
      cases bad <;> cases okText 12 x1 <;> cases okText 60 x2 <;> rfl
    · rw [q] at hbad3
      have hb2 : bad2 = false := by cases bad2 with | false => rfl | true => cases hbad3
      rw [heq3 q, Heq2.out hb2, List.append_assoc]
      rfl)
  clear hw3 hs3 hbad3 heq3
  go_wp2_with fail
  go_end0
  exact Hfin.out
end Go.Proofs.YtpfaognjfbilmaaDoor
