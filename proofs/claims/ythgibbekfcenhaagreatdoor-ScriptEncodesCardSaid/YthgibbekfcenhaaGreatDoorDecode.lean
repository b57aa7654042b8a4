/- The walk of script.Decode: it answers as the plain law's parser says. -/
import Derived.Test.YthgibbekfcenhaaGreatDoorReadersB
import Derived.Deep.RegionHeld3
namespace Go.Proofs.YthgibbekfcenhaaGreatDoor
open Go.RowKit

/-- What Decode does: its answer is new memory, and reads as c. -/
def CasePost (w : World) (c : PCase) (e : Ending) (w' : World) : Prop :=
  ∃ A1 A2 A3 A4 A5 A6 A7 : Value, e = .returned (.agg #[A1, A2, A3, A4, A5, A6, A7]) ∧ cCase.rd w' (fun b => w.heap.size ≤ b) [A1, A2, A3, A4, A5, A6, A7] c ∧ Below w.heap.size w w'

theorem set_lit {w : World} {b : Nat} {cs : Array Value} {t : TypeId} (h : w.heap[b]? = some (.cells cs t (0, 0))) (j : Nat) (u : Value) : (w.setCell ⟨b, j, none⟩ u).heap[b]? = some (.cells (cs.setIfInBounds j u) t (0, 0)) := by
  simp [World.setCell, Array.getElem?_modify, h]
abbrev nilS : Value := .slice none 0 0
/-- Decode on its way: the reader at the block behind the result's; the world that is filled in block m. -/
structure Stage (w W : World) (m : Nat) (cs : Array Value) (l : Bytes) : Prop where
  rd : IsRd W (fun b => b < w.heap.size) (w.heap.size + 1) l
  mod : Mod (fun _ => False) w W
  size : w.heap.size + 2 ≤ W.heap.size
  far : w.heap.size + 2 ≤ m
  box : W.heap[m]? = some (.cells cs 28 (0, 0))
  res : W.heap[w.heap.size]? = some (.cells #[nilS, nilS, nilS, nilS, nilS, nilS, nilS] 32 (0, 0))
/-- Where what was read lies. -/
abbrev Far (w : World) (m : Nat) : Fp := fun b => w.heap.size + 1 < b ∧ b ≠ m
theorem Stage.call {w W W' : World} {m : Nat} {cs : Array Value} {l l' : Bytes} (h : Stage w W m cs l) (hs : Step (fun b => b < w.heap.size) (w.heap.size + 1) l' W W') : Stage w W' m cs l' :=
  ⟨hs.rd, h.mod.trans' hs.mod (fun x hx q => by omega), Nat.le_trans h.size hs.mod.size, h.far, hs.mod.heap h.box (by have := h.far; omega), hs.mod.heap h.res (by omega)⟩
theorem Stage.store {w W : World} {m : Nat} {cs : Array Value} {l : Bytes} (h : Stage w W m cs l) (j : Nat) (v : Value) : Stage w (W.setCell ⟨m, j, none⟩ v) m (cs.setIfInBounds j v) l := by
  have hm : Mod (· = m) W (W.setCell ⟨m, j, none⟩ v) := (Mod.refl _ _).set1 _ _
  have hf := h.far
  exact ⟨h.rd.mod hm (by omega) (fun b hb _ => by omega), h.mod.trans' hm (fun x hx q => by omega), Nat.le_trans h.size hm.size, hf, set_lit h.box j v, hm.heap h.res (by omega)⟩
theorem Stage.lt {w W : World} {m : Nat} {cs : Array Value} {l : Bytes} (h : Stage w W m cs l) : m < W.heap.size := (Array.getElem?_eq_some_iff.1 h.box).1
theorem far_call {α : Type} {c : Cd α} {w W W' : World} {m : Nat} {cs : List Value} {x : α} (h : c.rd W (Far w m) cs x) (hm : Mod (· = w.heap.size + 1) W W') : c.rd W' (Far w m) cs x := c.mod h hm fun b hb _ q => by have := hb.1; omega
theorem far_store {α : Type} {c : Cd α} {w W : World} {m : Nat} {cs : List Value} {x : α} (h : c.rd W (Far w m) cs x) (j : Nat) (v : Value) : c.rd (W.setCell ⟨m, j, none⟩ v) (Far w m) cs x :=
  c.mod h ((Mod.refl (· = m) W).set1 _ _) fun _b hb _ q => hb.2 q
theorem far_new {α : Type} {c : Cd α} {w W W' : World} {m : Nat} {cs0 : Array Value} {l : Bytes} {cs : List Value} {x : α} (hS : Stage w W m cs0 l) (h : c.rd W' (fun b => W.heap.size ≤ b) cs x) : c.rd W' (Far w m) cs x :=
  c.wider h fun b hb _ => ⟨by have := hS.size; omega, by have := hS.lt; omega⟩

theorem Stage.drew {w W : World} {m : Nat} {cs : Array Value} {l : Bytes} (h : Stage w W m cs l) : Stage w W.drew m cs l :=
  ⟨h.rd.mod ((Mod.refl (fun _ => False) W).drew) (fun q => q) (fun _ _ _ q => q), h.mod.drew, h.size, h.far, h.box, h.res⟩
/-- The cells of the world that is filled. -/
abbrev Held (W : World) (m : Nat) (a b c d e : Value) : Prop := W.cell? ⟨m, 0, none⟩ = some a ∧ W.cell? ⟨m, 1, none⟩ = some b ∧ W.cell? ⟨m, 2, none⟩ = some c ∧ W.cell? ⟨m, 3, none⟩ = some d ∧ W.cell? ⟨m, 4, none⟩ = some e
theorem Held.far {W : World} {m n : Nat} {a b c d e : Value} (h : Held W m a b c d e) (hne : m ≠ n) (j : Nat) (v : Value) : Held (W.setCell ⟨n, j, none⟩ v) m a b c d e := by
  have hb : (W.setCell ⟨n, j, none⟩ v).heap[m]? = W.heap[m]? := Below.heap_setCell _ _ _ _ hne
  refine ⟨?_, ?_, ?_, ?_, ?_⟩ <;> rw [World.cell?_of_block (w := W) hb]
  · exact h.1
  · exact h.2.1
  · exact h.2.2.1
  · exact h.2.2.2.1
  · exact h.2.2.2.2
theorem Stage.held {w W : World} {m : Nat} {a b c d e : Value} {l : Bytes} (h : Stage w W m #[a, b, c, d, e] l) :
    W.cell? ⟨m, 0, none⟩ = some a ∧ W.cell? ⟨m, 1, none⟩ = some b ∧ W.cell? ⟨m, 2, none⟩ = some c ∧ W.cell? ⟨m, 3, none⟩ = some d ∧ W.cell? ⟨m, 4, none⟩ = some e :=
  ⟨cell_lit h.box rfl, cell_lit h.box rfl, cell_lit h.box rfl, cell_lit h.box rfl, cell_lit h.box rfl⟩

set_option maxHeartbeats 1000000 in
theorem decode_calls (A : Option Addr) (cap n : Nat) (w : World) (l : Bytes) (hn : n = l.length) (h : cBytes.rd w (fun b => b < w.heap.size) [.slice A l.length cap] l) :
    Calls Tryz.prog 14 #[.slice A n cap] w (CasePost w (pCase l).1) := by
  subst hn
  obtain ⟨c1, l1, h1⟩ : ∃ c l', pMany 7 pFile l = (c, l') := ⟨_, _, rfl⟩
  obtain ⟨c2, l2, h2⟩ : ∃ c l', pMany 3 pVar l1 = (c, l') := ⟨_, _, rfl⟩
  obtain ⟨c3, l3, h3⟩ : ∃ c l', pMany 3 pOut l2 = (c, l') := ⟨_, _, rfl⟩
  obtain ⟨c4, l4, h4⟩ : ∃ c l', pMany 5 pOutc l3 = (c, l') := ⟨_, _, rfl⟩
  obtain ⟨c5, l5, h5⟩ : ∃ c l', pMany 3 pVer l4 = (c, l') := ⟨_, _, rfl⟩
  obtain ⟨c6, l6, h6⟩ : ∃ c l', pMany 5 (pText 20) l5 = (c, l') := ⟨_, _, rfl⟩
  obtain ⟨c7, l7, h7⟩ : ∃ c l', pMany 11 (pNum 256) l6 = (c, l') := ⟨_, _, rfl⟩
  have Hc : Hid ((pCase l).1 = ⟨⟨c1, c2, c3, c4, c5⟩, c6, c7⟩) := hidden (by simp only [pCase, h1, h2, h3, h4, h5, h6, h7])
  rw [Hc.out]
  have H1 := hidden h1
  have H2 := hidden h2
  have H3 := hidden h3
  have H4 := hidden h4
  have H5 := hidden h5
  have H6 := hidden h6
  have H7 := hidden h7
  clear h1 h2 h3 h4 h5 h6 h7
  generalize hm : l.length = n at *
  have H := hidden h
  have Hn := hidden hm
  clear h hm
  go_enter Tryz.func14, Tryz.ntmps14
  go_wp2_with fail
  have h0 : IsRd ((w.alloc (.cells #[nilS, nilS, nilS, nilS, nilS, nilS, nilS] 32)).alloc (.cells #[.slice A n cap] 116)) (fun b => b < w.heap.size) (w.heap.size + 1) l := by
    have e := heap_alloc_new (w.alloc (.cells #[nilS, nilS, nilS, nilS, nilS, nilS, nilS] 32)) (.cells #[.slice A n cap] 116)
    rw [World.size_alloc] at e
    refine ⟨A, cap, by rw [Hn.out]; exact e, ?_, by simp⟩
    rw [Hn.out]
    exact cBytes.alloc (cBytes.alloc H.out _) _
  refine (manyFile_calls _ 7 rfl (by omega) _ _ _ _ (fun b hb => by simp; omega) h0).mono ?_
  rintro e w1 ⟨v1, rfl, hv1, hs1⟩
  rw [H1.out] at hv1 hs1
  obtain ⟨A1, k1, rfl⟩ := rd_slice hv1
  have hst : Stage w (w1.alloc (.cells #[.slice A1 c1.length k1, nilS, nilS, nilS, nilS] 28)) w1.heap.size #[.slice A1 c1.length k1, nilS, nilS, nilS, nilS] l1 := by
    have z1 := hs1.mod.size
    simp only [World.size_alloc] at z1
    have hm0 : Mod (fun _ => False) w _ := ((Mod.refl (fun _ => False) w).alloc (.cells #[nilS, nilS, nilS, nilS, nilS, nilS, nilS] 32)).alloc (.cells #[.slice A n cap] 116)
    refine ⟨hs1.rd.alloc _, (hm0.trans' hs1.mod (fun x hx q => by omega)).alloc _, by simp; omega, by omega, heap_alloc_new _ _, ?_⟩
    rw [Below.heap_alloc _ _ _ (by omega)]
    refine hs1.mod.heap ?_ (by omega)
    rw [Below.heap_alloc _ _ _ (by simp)]
    exact heap_alloc_new _ _
  have hf1 : (cSl cFile).rd (w1.alloc (.cells #[.slice A1 c1.length k1, nilS, nilS, nilS, nilS] 28)) (Far w w1.heap.size) [.slice A1 c1.length k1] c1 :=
    (cSl cFile).alloc ((cSl cFile).wider hv1 fun b hb hl => ⟨by simp at hb; omega, by omega⟩) _
  clear hs1 hv1 h0 H Hn
  -- STEPS BEGIN
  have Hst1 := hidden hst
  have Hf1 := hidden hf1
  clear hst hf1
  have y2 := Hst1.out.size
  go_wp2_with fail
  refine (manyVar_calls _ 3 rfl (by omega) _ _ _ _ (fun b hb => by omega) Hst1.out.rd).mono ?_
  rintro e w2 ⟨v2, rfl, hv2, hs2⟩
  rw [H2.out] at hv2 hs2
  obtain ⟨A2, k2, rfl⟩ := rd_slice hv2
  have hst2 := Hst1.out.call hs2
  have hf2 := far_store (far_new Hst1.out hv2) 1 (.slice A2 c2.length k2)
  have hg1 := far_store (far_call Hf1.out hs2.mod) 1 (.slice A2 c2.length k2)
  clear Hf1
  have Hf1 := hidden hg1
  clear hg1
  have b2 := cell_lit hst2.box (j := 1) rfl
  have d2 := free_lit hst2.box 1
  have hst := hst2.store 1 (.slice A2 c2.length k2)
  simp only [List.setIfInBounds_toArray, List.set_cons_succ, List.set_cons_zero] at hst
  clear hst2 hs2 hv2 Hst1 y2
  have Hst2 := hidden hst
  have Hf2 := hidden hf2
  clear hst hf2
  have y3 := Hst2.out.size
  go_wp2_with fail
  refine (manyOut_calls _ 3 rfl (by omega) _ _ _ _ (fun b hb => by omega) Hst2.out.rd).mono ?_
  rintro e w3 ⟨v3, rfl, hv3, hs3⟩
  rw [H3.out] at hv3 hs3
  obtain ⟨A3, k3, rfl⟩ := rd_slice hv3
  have hst3 := Hst2.out.call hs3
  have hf3 := far_store (far_new Hst2.out hv3) 2 (.slice A3 c3.length k3)
  have hg1 := far_store (far_call Hf1.out hs3.mod) 2 (.slice A3 c3.length k3)
  clear Hf1
  have hg2 := far_store (far_call Hf2.out hs3.mod) 2 (.slice A3 c3.length k3)
  clear Hf2
  have Hf1 := hidden hg1
  clear hg1
  have Hf2 := hidden hg2
  clear hg2
  have b3 := cell_lit hst3.box (j := 2) rfl
  have d3 := free_lit hst3.box 2
  have hst := hst3.store 2 (.slice A3 c3.length k3)
  simp only [List.setIfInBounds_toArray, List.set_cons_succ, List.set_cons_zero] at hst
  clear hst3 hs3 hv3 Hst2 y3
  have Hst3 := hidden hst
  have Hf3 := hidden hf3
  clear hst hf3
  have y4 := Hst3.out.size
  go_wp2_with fail
  refine (manyOutc_calls _ 5 rfl (by omega) _ _ _ _ (fun b hb => by omega) Hst3.out.rd).mono ?_
  rintro e w4 ⟨v4, rfl, hv4, hs4⟩
  rw [H4.out] at hv4 hs4
  obtain ⟨A4, k4, rfl⟩ := rd_slice hv4
  have hst4 := Hst3.out.call hs4
  have hf4 := far_store (far_new Hst3.out hv4) 3 (.slice A4 c4.length k4)
  have hg1 := far_store (far_call Hf1.out hs4.mod) 3 (.slice A4 c4.length k4)
  clear Hf1
  have hg2 := far_store (far_call Hf2.out hs4.mod) 3 (.slice A4 c4.length k4)
  clear Hf2
  have hg3 := far_store (far_call Hf3.out hs4.mod) 3 (.slice A4 c4.length k4)
  clear Hf3
  have Hf1 := hidden hg1
  clear hg1
  have Hf2 := hidden hg2
  clear hg2
  have Hf3 := hidden hg3
  clear hg3
  have b4 := cell_lit hst4.box (j := 3) rfl
  have d4 := free_lit hst4.box 3
  have hst := hst4.store 3 (.slice A4 c4.length k4)
  simp only [List.setIfInBounds_toArray, List.set_cons_succ, List.set_cons_zero] at hst
  clear hst4 hs4 hv4 Hst3 y4
  have Hst4 := hidden hst
  have Hf4 := hidden hf4
  clear hst hf4
  have y5 := Hst4.out.size
  go_wp2_with fail
  refine (manyVer_calls _ 3 rfl (by omega) _ _ _ _ (fun b hb => by omega) Hst4.out.rd).mono ?_
  rintro e w5 ⟨v5, rfl, hv5, hs5⟩
  rw [H5.out] at hv5 hs5
  obtain ⟨A5, k5, rfl⟩ := rd_slice hv5
  have hst5 := Hst4.out.call hs5
  have hf5 := far_store (far_new Hst4.out hv5) 4 (.slice A5 c5.length k5)
  have hg1 := far_store (far_call Hf1.out hs5.mod) 4 (.slice A5 c5.length k5)
  clear Hf1
  have hg2 := far_store (far_call Hf2.out hs5.mod) 4 (.slice A5 c5.length k5)
  clear Hf2
  have hg3 := far_store (far_call Hf3.out hs5.mod) 4 (.slice A5 c5.length k5)
  clear Hf3
  have hg4 := far_store (far_call Hf4.out hs5.mod) 4 (.slice A5 c5.length k5)
  clear Hf4
  have Hf1 := hidden hg1
  clear hg1
  have Hf2 := hidden hg2
  clear hg2
  have Hf3 := hidden hg3
  clear hg3
  have Hf4 := hidden hg4
  clear hg4
  have b5 := cell_lit hst5.box (j := 4) rfl
  have d5 := free_lit hst5.box 4
  have hst := hst5.store 4 (.slice A5 c5.length k5)
  simp only [List.setIfInBounds_toArray, List.set_cons_succ, List.set_cons_zero] at hst
  clear hst5 hs5 hv5 Hst4 y5
  have Hst5 := hidden hst
  have Hf5 := hidden hf5
  clear hst hf5
  -- STEPS END
  go_wp2_with fail
  clear b2 b3 b4 b5 d2 d3 d4 d5
  generalize w5.setCell ⟨w1.heap.size, 4, none⟩ (.slice A5 c5.length k5) = W at *
  have y5 := Hst5.out.size
  have Hh := hidden Hst5.out.held
  have hne0 : w1.heap.size ≠ w.heap.size := by have := Hst5.out.far; omega
  have Hd : Hid (∀ b, b < w.heap.size → b < W.drew.heap.size) := hidden (fun b hb => by show b < W.heap.size; omega)
  have hheld := Hst5.out.held
  go_region_held3 (fun W' => W'.cell? ⟨w1.heap.size, 0, none⟩ = some (.slice A1 c1.length k1) ∧ W'.cell? ⟨w1.heap.size, 1, none⟩ = some (.slice A2 c2.length k2) ∧ W'.cell? ⟨w1.heap.size, 2, none⟩ = some (.slice A3 c3.length k3) ∧ W'.cell? ⟨w1.heap.size, 3, none⟩ = some (.slice A4 c4.length k4) ∧ W'.cell? ⟨w1.heap.size, 4, none⟩ = some (.slice A5 c5.length k5))
    (first | (with_reducible exact Hh.out) | (with_reducible exact (Hst5.out.drew.call hs6).held) | (with_reducible exact Hst7.out.held) | (with_reducible exact Hst5.out.drew.held) | (with_reducible exact (Held.far (Held.far (Held.far (Held.far (Held.far (Held.far (Held.far Hst7.out.held hne0 _ _) hne0 _ _) hne0 _ _) hne0 _ _) hne0 _ _) hne0 _ _) hne0 _ _)))
    (first | (go_at_call 51; refine (manyArg_calls _ 5 rfl (by omega) _ _ _ _ Hd.out Hst5.out.drew.rd).mono ?_; rintro e w6 ⟨v6, rfl, hv6, hs6⟩; rw [H6.out] at hv6 hs6; obtain ⟨A6, k6, rfl⟩ := rd_slice hv6) | (go_at_call 53; refine (manyPick_calls _ 11 rfl (by omega) _ _ _ _ (fun b hb => Nat.lt_of_lt_of_le (Hd.out b hb) hs6.mod.size) hs6.rd).mono ?_; rintro e w7 ⟨v7, rfl, hv7, hs7⟩; rw [H7.out] at hv7 hs7; obtain ⟨A7, k7, rfl⟩ := rd_slice hv7; have hst7 := (Hst5.out.drew.call hs6).call hs7; have r0 := cell_lit hst7.res (j := 0) rfl; have q0 := free_lit hst7.res 0; have r1 := cell_lit hst7.res (j := 1) rfl; have q1 := free_lit hst7.res 1; have r2 := cell_lit hst7.res (j := 2) rfl; have q2 := free_lit hst7.res 2; have r3 := cell_lit hst7.res (j := 3) rfl; have q3 := free_lit hst7.res 3; have r4 := cell_lit hst7.res (j := 4) rfl; have q4 := free_lit hst7.res 4; have r5 := cell_lit hst7.res (j := 5) rfl; have q5 := free_lit hst7.res 5; have r6 := cell_lit hst7.res (j := 6) rfl; have q6 := free_lit hst7.res 6; have Hst7 := hidden hst7; have Hv6 := hidden hv6; have Hv7 := hidden hv7; have Hs7 := hidden hs7; have Hs6 := hidden hs6; clear hst7 hv6 hv7 hs7 hs6 hheld))
  go_wp2_with fail
  have h8 : Mod (· = w.heap.size) w7 (((((((w7.setCell ⟨w.heap.size, 0, none⟩ (.slice A1 c1.length k1)).setCell ⟨w.heap.size, 1, none⟩ (.slice A2 c2.length k2)).setCell ⟨w.heap.size, 2, none⟩ (.slice A3 c3.length k3)).setCell ⟨w.heap.size, 3, none⟩ (.slice A4 c4.length k4)).setCell ⟨w.heap.size, 4, none⟩ (.slice A5 c5.length k5)).setCell ⟨w.heap.size, 5, none⟩ (.slice A6 c6.length k6)).setCell ⟨w.heap.size, 6, none⟩ (.slice A7 c7.length k7)) := ((((((((Mod.refl _ _).set1 _ _).set1 _ _).set1 _ _).set1 _ _).set1 _ _).set1 _ _).set1 _ _)
  have hw : ∀ {α : Type} {c : Cd α} {cs : List Value} {x : α}, c.rd w7 (Far w w1.heap.size) cs x → c.rd (((((((w7.setCell ⟨w.heap.size, 0, none⟩ (.slice A1 c1.length k1)).setCell ⟨w.heap.size, 1, none⟩ (.slice A2 c2.length k2)).setCell ⟨w.heap.size, 2, none⟩ (.slice A3 c3.length k3)).setCell ⟨w.heap.size, 3, none⟩ (.slice A4 c4.length k4)).setCell ⟨w.heap.size, 4, none⟩ (.slice A5 c5.length k5)).setCell ⟨w.heap.size, 5, none⟩ (.slice A6 c6.length k6)).setCell ⟨w.heap.size, 6, none⟩ (.slice A7 c7.length k7)) (fun b => w.heap.size ≤ b) cs x := fun {α} {c} {cs} {x} hx => c.keep hx fun b hb hl => ⟨h8.block b hl (by have := hb.1; omega), by have := hb.1; omega⟩
  have hc : ∀ {α : Type} {c : Cd α} {cs : List Value} {x : α}, c.rd W (Far w w1.heap.size) cs x → c.rd w7 (Far w w1.heap.size) cs x := fun {α} {c} {cs} {x} hx => far_call (far_call (c.keep (w' := W.drew) hx fun b hb hl => ⟨rfl, hb⟩) Hs6.out.mod) Hs7.out.mod
  refine bodyPost_ret (v := .agg #[.slice A1 c1.length k1, .slice A2 c2.length k2, .slice A3 c3.length k3, .slice A4 c4.length k4, .slice A5 c5.length k5, .slice A6 c6.length k6, .slice A7 c7.length k7]) (by simp [results, Tryz.results14, go_sem, r0, r1, r2, r3, r4, r5, r6]) rfl ⟨_, _, _, _, _, _, _, rfl, ?_, ?_⟩
  · exact ⟨_, _, rfl, ⟨_, _, rfl, hw (hc Hf1.out), _, _, rfl, hw (hc Hf2.out), _, _, rfl, hw (hc Hf3.out), _, _, rfl, hw (hc Hf4.out), hw (hc Hf5.out)⟩, _, _, rfl, hw (far_call (far_new Hst5.out.drew Hv6.out) Hs7.out.mod), hw (far_new (Hst5.out.drew.call Hs6.out) Hv7.out)⟩
  · exact (Hst7.out.mod.trans' h8 (fun x hx q => by omega)).toBelow (fun _ _ q => q)
end Go.Proofs.YthgibbekfcenhaaGreatDoor
