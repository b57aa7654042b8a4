/- The walk of the document's Decode (layer 35): it answers as the plain law's parser says. -/
import Derived.Test.YthgibbekfcenhaaGreatDoorRefNum
import Derived.Test.YthgibbekfcenhaaGreatDoorDecode
namespace Go.Proofs.YthgibbekfcenhaaGreatDoor
open Go.RowKit

/-- The document's Decode on its way: the result's block and the local case's, which holds cs. -/
structure RBox (w W : World) (cs : Array Value) : Prop where
  box : W.heap[w.heap.size + 1]? = some (.cells cs 43 (0, 0))
  res : W.heap[w.heap.size]? = some (.cells #[nilS, nilS, nilS, nilS, nilS, nilS, nilS] 43 (0, 0))
  mod : Mod (fun _ => False) w W
theorem RBox.lt {w W : World} {cs : Array Value} (h : RBox w W cs) : w.heap.size + 1 < W.heap.size := (Array.getElem?_eq_some_iff.1 h.box).1
theorem RBox.via {w W W' : World} {cs : Array Value} {S : Fp} (h : RBox w W cs) (hm : Mod S W W') (hS : ∀ b, b ≤ w.heap.size + 1 → ¬ S b) : RBox w W' cs :=
  ⟨hm.heap h.box (hS _ (Nat.le_refl _)), hm.heap h.res (hS _ (by omega)), h.mod.trans' hm fun x hx q => hS x (by omega) q⟩
theorem RBox.alloc {w W : World} {cs : Array Value} (h : RBox w W cs) (o : Obj) : RBox w (W.alloc o) cs := h.via ((Mod.refl (fun _ => False) W).alloc o) fun _ _ q => q
theorem RBox.set {w W : World} {cs : Array Value} (h : RBox w W cs) (j : Nat) (v : Value) : RBox w (W.setCell ⟨w.heap.size + 1, j, none⟩ v) (cs.setIfInBounds j v) := by
  have hm : Mod (· = w.heap.size + 1) W (W.setCell ⟨w.heap.size + 1, j, none⟩ v) := (Mod.refl _ _).set1 _ _
  exact ⟨set_lit h.box j v, hm.heap h.res (by omega), h.mod.trans' hm fun x hx q => by omega⟩
/-- An owned row goes on over a store into the local case. -/
theorem own_set {α : Type} {c : Cd α} {e : TypeId} {w W : World} {base : Nat} {v : Value} {xs : List α} (h : Own c e W base (fun b => base ≤ b) v xs) (hb : w.heap.size + 1 < base) (j : Nat) (u : Value) :
    Own c e (W.setCell ⟨w.heap.size + 1, j, none⟩ u) base (fun b => base ≤ b) v xs :=
  h.mod ((Mod.refl (· = w.heap.size + 1) W).set1 _ _) (fun k hk => by have := h.blk k hk; omega) (fun b hb _ => by omega)
/-- The world behind an append to an owned row, and the store of it into the local case. -/
theorem mod_round {w W0 W W3 : World} {v u : Value} {j : Nat} {o : Obj} (_h0 : w.heap.size + 1 < W0.heap.size) (h : Mod (· = w.heap.size + 1) W0 W) (hm : Mod (fun k => some k = v.ownBlock) (W.alloc o) W3) (hv : ∀ k, v.ownBlock = some k → W0.heap.size ≤ k ∧ k < W.heap.size) :
    Mod (· = w.heap.size + 1) W0 (W3.setCell ⟨w.heap.size + 1, j, none⟩ u) :=
  ((h.alloc o).trans' hm fun x hx q => by have := hv x q.symm; omega).set1 _ _
theorem mod_round0 {w W0 W W3 : World} {v u : Value} {j : Nat} (_h0 : w.heap.size + 1 < W0.heap.size) (h : Mod (· = w.heap.size + 1) W0 W) (hm : Mod (fun k => some k = v.ownBlock) W W3) (hv : ∀ k, v.ownBlock = some k → W0.heap.size ≤ k ∧ k < W.heap.size) :
    Mod (· = w.heap.size + 1) W0 (W3.setCell ⟨w.heap.size + 1, j, none⟩ u) :=
  (h.trans' hm fun x hx q => by have := hv x q.symm; omega).set1 _ _
abbrev RFar (w : World) : Fp := fun b => w.heap.size + 2 ≤ b
theorem rfar {α : Type} {c : Cd α} {w W W' : World} {cs : List Value} {x : α} (h : c.rd W (RFar w) cs x) (hm : Mod (· = w.heap.size + 1) W W') : c.rd W' (RFar w) cs x := c.mod h hm fun b hb _ q => by omega

set_option maxRecDepth 100000 in
set_option maxHeartbeats 4000000 in
theorem refdecode_calls (A : Option Addr) (cap n : Nat) (w : World) (l : Bytes) (hn : n = l.length) (h : cBytes.rd w (fun b => b < w.heap.size) [.slice A l.length cap] l) :
    Calls Tryz.prog 12 #[.slice A n cap] w (CasePost w (pCase l).1) := by
  obtain ⟨c1, l1, h1⟩ : ∃ c l', pMany 7 pFile l = (c, l') := ⟨_, _, rfl⟩
  obtain ⟨c2, l2, h2⟩ : ∃ c l', pMany 3 pVar l1 = (c, l') := ⟨_, _, rfl⟩
  obtain ⟨c3, l3, h3⟩ : ∃ c l', pMany 3 pOut l2 = (c, l') := ⟨_, _, rfl⟩
  obtain ⟨c4, l4, h4⟩ : ∃ c l', pMany 5 pOutc l3 = (c, l') := ⟨_, _, rfl⟩
  obtain ⟨c5, l5, h5⟩ : ∃ c l', pMany 3 pVer l4 = (c, l') := ⟨_, _, rfl⟩
  obtain ⟨c6, l6, h6⟩ : ∃ c l', pMany 5 (pText 20) l5 = (c, l') := ⟨_, _, rfl⟩
  obtain ⟨c7, l7, h7⟩ : ∃ c l', pMany 11 (pNum 256) l6 = (c, l') := ⟨_, _, rfl⟩
  have Hc : Hid ((pCase l).1 = ⟨⟨c1, c2, c3, c4, c5⟩, c6, c7⟩) := hidden (by simp only [pCase, h1, h2, h3, h4, h5, h6, h7])
  rw [Hc.out]
  have H1 := hidden h1
  have H2 := hidden h2
  have H3 := hidden h3
  have H4 := hidden h4
  have H5 := hidden h5
  have H6 := hidden h6
  have H7 := hidden h7
  clear h1 h2 h3 h4 h5 h6 h7
  have Hn := hidden hn
  have Hmod : Hid (∀ W, Mod (fun _ => False) w W → cBytes.rd W (fun b => b < w.heap.size) [.slice A n cap] l) := hidden fun W hW => by rw [hn]; exact cBytes.mod h hW fun _ _ _ q => q
  clear hn h
  go_enter Tryz.func12, Tryz.ntmps12
  go_wp2_with fail
  have hB0 : RBox w ((w.alloc (.cells #[nilS, nilS, nilS, nilS, nilS, nilS, nilS] 43)).alloc (.cells #[nilS, nilS, nilS, nilS, nilS, nilS, nilS] 43)) #[nilS, nilS, nilS, nilS, nilS, nilS, nilS] := by
    refine ⟨?_, ?_, ((Mod.refl _ _).alloc _).alloc _⟩
    · have := heap_alloc_new (w.alloc (.cells #[nilS, nilS, nilS, nilS, nilS, nilS, nilS] 43)) (.cells #[nilS, nilS, nilS, nilS, nilS, nilS, nilS] 43)
      rwa [World.size_alloc] at this
    · rw [Below.heap_alloc _ _ _ (by simp)]
      exact heap_alloc_new _ _
  have hz0 : ((w.alloc (.cells #[nilS, nilS, nilS, nilS, nilS, nilS, nilS] 43)).alloc (.cells #[nilS, nilS, nilS, nilS, nilS, nilS, nilS] 43)).heap.size = w.heap.size + 2 := by simp
  generalize (w.alloc (.cells #[nilS, nilS, nilS, nilS, nilS, nilS, nilS] 43)).alloc (.cells #[nilS, nilS, nilS, nilS, nilS, nilS, nilS] 43) = w0 at *
  have HB0 := hidden hB0
  have z0 : w.heap.size + 2 ≤ w0.heap.size := by omega
  clear hB0 hz0
  have Hp0 : Hid (Pos l 0 l) := hidden ⟨Nat.zero_le _, rfl⟩
  refine (num_calls _ _ _ (fun b => b < w.heap.size) _ l _ Hn.out (Hmod.out _ HB0.out.mod) _ 0 rfl Hp0.out _ 8 rfl (by omega) (by omega)).mono ?_
  rintro e w' ⟨a1, rfl, hp1, rfl⟩
  obtain ⟨N1, hN1⟩ := Int.eq_ofNat_of_zero_le (pNum_range (m := 8) (by decide) l).1
  have hM1 : N1 ≤ 7 := by have := (pNum_range (m := 8) (by decide) l).2; omega
  obtain ⟨r1, hr1⟩ : ∃ r, (pNum 8 l).2 = r := ⟨_, rfl⟩
  rw [hr1] at hp1
  rw [hN1]
  have Hrep1 : Hid (pRep pFile N1 r1 = (c1, l1)) := hidden (by have := H1.out; simp only [pMany, hr1, hN1, Int.toNat_natCast] at this; exact this)
  have Hq1 := hidden hp1
  clear hp1 hN1 hr1
  go_wp2_with fail
  have hT1 : SlT Tryz.prog 35 70 cFile.size := slT_of (by kernel_rfl)
  go_loopw [5, 6] (fun at_ i wr => ∃ (k a2 : Nat) (v : Value), k ≤ N1 ∧ i = .int .i64 k ∧ at_ = .int .i64 a2 ∧ RBox w wr #[v, nilS, nilS, nilS, nilS, nilS, nilS] ∧ Own cFile 70 wr w0.heap.size (fun b => w0.heap.size ≤ b) v (pRep pFile k r1).1 ∧ Pos l a2 (pRep pFile k r1).2 ∧ Mod (· = w.heap.size + 1) w0 wr) (fun _ i _ => N1 - (intOf i).toNat)
  case atStart => exact ⟨0, a1, nilS, Nat.zero_le _, rfl, rfl, HB0.out, Own.nil _ _ _ _ _, Hq1.out, Mod.refl _ _⟩
  case round =>
    obtain ⟨k, a2, v, hk, rfl, rfl, hB, hO, hp, hm⟩ := hrel
    have hz := hm.size
    by_cases hlt : k < N1
    · obtain ⟨r, hr⟩ : ∃ r, (pRep pFile k r1).2 = r := ⟨_, rfl⟩
      rw [hr] at hp
      have Hlen := hidden (pRep_length pFile k r1)
      have hblk := hidden hO.blk
      have c0 := cell_lit hB.box (j := 0) rfl
      have hlt0 : w.heap.size + 1 < wr.heap.size := by omega
      have hne : w.heap.size + 1 ≠ wr.heap.size := by omega
      have HB := hidden hB
      have HO := hidden hO
      have Hp := hidden hp
      have Hr := hidden hr
      have Hm := hidden hm
      clear hB hO hp hr hm
      go_wp2_with fail
      have hrng := pNum_range (m := 256) (by decide) (pText 200 (pText 12 r).2).2
      have hx0 := hrng.1
      have hx1 : (pNum 256 (pText 200 (pText 12 r).2).2).1 ≤ 255 := by have := hrng.2; omega
      clear hrng
      refine (reftext_calls _ _ _ (fun b => b < w.heap.size) _ l _ Hn.out (Hmod.out _ (HB.out.mod.alloc _)) _ _ rfl Hp.out _ 12 rfl (by omega)).mono ?_
      rintro e w' ⟨x1, rfl, hq, rfl⟩
      have Hx1 := hidden hq
      clear hq
      go_wp2_with fail
      refine (reftext_calls _ _ _ (fun b => b < w.heap.size) _ l _ Hn.out (Hmod.out _ (HB.out.mod.alloc _)) _ _ rfl Hx1.out _ 200 rfl (by omega)).mono ?_
      rintro e w' ⟨x2, rfl, hq, rfl⟩
      have Hx2 := hidden hq
      clear hq
      go_wp2_with fail
      refine (num_calls _ _ _ (fun b => b < w.heap.size) _ l _ Hn.out (Hmod.out _ (HB.out.mod.alloc _)) _ _ rfl Hx2.out _ 256 rfl (by omega) (by omega)).mono ?_
      rintro e w' ⟨x3, rfl, hq, rfl⟩
      have Hx3 := hidden hq
      clear hq
      have Hv : Hid (cFile.rd wr (fun _ => False) (Value.cells (.agg #[.string (pText 12 r).1, .string (pText 200 (pText 12 r).2).1, .int .i64 ((pNum 256 (pText 200 (pText 12 r).2).2).1 + 1)])).toList (pFile r).1) := hidden (cFile_iff.2 ⟨rfl, text_ok (by decide) _, text_ok (by decide) _, by simp only [pFile]; omega, by simp only [pFile]; omega⟩)
      go_wp2_with ((with_reducible refine wpList_app1s (o := ⟨some 63, _, _, _, _, _⟩) (c := cFile) (d := 63) (s := .tmp 61) (x := .tmp 62) (v := v) (y := .agg #[.string (pText 12 r).1, .string (pText 200 (pText 12 r).2).1, .int .i64 ((pNum 256 (pText 200 (pText 12 r).2).2).1 + 1)]) hT1 (cFile.alloc Hv.out _) (own_alloc HO.out _) (fun _ q => q.elim) ?_ ?_ ?_ ?_); (simp; omega); (rw [Hlen.out]; omega); exact ⟨⟨rfl, rfl, rfl, rfl, rfl⟩, rfl, rfl, rfl⟩; intro v1 w3 hO3 hm3 hat; obtain ⟨Av, nv, kv, rfl⟩ := hO3.shape'; clear hat; have hB3 := (HB.out.alloc _).via hm3 (fun b hb q => by have := hblk.out b q.symm; omega); have d0 := cell_lit hB3.box (j := 0) rfl; have f0 := free_lit hB3.box 0; have HB3 := hidden hB3; have HO3 := hidden hO3; have Hm3 := hidden hm3; clear hB3 hO3 hm3)
      go_roundw
      case rel =>
        refine ⟨k + 1, x3, _, hlt, by go_num, rfl, HB3.out.set 0 _, ?_, ?_, mod_round (by omega) Hm.out Hm3.out hblk.out⟩
        · have := own_set (w := w) HO3.out (by omega) 0 (.slice Av nv kv)
          rw [pRep_succ, Hr.out]; exact this
        · rw [pRep_succ, Hr.out]; exact Hx3.out
      case measure => simp [intOf]; omega
    · obtain rfl : k = N1 := by omega
      obtain ⟨wl1, hW⟩ : ∃ W : World, W = wr := ⟨_, rfl⟩
      subst hW
      rw [Hrep1.out] at hO hp
      obtain ⟨A1, k1, hsh1, _⟩ := hO.shape
      subst hsh1
      have Hf1 : Hid ((cSl cFile).rd wl1 (RFar w) [.slice A1 c1.length k1] c1) := hidden (hO.read (fun b hb => by omega) (fun b hb => by omega))
      have HB1 := hidden hB
      have Hp1 := hidden hp
      have z1 : w.heap.size + 2 ≤ wl1.heap.size := by omega
      clear hB hO hp hm
      go_wp2_with fail
      obtain ⟨b1, hb1⟩ : ∃ b : Nat, b = a2 := ⟨_, rfl⟩
      subst hb1
      refine (num_calls _ _ _ (fun b => b < w.heap.size) _ l _ Hn.out (Hmod.out _ HB1.out.mod) _ b1 rfl Hp1.out _ 4 rfl (by omega) (by omega)).mono ?_
      rintro e w' ⟨a2, rfl, hp2, rfl⟩
      obtain ⟨N2, hN2⟩ := Int.eq_ofNat_of_zero_le (pNum_range (m := 4) (by decide) l1).1
      have hM2 : N2 ≤ 3 := by have := (pNum_range (m := 4) (by decide) l1).2; omega
      obtain ⟨r2, hr2⟩ : ∃ r, (pNum 4 l1).2 = r := ⟨_, rfl⟩
      rw [hr2] at hp2
      rw [hN2]
      have Hrep2 : Hid (pRep pVar N2 r2 = (c2, l2)) := hidden (by have := H2.out; simp only [pMany, hr2, hN2, Int.toNat_natCast] at this; exact this)
      have Hq2 := hidden hp2
      clear hp2 hN2 hr2
      go_wp2_with fail
      have hT2 : SlT Tryz.prog 36 72 cVar.size := slT_of (by kernel_rfl)
      go_loopw [5, 8] (fun at_ i wr => ∃ (k a2 : Nat) (v : Value), k ≤ N2 ∧ i = .int .i64 k ∧ at_ = .int .i64 a2 ∧ RBox w wr #[.slice A1 c1.length k1, v, nilS, nilS, nilS, nilS, nilS] ∧ Own cVar 72 wr wl1.heap.size (fun b => wl1.heap.size ≤ b) v (pRep pVar k r2).1 ∧ Pos l a2 (pRep pVar k r2).2 ∧ Mod (· = w.heap.size + 1) wl1 wr) (fun _ i _ => N2 - (intOf i).toNat)
      case atStart => exact ⟨0, a2, nilS, Nat.zero_le _, rfl, rfl, HB1.out, Own.nil _ _ _ _ _, Hq2.out, Mod.refl _ _⟩
      case round =>
        obtain ⟨k, a2, v, hk, rfl, rfl, hB, hO, hp, hm⟩ := hrel
        have hz := hm.size
        by_cases hlt : k < N2
        · obtain ⟨r, hr⟩ : ∃ r, (pRep pVar k r2).2 = r := ⟨_, rfl⟩
          rw [hr] at hp
          have Hlen := hidden (pRep_length pVar k r2)
          have hblk := hidden hO.blk
          have c0 := cell_lit hB.box (j := 1) rfl
          have hlt0 : w.heap.size + 1 < wr.heap.size := by omega
          have hne : w.heap.size + 1 ≠ wr.heap.size := by omega
          have HB := hidden hB
          have HO := hidden hO
          have Hp := hidden hp
          have Hr := hidden hr
          have Hm := hidden hm
          clear hB hO hp hr hm
          go_wp2_with fail
          obtain ⟨ws, lw, hw⟩ : ∃ ws lw, pMany 3 (pText 12) (pText 12 r).2 = (ws, lw) := ⟨_, _, rfl⟩
          have hrng := pNum_range (m := 6) (by decide) lw
          obtain ⟨lv, hlv⟩ : ∃ lv, (pNum 6 lw).1 = lv := ⟨_, rfl⟩
          have hx0 : 0 ≤ lv := by rw [← hlv]; exact hrng.1
          have hx1 : lv ≤ 5 := by have := hrng.2; omega
          have Hpv : Hid (pVar r = (⟨(pText 12 r).1, ws, lv % 3, decide (3 ≤ lv)⟩, (pNum 6 lw).2)) := hidden (by simp only [pVar, hw, hlv])
          have Hw := hidden hw
          have Hlv := hidden hlv
          clear hrng hw hlv
          refine (reftext_calls _ _ _ (fun b => b < w.heap.size) _ l _ Hn.out (Hmod.out _ (HB.out.mod.alloc _)) _ _ rfl Hp.out _ 12 rfl (by omega)).mono ?_
          rintro e w' ⟨x1, rfl, hq, rfl⟩
          have Hx1 := hidden hq
          clear hq
          go_wp2_with fail
          refine (texts_calls _ _ _ _ l _ Hn.out ((cBytes.wider (Hmod.out _ (HB.out.mod.alloc _)) fun b hb hl => hl)) _ _ rfl Hx1.out _ 3 rfl (by omega) _ 12 rfl (by omega)).mono ?_
          rintro e w2 ⟨v2, x2, rfl, hv2, hq, hm2⟩
          rw [Hw.out] at hv2 hq
          obtain ⟨A2_, k2_, rfl⟩ := rd_slice hv2
          have hmw := ((Mod.refl (fun _ => False) wr).alloc _).trans hm2
          have hB2 := HB.out.via hmw (fun _ _ q => q)
          have hfb := hm2.heap (heap_alloc_new wr _) (fun q => q)
          have g0 := cell_lit hfb (j := 0) rfl
          have g1 := cell_lit hfb (j := 1) rfl
          have g2 := cell_lit hfb (j := 2) rfl
          have g3 := cell_lit hfb (j := 3) rfl
          have e1 := free_lit hfb 1
          have e2 := free_lit hfb 2
          have e3 := free_lit hfb 3
          have c1' := cell_lit hB2.box (j := 1) rfl
          have zw := hmw.size
          have Hv2 := hidden hv2
          have Hx2 := hidden hq
          have Hmw := hidden hmw
          have Hfb := hidden hfb
          clear hv2 hq hm2 hmw hB2 hfb c0
          generalize hnw : ws.length = nw at *
          clear hnw
          go_wp2_with fail
          refine (num_calls _ _ _ (fun b => b < w.heap.size) _ l _ Hn.out (Hmod.out _ ((HB.out.mod.trans Hmw.out).setCell (p := ⟨wr.heap.size, 1, none⟩) (.inr (by show w.heap.size ≤ wr.heap.size; omega)) _)) _ _ rfl Hx2.out _ 6 rfl (by omega) (by omega)).mono ?_
          rintro e w' ⟨x3, rfl, hq, rfl⟩
          have Hx3 := hidden hq
          clear hq
          rw [Hlv.out]
          by_cases h3 : 3 ≤ lv
          · have hd : decide (3 ≤ lv) = true := decide_eq_true h3
            have Hmx : Hid (Mod (· = wr.heap.size) w2 ((((w2.setCell ⟨wr.heap.size, 1, none⟩ (.slice A2_ nw k2_)).setCell ⟨wr.heap.size, 2, none⟩ (.int .i64 lv)).setCell ⟨wr.heap.size, 3, none⟩ (.bool true)).setCell ⟨wr.heap.size, 2, none⟩ (.int .i64 (lv - 3)))) := hidden (((((Mod.refl _ _).set1 _ _).set1 _ _).set1 _ _).set1 _ _)
            have Hmv : Hid (Mod (fun _ => False) wr ((((w2.setCell ⟨wr.heap.size, 1, none⟩ (.slice A2_ nw k2_)).setCell ⟨wr.heap.size, 2, none⟩ (.int .i64 lv)).setCell ⟨wr.heap.size, 3, none⟩ (.bool true)).setCell ⟨wr.heap.size, 2, none⟩ (.int .i64 (lv - 3)))) := hidden (Hmw.out.trans' Hmx.out fun x hx q => by omega)
            have HBv := hidden (HB.out.via Hmv.out fun _ _ q => q)
            have HOv := hidden (HO.out.mod Hmv.out (fun _ _ q => q) (fun _ _ _ q => q))
            have Hv : Hid (cVar.rd ((((w2.setCell ⟨wr.heap.size, 1, none⟩ (.slice A2_ nw k2_)).setCell ⟨wr.heap.size, 2, none⟩ (.int .i64 lv)).setCell ⟨wr.heap.size, 3, none⟩ (.bool true)).setCell ⟨wr.heap.size, 2, none⟩ (.int .i64 (lv - 3))) (fun b => wr.heap.size < b) (Value.cells (.agg #[.string (pText 12 r).1, .slice A2_ nw k2_, .int .i64 (lv - 3), .bool true])).toList (pVar r).1) := hidden (by
              rw [Hpv.out]
              have := cVar_mk (hd := true) (lv := lv - 3) (text_ok (M := 12) (by decide) r) ((cSl cStr).keep Hv2.out fun b hb hl => (⟨Hmx.out.block b hl (by simp at hb; omega), by simp at hb; omega⟩ : _ ∧ wr.heap.size < b)) (by omega)
              rw [hd, show lv % 3 = lv - 3 by omega]
              exact this)
            have HFv : Hid (∀ k, wr.heap.size < k → k < (World.heap (((((w2.setCell ⟨wr.heap.size, 1, none⟩ (.slice A2_ nw k2_)).setCell ⟨wr.heap.size, 2, none⟩ (.int .i64 lv)).setCell ⟨wr.heap.size, 3, none⟩ (.bool true)).setCell ⟨wr.heap.size, 2, none⟩ (.int .i64 (lv - 3))))).size → wl1.heap.size ≤ k ∧ some k ≠ v.ownBlock) := hidden fun k hk _ => ⟨by omega, fun q => by have := hblk.out k q.symm; omega⟩
            have zv : wl1.heap.size ≤ (World.heap (((((w2.setCell ⟨wr.heap.size, 1, none⟩ (.slice A2_ nw k2_)).setCell ⟨wr.heap.size, 2, none⟩ (.int .i64 lv)).setCell ⟨wr.heap.size, 3, none⟩ (.bool true)).setCell ⟨wr.heap.size, 2, none⟩ (.int .i64 (lv - 3))))).size := by have := Hmv.out.size; omega
            have cv := cell_lit HBv.out.box (j := 1) rfl
            have hfw := set_lit (set_lit (set_lit (set_lit Hfb.out 1 (.slice A2_ nw k2_)) 2 (.int .i64 lv)) 3 (.bool true)) 2 (.int .i64 (lv - 3))
            have k0 := cell_lit hfw (j := 0) rfl
            have k1 := cell_lit hfw (j := 1) rfl
            have k2 := cell_lit hfw (j := 2) rfl
            have k3 := cell_lit hfw (j := 3) rfl
            simp only [List.setIfInBounds_toArray, List.set_cons_zero, List.set_cons_succ, List.getElem_toArray, List.getElem_cons_zero, List.getElem_cons_succ] at k0 k1 k2 k3
            clear h3 hfw
            go_wp2_with ((with_reducible refine wpList_app1s (o := ⟨some 112, _, _, _, _, _⟩) (c := cVar) (d := 112) (s := .tmp 110) (x := .tmp 111) (v := v) (y := .agg #[.string (pText 12 r).1, .slice A2_ nw k2_, .int .i64 (lv - 3), .bool true]) hT2 Hv.out HOv.out HFv.out ?_ ?_ ?_ ?_); omega; (rw [Hlen.out]; omega); exact ⟨⟨rfl, rfl, rfl, rfl, rfl⟩, rfl, rfl, rfl⟩; intro v1 w3 hO3 hm3 hat; obtain ⟨Av, nv, kv, rfl⟩ := hO3.shape'; clear hat; have hB3 := HBv.out.via hm3 (fun b hb q => by have := hblk.out b q.symm; omega); have d0 := cell_lit hB3.box (j := 1) rfl; have f0 := free_lit hB3.box 1; have HB3 := hidden hB3; have HO3 := hidden hO3; have Hm3 := hidden hm3; clear hB3 hO3 hm3)
            go_roundw
            case rel =>
              refine ⟨k + 1, x3, _, hlt, by go_num, rfl, HB3.out.set 1 _, ?_, ?_, mod_round0 (by omega) (Hm.out.trans' Hmv.out fun _ _ q => q.elim) Hm3.out (fun b hb => by have := hblk.out b hb; have := Hmv.out.size; omega)⟩
              · have := own_set (w := w) HO3.out (by omega) 1 (.slice Av nv kv)
                rw [pRep_succ, Hr.out]; exact this
              · rw [pRep_succ, Hr.out]; rw [Hpv.out]; exact Hx3.out
            case measure => simp [intOf]; omega
          · have hd : decide (3 ≤ lv) = false := decide_eq_false h3
            have Hmx : Hid (Mod (· = wr.heap.size) w2 ((w2.setCell ⟨wr.heap.size, 1, none⟩ (.slice A2_ nw k2_)).setCell ⟨wr.heap.size, 2, none⟩ (.int .i64 lv))) := hidden (((Mod.refl _ _).set1 _ _).set1 _ _)
            have Hmv : Hid (Mod (fun _ => False) wr ((w2.setCell ⟨wr.heap.size, 1, none⟩ (.slice A2_ nw k2_)).setCell ⟨wr.heap.size, 2, none⟩ (.int .i64 lv))) := hidden (Hmw.out.trans' Hmx.out fun x hx q => by omega)
            have HBv := hidden (HB.out.via Hmv.out fun _ _ q => q)
            have HOv := hidden (HO.out.mod Hmv.out (fun _ _ q => q) (fun _ _ _ q => q))
            have Hv : Hid (cVar.rd ((w2.setCell ⟨wr.heap.size, 1, none⟩ (.slice A2_ nw k2_)).setCell ⟨wr.heap.size, 2, none⟩ (.int .i64 lv)) (fun b => wr.heap.size < b) (Value.cells (.agg #[.string (pText 12 r).1, .slice A2_ nw k2_, .int .i64 lv, .bool false])).toList (pVar r).1) := hidden (by
              rw [Hpv.out]
              have := cVar_mk (hd := false) (lv := lv) (text_ok (M := 12) (by decide) r) ((cSl cStr).keep Hv2.out fun b hb hl => (⟨Hmx.out.block b hl (by simp at hb; omega), by simp at hb; omega⟩ : _ ∧ wr.heap.size < b)) (by omega)
              rw [hd, show lv % 3 = lv by omega]
              exact this)
            have HFv : Hid (∀ k, wr.heap.size < k → k < (World.heap (((w2.setCell ⟨wr.heap.size, 1, none⟩ (.slice A2_ nw k2_)).setCell ⟨wr.heap.size, 2, none⟩ (.int .i64 lv)))).size → wl1.heap.size ≤ k ∧ some k ≠ v.ownBlock) := hidden fun k hk _ => ⟨by omega, fun q => by have := hblk.out k q.symm; omega⟩
            have zv : wl1.heap.size ≤ (World.heap (((w2.setCell ⟨wr.heap.size, 1, none⟩ (.slice A2_ nw k2_)).setCell ⟨wr.heap.size, 2, none⟩ (.int .i64 lv)))).size := by have := Hmv.out.size; omega
            have cv := cell_lit HBv.out.box (j := 1) rfl
            have hfw := set_lit (set_lit Hfb.out 1 (.slice A2_ nw k2_)) 2 (.int .i64 lv)
            have k0 := cell_lit hfw (j := 0) rfl
            have k1 := cell_lit hfw (j := 1) rfl
            have k2 := cell_lit hfw (j := 2) rfl
            have k3 := cell_lit hfw (j := 3) rfl
            simp only [List.setIfInBounds_toArray, List.set_cons_zero, List.set_cons_succ, List.getElem_toArray, List.getElem_cons_zero, List.getElem_cons_succ] at k0 k1 k2 k3
            clear h3 hfw
            go_wp2_with ((with_reducible refine wpList_app1s (o := ⟨some 112, _, _, _, _, _⟩) (c := cVar) (d := 112) (s := .tmp 110) (x := .tmp 111) (v := v) (y := .agg #[.string (pText 12 r).1, .slice A2_ nw k2_, .int .i64 lv, .bool false]) hT2 Hv.out HOv.out HFv.out ?_ ?_ ?_ ?_); omega; (rw [Hlen.out]; omega); exact ⟨⟨rfl, rfl, rfl, rfl, rfl⟩, rfl, rfl, rfl⟩; intro v1 w3 hO3 hm3 hat; obtain ⟨Av, nv, kv, rfl⟩ := hO3.shape'; clear hat; have hB3 := HBv.out.via hm3 (fun b hb q => by have := hblk.out b q.symm; omega); have d0 := cell_lit hB3.box (j := 1) rfl; have f0 := free_lit hB3.box 1; have HB3 := hidden hB3; have HO3 := hidden hO3; have Hm3 := hidden hm3; clear hB3 hO3 hm3)
            go_roundw
            case rel =>
              refine ⟨k + 1, x3, _, hlt, by go_num, rfl, HB3.out.set 1 _, ?_, ?_, mod_round0 (by omega) (Hm.out.trans' Hmv.out fun _ _ q => q.elim) Hm3.out (fun b hb => by have := hblk.out b hb; have := Hmv.out.size; omega)⟩
              · have := own_set (w := w) HO3.out (by omega) 1 (.slice Av nv kv)
                rw [pRep_succ, Hr.out]; exact this
              · rw [pRep_succ, Hr.out]; rw [Hpv.out]; exact Hx3.out
            case measure => simp [intOf]; omega
        · obtain rfl : k = N2 := by omega
          obtain ⟨wl2, hW⟩ : ∃ W : World, W = wr := ⟨_, rfl⟩
          subst hW
          rw [Hrep2.out] at hO hp
          obtain ⟨A2, k2, hsh2, _⟩ := hO.shape
          subst hsh2
          have Hf2 : Hid ((cSl cVar).rd wl2 (RFar w) [.slice A2 c2.length k2] c2) := hidden (hO.read (fun b hb => by omega) (fun b hb => by omega))
          have HB2 := hidden hB
          have Hp2 := hidden hp
          have z2 : w.heap.size + 2 ≤ wl2.heap.size := by omega
          have Hg1 := hidden (rfar Hf1.out hm)
          clear Hf1
          have Hf1 := hidden Hg1.out
          clear Hg1
          clear hB hO hp hm
          go_wp2_with fail
          obtain ⟨b2, hb2⟩ : ∃ b : Nat, b = a2 := ⟨_, rfl⟩
          subst hb2
          refine (num_calls _ _ _ (fun b => b < w.heap.size) _ l _ Hn.out (Hmod.out _ HB2.out.mod) _ b2 rfl Hp2.out _ 4 rfl (by omega) (by omega)).mono ?_
          rintro e w' ⟨a3, rfl, hp3, rfl⟩
          obtain ⟨N3, hN3⟩ := Int.eq_ofNat_of_zero_le (pNum_range (m := 4) (by decide) l2).1
          have hM3 : N3 ≤ 3 := by have := (pNum_range (m := 4) (by decide) l2).2; omega
          obtain ⟨r3, hr3⟩ : ∃ r, (pNum 4 l2).2 = r := ⟨_, rfl⟩
          rw [hr3] at hp3
          rw [hN3]
          have Hrep3 : Hid (pRep pOut N3 r3 = (c3, l3)) := hidden (by have := H3.out; simp only [pMany, hr3, hN3, Int.toNat_natCast] at this; exact this)
          have Hq3 := hidden hp3
          clear hp3 hN3 hr3
          go_wp2_with fail
          have hT3 : SlT Tryz.prog 37 74 cOut.size := slT_of (by kernel_rfl)
          go_loopw [5, 10] (fun at_ i wr => ∃ (k a2 : Nat) (v : Value), k ≤ N3 ∧ i = .int .i64 k ∧ at_ = .int .i64 a2 ∧ RBox w wr #[.slice A1 c1.length k1, .slice A2 c2.length k2, v, nilS, nilS, nilS, nilS] ∧ Own cOut 74 wr wl2.heap.size (fun b => wl2.heap.size ≤ b) v (pRep pOut k r3).1 ∧ Pos l a2 (pRep pOut k r3).2 ∧ Mod (· = w.heap.size + 1) wl2 wr) (fun _ i _ => N3 - (intOf i).toNat)
          case atStart => exact ⟨0, a3, nilS, Nat.zero_le _, rfl, rfl, HB2.out, Own.nil _ _ _ _ _, Hq3.out, Mod.refl _ _⟩
          case round =>
            obtain ⟨k, a2, v, hk, rfl, rfl, hB, hO, hp, hm⟩ := hrel
            have hz := hm.size
            by_cases hlt : k < N3
            · obtain ⟨r, hr⟩ : ∃ r, (pRep pOut k r3).2 = r := ⟨_, rfl⟩
              rw [hr] at hp
              have Hlen := hidden (pRep_length pOut k r3)
              have hblk := hidden hO.blk
              have c0 := cell_lit hB.box (j := 2) rfl
              have hlt0 : w.heap.size + 1 < wr.heap.size := by omega
              have hne : w.heap.size + 1 ≠ wr.heap.size := by omega
              have HB := hidden hB
              have HO := hidden hO
              have Hp := hidden hp
              have Hr := hidden hr
              have Hm := hidden hm
              clear hB hO hp hr hm
              go_wp2_with fail
              refine (reftext_calls _ _ _ (fun b => b < w.heap.size) _ l _ Hn.out (Hmod.out _ (HB.out.mod.alloc _)) _ _ rfl Hp.out _ 12 rfl (by omega)).mono ?_
              rintro e w' ⟨x1, rfl, hq, rfl⟩
              have Hx1 := hidden hq
              clear hq
              go_wp2_with fail
              refine (reftext_calls _ _ _ (fun b => b < w.heap.size) _ l _ Hn.out (Hmod.out _ (HB.out.mod.alloc _)) _ _ rfl Hx1.out _ 60 rfl (by omega)).mono ?_
              rintro e w' ⟨x2, rfl, hq, rfl⟩
              have Hx2 := hidden hq
              clear hq
              have Hv : Hid (cOut.rd wr (fun _ => False) (Value.cells (.agg #[.string (pText 12 r).1, .string (pText 60 (pText 12 r).2).1])).toList (pOut r).1) := hidden (cOut_iff.2 ⟨rfl, text_ok (by decide) _, text_ok (by decide) _⟩)
              go_wp2_with ((with_reducible refine wpList_app1s (o := ⟨some 146, _, _, _, _, _⟩) (c := cOut) (d := 146) (s := .tmp 144) (x := .tmp 145) (v := v) (y := .agg #[.string (pText 12 r).1, .string (pText 60 (pText 12 r).2).1]) hT3 (cOut.alloc Hv.out _) (own_alloc HO.out _) (fun _ q => q.elim) ?_ ?_ ?_ ?_); (simp; omega); (rw [Hlen.out]; omega); exact ⟨⟨rfl, rfl, rfl, rfl, rfl⟩, rfl, rfl, rfl⟩; intro v1 w3 hO3 hm3 hat; obtain ⟨Av, nv, kv, rfl⟩ := hO3.shape'; clear hat; have hB3 := (HB.out.alloc _).via hm3 (fun b hb q => by have := hblk.out b q.symm; omega); have d0 := cell_lit hB3.box (j := 2) rfl; have f0 := free_lit hB3.box 2; have HB3 := hidden hB3; have HO3 := hidden hO3; have Hm3 := hidden hm3; clear hB3 hO3 hm3)
              go_roundw
              case rel =>
                refine ⟨k + 1, x2, _, hlt, by go_num, rfl, HB3.out.set 2 _, ?_, ?_, mod_round (by omega) Hm.out Hm3.out hblk.out⟩
                · have := own_set (w := w) HO3.out (by omega) 2 (.slice Av nv kv)
                  rw [pRep_succ, Hr.out]; exact this
                · rw [pRep_succ, Hr.out]; exact Hx2.out
              case measure => simp [intOf]; omega
            · obtain rfl : k = N3 := by omega
              obtain ⟨wl3, hW⟩ : ∃ W : World, W = wr := ⟨_, rfl⟩
              subst hW
              rw [Hrep3.out] at hO hp
              obtain ⟨A3, k3, hsh3, _⟩ := hO.shape
              subst hsh3
              have Hf3 : Hid ((cSl cOut).rd wl3 (RFar w) [.slice A3 c3.length k3] c3) := hidden (hO.read (fun b hb => by omega) (fun b hb => by omega))
              have HB3 := hidden hB
              have Hp3 := hidden hp
              have z3 : w.heap.size + 2 ≤ wl3.heap.size := by omega
              have Hg1 := hidden (rfar Hf1.out hm)
              clear Hf1
              have Hf1 := hidden Hg1.out
              clear Hg1
              have Hg2 := hidden (rfar Hf2.out hm)
              clear Hf2
              have Hf2 := hidden Hg2.out
              clear Hg2
              clear hB hO hp hm
              go_wp2_with fail
              obtain ⟨b3, hb3⟩ : ∃ b : Nat, b = a2 := ⟨_, rfl⟩
              subst hb3
              refine (num_calls _ _ _ (fun b => b < w.heap.size) _ l _ Hn.out (Hmod.out _ HB3.out.mod) _ b3 rfl Hp3.out _ 6 rfl (by omega) (by omega)).mono ?_
              rintro e w' ⟨a4, rfl, hp4, rfl⟩
              obtain ⟨N4, hN4⟩ := Int.eq_ofNat_of_zero_le (pNum_range (m := 6) (by decide) l3).1
              have hM4 : N4 ≤ 5 := by have := (pNum_range (m := 6) (by decide) l3).2; omega
              obtain ⟨r4, hr4⟩ : ∃ r, (pNum 6 l3).2 = r := ⟨_, rfl⟩
              rw [hr4] at hp4
              rw [hN4]
              have Hrep4 : Hid (pRep pOutc N4 r4 = (c4, l4)) := hidden (by have := H4.out; simp only [pMany, hr4, hN4, Int.toNat_natCast] at this; exact this)
              have Hq4 := hidden hp4
              clear hp4 hN4 hr4
              go_wp2_with fail
              have hT4 : SlT Tryz.prog 38 77 cOutc.size := slT_of (by kernel_rfl)
              go_loopw [5, 12] (fun at_ i wr => ∃ (k a2 : Nat) (v : Value), k ≤ N4 ∧ i = .int .i64 k ∧ at_ = .int .i64 a2 ∧ RBox w wr #[.slice A1 c1.length k1, .slice A2 c2.length k2, .slice A3 c3.length k3, v, nilS, nilS, nilS] ∧ Own cOutc 77 wr wl3.heap.size (fun b => wl3.heap.size ≤ b) v (pRep pOutc k r4).1 ∧ Pos l a2 (pRep pOutc k r4).2 ∧ Mod (· = w.heap.size + 1) wl3 wr) (fun _ i _ => N4 - (intOf i).toNat)
              case atStart => exact ⟨0, a4, nilS, Nat.zero_le _, rfl, rfl, HB3.out, Own.nil _ _ _ _ _, Hq4.out, Mod.refl _ _⟩
              case round =>
                obtain ⟨k, a2, v, hk, rfl, rfl, hB, hO, hp, hm⟩ := hrel
                have hz := hm.size
                by_cases hlt : k < N4
                · obtain ⟨r, hr⟩ : ∃ r, (pRep pOutc k r4).2 = r := ⟨_, rfl⟩
                  rw [hr] at hp
                  have Hlen := hidden (pRep_length pOutc k r4)
                  have hblk := hidden hO.blk
                  have c0 := cell_lit hB.box (j := 3) rfl
                  have hlt0 : w.heap.size + 1 < wr.heap.size := by omega
                  have hne : w.heap.size + 1 ≠ wr.heap.size := by omega
                  have HB := hidden hB
                  have HO := hidden hO
                  have Hp := hidden hp
                  have Hr := hidden hr
                  have Hm := hidden hm
                  clear hB hO hp hr hm
                  go_wp2_with fail
                  obtain ⟨wo, hwo⟩ : ∃ wo : World, wo = wr := ⟨_, rfl⟩
                  subst hwo
                  obtain ⟨es, le, hes⟩ : ∃ es le, pMany 2 pEff (pNum 4 (pText 12 r).2).2 = (es, le) := ⟨_, _, rfl⟩
                  obtain ⟨ex, le0, hex⟩ : ∃ ex le0, pNum 4 (pText 12 r).2 = (ex, le0) := ⟨_, _, rfl⟩
                  rw [hex] at hes
                  have hrng := pNum_range (m := 4) (by decide) (pText 12 r).2
                  rw [hex] at hrng
                  have hx0 : 0 ≤ ex := hrng.1
                  have hx1 : ex ≤ 3 := by have := hrng.2; omega
                  have Hpo : Hid (pOutc r = (⟨(pText 12 r).1, ex, es⟩, le)) := hidden (by simp only [pOutc, hex, hes])
                  have Hes := hidden hes
                  have Hex := hidden hex
                  clear hrng hes hex
                  refine (reftext_calls _ _ _ (fun b => b < w.heap.size) _ l _ Hn.out (Hmod.out _ (HB.out.mod.alloc _)) _ _ rfl Hp.out _ 12 rfl (by omega)).mono ?_
                  rintro e w' ⟨x1, rfl, hq, rfl⟩
                  have Hx1 := hidden hq
                  clear hq
                  go_wp2_with fail
                  refine (num_calls _ _ _ (fun b => b < w.heap.size) _ l _ Hn.out (Hmod.out _ (HB.out.mod.alloc _)) _ _ rfl Hx1.out _ 4 rfl (by omega) (by omega)).mono ?_
                  rintro e w' ⟨x2, rfl, hq, rfl⟩
                  rw [Hex.out] at hq
                  have Hx2 := hidden hq
                  clear hq
                  rw [Hex.out]
                  go_wp2_with fail
                  refine (num_calls _ _ _ (fun b => b < w.heap.size) _ l _ Hn.out (Hmod.out _ (HB.out.mod.alloc _)) _ _ rfl Hx2.out _ 3 rfl (by omega) (by omega)).mono ?_
                  rintro e w' ⟨x3, rfl, hq, rfl⟩
                  obtain ⟨Ne, hNe⟩ := Int.eq_ofNat_of_zero_le (pNum_range (m := 3) (by decide) le0).1
                  have hNe2 : Ne ≤ 2 := by have := (pNum_range (m := 3) (by decide) le0).2; omega
                  obtain ⟨re, hre⟩ : ∃ re, (pNum 3 le0).2 = re := ⟨_, rfl⟩
                  rw [hre] at hq
                  rw [hNe]
                  have Hrepe : Hid (pRep pEff Ne re = (es, le)) := hidden (by have := Hes.out; simp only [pMany, hre, hNe, Int.toNat_natCast] at this; exact this)
                  have Hx3 := hidden hq
                  clear hq hNe hre
                  go_wp2_with fail
                  have hTe : SlT Tryz.prog 75 79 cEff.size := slT_of (by kernel_rfl)
                  have hbox0 := heap_alloc_new wo (.cells #[.string (pText 12 r).1, .int .i64 ex, nilS] 77)
                  have Hbox0 := hidden hbox0
                  clear hbox0
                  go_loopw [5, 15] (fun at_ i wr => ∃ (ki ai : Nat) (vi : Value), ki ≤ Ne ∧ i = .int .i64 ki ∧ at_ = .int .i64 ai ∧ wr.heap[wo.heap.size]? = some (.cells #[.string (pText 12 r).1, .int .i64 ex, vi] 77 (0, 0)) ∧ Own cEff 79 wr (wo.heap.size + 1) (fun b => wo.heap.size + 1 ≤ b) vi (pRep pEff ki re).1 ∧ Pos l ai (pRep pEff ki re).2 ∧ Mod (fun _ => False) wo wr) (fun _ i _ => Ne - (intOf i).toNat)
                  case atStart => exact ⟨0, x3, nilS, Nat.zero_le _, rfl, rfl, Hbox0.out, Own.nil _ _ _ _ _, Hx3.out, (Mod.refl _ _).alloc _⟩
                  case round =>
                    obtain ⟨ki, ai, vi, hki, rfl, rfl, hbi, hOi, hpi, hmi⟩ := hrel
                    have hzi := hmi.size
                    have hli : wo.heap.size < wr.heap.size := (Array.getElem?_eq_some_iff.1 hbi).1
                    by_cases hlti : ki < Ne
                    · obtain ⟨ri, hri⟩ : ∃ ri, (pRep pEff ki re).2 = ri := ⟨_, rfl⟩
                      rw [hri] at hpi
                      have Hleni := hidden (pRep_length pEff ki re)
                      have hblki := hidden hOi.blk
                      have ci := cell_lit hbi (j := 2) rfl
                      have hnei : wo.heap.size ≠ wr.heap.size := by omega
                      have hrng := pNum_range (m := 3) (by decide) ri
                      have hy0 := hrng.1
                      have hy1 : (pNum 3 ri).1 ≤ 2 := by have := hrng.2; omega
                      have Hbi := hidden hbi
                      have HOi := hidden hOi
                      have Hpi := hidden hpi
                      have Hri := hidden hri
                      have Hmi := hidden hmi
                      clear hbi hOi hpi hri hmi hrng
                      go_wp2_with fail
                      refine (num_calls _ _ _ (fun b => b < w.heap.size) _ l _ Hn.out (Hmod.out _ ((HB.out.mod.trans Hmi.out).alloc _)) _ _ rfl Hpi.out _ 3 rfl (by omega) (by omega)).mono ?_
                      rintro e w' ⟨y1, rfl, hq, rfl⟩
                      have Hy1 := hidden hq
                      clear hq
                      go_wp2_with fail
                      refine (reftext_calls _ _ _ (fun b => b < w.heap.size) _ l _ Hn.out (Hmod.out _ ((HB.out.mod.trans Hmi.out).alloc _)) _ _ rfl Hy1.out _ 12 rfl (by omega)).mono ?_
                      rintro e w' ⟨y2, rfl, hq, rfl⟩
                      have Hy2 := hidden hq
                      clear hq
                      go_wp2_with fail
                      refine (reftext_calls _ _ _ (fun b => b < w.heap.size) _ l _ Hn.out (Hmod.out _ ((HB.out.mod.trans Hmi.out).alloc _)) _ _ rfl Hy2.out _ 12 rfl (by omega)).mono ?_
                      rintro e w' ⟨y3, rfl, hq, rfl⟩
                      have Hy3 := hidden hq
                      clear hq
                      have Hv : Hid (cEff.rd wr (fun _ => False) (Value.cells (.agg #[.int .i64 ((pNum 3 ri).1 + 1), .string (pText 12 (pNum 3 ri).2).1, .string (pText 12 (pText 12 (pNum 3 ri).2).2).1])).toList (pEff ri).1) := hidden (cEff_iff.2 ⟨rfl, ⟨by simp only [pEff]; omega, by simp only [pEff]; omega⟩, text_ok (by decide) _, text_ok (by decide) _⟩)
                      go_wp2_with ((with_reducible refine wpList_app1s (o := ⟨some 216, _, _, _, _, _⟩) (c := cEff) (d := 216) (s := .tmp 214) (x := .tmp 215) (v := vi) (y := .agg #[.int .i64 ((pNum 3 ri).1 + 1), .string (pText 12 (pNum 3 ri).2).1, .string (pText 12 (pText 12 (pNum 3 ri).2).2).1]) hTe (cEff.alloc Hv.out _) (own_alloc HOi.out _) (fun _ q => q.elim) ?_ ?_ ?_ ?_); (simp; omega); (rw [Hleni.out]; omega); exact ⟨⟨rfl, rfl, rfl, rfl, rfl⟩, rfl, rfl, rfl⟩; intro v1 w3 hO3 hm3 hat; obtain ⟨Av, nv, kv, rfl⟩ := hO3.shape'; clear hat; have hb3 := hm3.heap (Hbi.out ▸ Below.heap_alloc _ _ _ (by omega) : (wr.alloc _).heap[wo.heap.size]? = _) (fun q => by have := hblki.out _ q.symm; omega); have d0 := cell_lit hb3 (j := 2) rfl; have f0 := free_lit hb3 2; have Hb3 := hidden hb3; have HO3 := hidden hO3; have Hm3 := hidden hm3; clear hb3 hO3 hm3)
                      have hsetE : Mod (· = wo.heap.size) w3 (w3.setCell ⟨wo.heap.size, 2, none⟩ (.slice Av nv kv)) := (Mod.refl _ _).set1 _ _
                      have HsetE := hidden hsetE
                      clear hsetE
                      go_roundw
                      case rel =>
                        refine ⟨ki + 1, y3, _, hlti, by go_num, rfl, set_lit Hb3.out 2 _, ?_, ?_, ?_⟩
                        · rw [pRep_succ, Hri.out]
                          exact HO3.out.mod HsetE.out (fun k hk => by have := HO3.out.blk k hk; omega) (fun b hb _ => by omega)
                        · rw [pRep_succ, Hri.out]; exact Hy3.out
                        · exact ((Hmi.out.alloc _).trans' Hm3.out fun x hx q => by have := hblki.out x q.symm; omega).trans' HsetE.out fun x hx q => by omega
                      case measure => simp [intOf]; omega
                    · obtain rfl : ki = Ne := by omega
                      rw [Hrepe.out] at hOi hpi
                      obtain ⟨Ae, ke, hshe, _⟩ := hOi.shape
                      subst hshe
                      have Hre : Hid ((cSl cEff).rd wr (fun b => wo.heap.size < b) [.slice Ae es.length ke] es) := hidden (hOi.read (fun b hb => by omega) (fun b hb => by omega))
                      have g0 := cell_lit hbi (j := 0) rfl
                      have g1 := cell_lit hbi (j := 1) rfl
                      have g2 := cell_lit hbi (j := 2) rfl
                      have Hmv := hidden hmi
                      have HBv := hidden (HB.out.via hmi fun _ _ q => q)
                      have HOv := hidden (HO.out.mod hmi (fun _ _ q => q) (fun _ _ _ q => q))
                      have cv := cell_lit HBv.out.box (j := 3) rfl
                      have Hxe := hidden hpi
                      have Hv : Hid (cOutc.rd wr (fun b => wo.heap.size < b) (Value.cells (.agg #[.string (pText 12 r).1, .int .i64 ex, .slice Ae es.length ke])).toList (pOutc r).1) := hidden (by
                        rw [Hpo.out]
                        exact cOutc_mk (text_ok (by decide) _) Hre.out (by omega))
                      have HFv : Hid (∀ k, wo.heap.size < k → k < wr.heap.size → wl3.heap.size ≤ k ∧ some k ≠ v.ownBlock) := hidden fun k hk _ => ⟨by omega, fun q => by have := hblk.out k q.symm; omega⟩
                      have zv : wl3.heap.size ≤ wr.heap.size := by omega
                      clear hbi hOi hpi hmi c0
                      go_wp2_with ((with_reducible refine wpList_app1s (o := ⟨some 223, _, _, _, _, _⟩) (c := cOutc) (d := 223) (s := .tmp 221) (x := .tmp 222) (v := v) (y := .agg #[.string (pText 12 r).1, .int .i64 ex, .slice Ae es.length ke]) hT4 Hv.out HOv.out HFv.out ?_ ?_ ?_ ?_); omega; (rw [Hlen.out]; omega); exact ⟨⟨rfl, rfl, rfl, rfl, rfl⟩, rfl, rfl, rfl⟩; intro v1 w3 hO3 hm3 hat; obtain ⟨Av, nv, kv, rfl⟩ := hO3.shape'; clear hat; have hB3 := HBv.out.via hm3 (fun b hb q => by have := hblk.out b q.symm; omega); have d0 := cell_lit hB3.box (j := 3) rfl; have f0 := free_lit hB3.box 3; have HB3 := hidden hB3; have HO3 := hidden hO3; have Hm3 := hidden hm3; clear hB3 hO3 hm3)
                      go_roundw
                      case rel =>
                        refine ⟨k + 1, ai, _, hlt, by go_num, rfl, HB3.out.set 3 _, ?_, ?_, mod_round0 (by omega) (Hm.out.trans' Hmv.out fun _ _ q => q.elim) Hm3.out (fun b hb => by have := hblk.out b hb; have := Hmv.out.size; omega)⟩
                        · have := own_set (w := w) HO3.out (by omega) 3 (.slice Av nv kv)
                          rw [pRep_succ, Hr.out]; exact this
                        · rw [pRep_succ, Hr.out]; rw [Hpo.out]; exact Hxe.out
                      case measure => simp [intOf]; omega
                · obtain rfl : k = N4 := by omega
                  obtain ⟨wl4, hW⟩ : ∃ W : World, W = wr := ⟨_, rfl⟩
                  subst hW
                  rw [Hrep4.out] at hO hp
                  obtain ⟨A4, k4, hsh4, _⟩ := hO.shape
                  subst hsh4
                  have Hf4 : Hid ((cSl cOutc).rd wl4 (RFar w) [.slice A4 c4.length k4] c4) := hidden (hO.read (fun b hb => by omega) (fun b hb => by omega))
                  have HB4 := hidden hB
                  have Hp4 := hidden hp
                  have z4 : w.heap.size + 2 ≤ wl4.heap.size := by omega
                  have Hg1 := hidden (rfar Hf1.out hm)
                  clear Hf1
                  have Hf1 := hidden Hg1.out
                  clear Hg1
                  have Hg2 := hidden (rfar Hf2.out hm)
                  clear Hf2
                  have Hf2 := hidden Hg2.out
                  clear Hg2
                  have Hg3 := hidden (rfar Hf3.out hm)
                  clear Hf3
                  have Hf3 := hidden Hg3.out
                  clear Hg3
                  clear hB hO hp hm
                  go_wp2_with fail
                  obtain ⟨b4, hb4⟩ : ∃ b : Nat, b = a2 := ⟨_, rfl⟩
                  subst hb4
                  refine (num_calls _ _ _ (fun b => b < w.heap.size) _ l _ Hn.out (Hmod.out _ HB4.out.mod) _ b4 rfl Hp4.out _ 4 rfl (by omega) (by omega)).mono ?_
                  rintro e w' ⟨a5, rfl, hp5, rfl⟩
                  obtain ⟨N5, hN5⟩ := Int.eq_ofNat_of_zero_le (pNum_range (m := 4) (by decide) l4).1
                  have hM5 : N5 ≤ 3 := by have := (pNum_range (m := 4) (by decide) l4).2; omega
                  obtain ⟨r5, hr5⟩ : ∃ r, (pNum 4 l4).2 = r := ⟨_, rfl⟩
                  rw [hr5] at hp5
                  rw [hN5]
                  have Hrep5 : Hid (pRep pVer N5 r5 = (c5, l5)) := hidden (by have := H5.out; simp only [pMany, hr5, hN5, Int.toNat_natCast] at this; exact this)
                  have Hq5 := hidden hp5
                  clear hp5 hN5 hr5
                  go_wp2_with fail
                  have hT5 : SlT Tryz.prog 39 81 cVer.size := slT_of (by kernel_rfl)
                  go_loopw [5, 17] (fun at_ i wr => ∃ (k a2 : Nat) (v : Value), k ≤ N5 ∧ i = .int .i64 k ∧ at_ = .int .i64 a2 ∧ RBox w wr #[.slice A1 c1.length k1, .slice A2 c2.length k2, .slice A3 c3.length k3, .slice A4 c4.length k4, v, nilS, nilS] ∧ Own cVer 81 wr wl4.heap.size (fun b => wl4.heap.size ≤ b) v (pRep pVer k r5).1 ∧ Pos l a2 (pRep pVer k r5).2 ∧ Mod (· = w.heap.size + 1) wl4 wr) (fun _ i _ => N5 - (intOf i).toNat)
                  case atStart => exact ⟨0, a5, nilS, Nat.zero_le _, rfl, rfl, HB4.out, Own.nil _ _ _ _ _, Hq5.out, Mod.refl _ _⟩
                  case round =>
                    obtain ⟨k, a2, v, hk, rfl, rfl, hB, hO, hp, hm⟩ := hrel
                    have hz := hm.size
                    by_cases hlt : k < N5
                    · obtain ⟨r, hr⟩ : ∃ r, (pRep pVer k r5).2 = r := ⟨_, rfl⟩
                      rw [hr] at hp
                      have Hlen := hidden (pRep_length pVer k r5)
                      have hblk := hidden hO.blk
                      have c0 := cell_lit hB.box (j := 4) rfl
                      have hlt0 : w.heap.size + 1 < wr.heap.size := by omega
                      have hne : w.heap.size + 1 ≠ wr.heap.size := by omega
                      have HB := hidden hB
                      have HO := hidden hO
                      have Hp := hidden hp
                      have Hr := hidden hr
                      have Hm := hidden hm
                      clear hB hO hp hr hm
                      go_wp2_with fail
                      have hrng := pNum_range (m := 2) (by decide) (pText 12 (pText 12 (pText 6 r).2).2).2
                      have hx0 := hrng.1
                      have hx1 : (pNum 2 (pText 12 (pText 12 (pText 6 r).2).2).2).1 ≤ 1 := by have := hrng.2; omega
                      clear hrng
                      refine (reftext_calls _ _ _ (fun b => b < w.heap.size) _ l _ Hn.out (Hmod.out _ (HB.out.mod.alloc _)) _ _ rfl Hp.out _ 6 rfl (by omega)).mono ?_
                      rintro e w' ⟨x1, rfl, hq, rfl⟩
                      have Hx1 := hidden hq
                      clear hq
                      go_wp2_with fail
                      refine (reftext_calls _ _ _ (fun b => b < w.heap.size) _ l _ Hn.out (Hmod.out _ (HB.out.mod.alloc _)) _ _ rfl Hx1.out _ 12 rfl (by omega)).mono ?_
                      rintro e w' ⟨x2, rfl, hq, rfl⟩
                      have Hx2 := hidden hq
                      clear hq
                      go_wp2_with fail
                      refine (reftext_calls _ _ _ (fun b => b < w.heap.size) _ l _ Hn.out (Hmod.out _ (HB.out.mod.alloc _)) _ _ rfl Hx2.out _ 12 rfl (by omega)).mono ?_
                      rintro e w' ⟨x3, rfl, hq, rfl⟩
                      have Hx3 := hidden hq
                      clear hq
                      go_wp2_with fail
                      refine (num_calls _ _ _ (fun b => b < w.heap.size) _ l _ Hn.out (Hmod.out _ (HB.out.mod.alloc _)) _ _ rfl Hx3.out _ 2 rfl (by omega) (by omega)).mono ?_
                      rintro e w' ⟨x4, rfl, hq, rfl⟩
                      have Hx4 := hidden hq
                      clear hq
                      have Hv : Hid (cVer.rd wr (fun _ => False) (Value.cells (.agg #[.string (pText 6 r).1, .string (pText 12 (pText 6 r).2).1, .string (pText 12 (pText 12 (pText 6 r).2).2).1, .bool ((pNum 2 (pText 12 (pText 12 (pText 6 r).2).2).2).1 == 1)])).toList (pVer r).1) := hidden (cVer_iff.2 ⟨rfl, text_ok (by decide) _, text_ok (by decide) _, text_ok (by decide) _⟩)
                      go_wp2_with ((with_reducible refine wpList_app1s (o := ⟨some 273, _, _, _, _, _⟩) (c := cVer) (d := 273) (s := .tmp 271) (x := .tmp 272) (v := v) (y := .agg #[.string (pText 6 r).1, .string (pText 12 (pText 6 r).2).1, .string (pText 12 (pText 12 (pText 6 r).2).2).1, .bool ((pNum 2 (pText 12 (pText 12 (pText 6 r).2).2).2).1 == 1)]) hT5 (cVer.alloc Hv.out _) (own_alloc HO.out _) (fun _ q => q.elim) ?_ ?_ ?_ ?_); (simp; omega); (rw [Hlen.out]; omega); exact ⟨⟨rfl, rfl, rfl, rfl, rfl⟩, rfl, rfl, rfl⟩; intro v1 w3 hO3 hm3 hat; obtain ⟨Av, nv, kv, rfl⟩ := hO3.shape'; clear hat; have hB3 := (HB.out.alloc _).via hm3 (fun b hb q => by have := hblk.out b q.symm; omega); have d0 := cell_lit hB3.box (j := 4) rfl; have f0 := free_lit hB3.box 4; have HB3 := hidden hB3; have HO3 := hidden hO3; have Hm3 := hidden hm3; clear hB3 hO3 hm3)
                      go_roundw
                      case rel =>
                        refine ⟨k + 1, x4, _, hlt, by go_num, rfl, HB3.out.set 4 _, ?_, ?_, mod_round (by omega) Hm.out Hm3.out hblk.out⟩
                        · have := own_set (w := w) HO3.out (by omega) 4 (.slice Av nv kv)
                          rw [pRep_succ, Hr.out]; exact this
                        · rw [pRep_succ, Hr.out]; exact Hx4.out
                      case measure => simp [intOf]; omega
                    · obtain rfl : k = N5 := by omega
                      obtain ⟨wl5, hW⟩ : ∃ W : World, W = wr := ⟨_, rfl⟩
                      subst hW
                      rw [Hrep5.out] at hO hp
                      obtain ⟨A5, k5, hsh5, _⟩ := hO.shape
                      subst hsh5
                      have Hf5 : Hid ((cSl cVer).rd wl5 (RFar w) [.slice A5 c5.length k5] c5) := hidden (hO.read (fun b hb => by omega) (fun b hb => by omega))
                      have HB5 := hidden hB
                      have Hp5 := hidden hp
                      have z5 : w.heap.size + 2 ≤ wl5.heap.size := by omega
                      have Hg1 := hidden (rfar Hf1.out hm)
                      clear Hf1
                      have Hf1 := hidden Hg1.out
                      clear Hg1
                      have Hg2 := hidden (rfar Hf2.out hm)
                      clear Hf2
                      have Hf2 := hidden Hg2.out
                      clear Hg2
                      have Hg3 := hidden (rfar Hf3.out hm)
                      clear Hf3
                      have Hf3 := hidden Hg3.out
                      clear Hg3
                      have Hg4 := hidden (rfar Hf4.out hm)
                      clear Hf4
                      have Hf4 := hidden Hg4.out
                      clear Hg4
                      clear hB hO hp hm
                      go_wp2_with fail
                      obtain ⟨b5, hb5⟩ : ∃ b : Nat, b = a2 := ⟨_, rfl⟩
                      subst hb5
                      refine (texts_calls _ _ _ _ l _ Hn.out (cBytes.wider (Hmod.out _ HB5.out.mod) fun b hb hl => hl) _ _ rfl Hp5.out _ 5 rfl (by omega) _ 20 rfl (by omega)).mono ?_
                      rintro e w6 ⟨v6, x6, rfl, hv6, hq, hm6⟩
                      rw [H6.out] at hv6 hq
                      obtain ⟨A6, k6, rfl⟩ := rd_slice hv6
                      have hB6 := HB5.out.via hm6 (fun _ _ q => q)
                      have g5 := cell_lit hB6.box (j := 5) rfl
                      have e5 := free_lit hB6.box 5
                      have Hp6 := hidden hq
                      have Hm6 : Hid (Mod (· = w.heap.size + 1) wl5 (w6.setCell ⟨w.heap.size + 1, 5, none⟩ (.slice A6 c6.length k6))) := hidden ((hm6.mono fun _ _ q => q.elim).set1 _ _)
                      have HB6 := hidden (hB6.set 5 (.slice A6 c6.length k6))
                      have Hf6 : Hid ((cSl cStr).rd (w6.setCell ⟨w.heap.size + 1, 5, none⟩ (.slice A6 c6.length k6)) (RFar w) [.slice A6 c6.length k6] c6) := hidden (rfar ((cSl cStr).wider hv6 fun b hb _ => by omega) ((Mod.refl _ _).set1 _ _))
                      clear hv6 hq hm6 hB6
                      have Hg1 := hidden (rfar Hf1.out Hm6.out)
                      clear Hf1
                      have Hf1 := hidden Hg1.out
                      clear Hg1
                      have Hg2 := hidden (rfar Hf2.out Hm6.out)
                      clear Hf2
                      have Hf2 := hidden Hg2.out
                      clear Hg2
                      have Hg3 := hidden (rfar Hf3.out Hm6.out)
                      clear Hf3
                      have Hf3 := hidden Hg3.out
                      clear Hg3
                      have Hg4 := hidden (rfar Hf4.out Hm6.out)
                      clear Hf4
                      have Hf4 := hidden Hg4.out
                      clear Hg4
                      have Hg5 := hidden (rfar Hf5.out Hm6.out)
                      clear Hf5
                      have Hf5 := hidden Hg5.out
                      clear Hg5
                      have z6 : w.heap.size + 2 ≤ (World.heap (w6.setCell ⟨w.heap.size + 1, 5, none⟩ (.slice A6 c6.length k6))).size := by have := Hm6.out.size; omega
                      clear Hm6
                      go_wp2_with fail
                      generalize w6.setCell ⟨w.heap.size + 1, 5, none⟩ (.slice A6 c6.length k6) = wl6 at *
                      clear g5 e5
                      refine (num_calls _ _ _ (fun b => b < w.heap.size) _ l _ Hn.out (Hmod.out _ HB6.out.mod) _ _ rfl Hp6.out _ 12 rfl (by omega) (by omega)).mono ?_
                      rintro e w' ⟨a7, rfl, hp7, rfl⟩
                      obtain ⟨N7, hN7⟩ := Int.eq_ofNat_of_zero_le (pNum_range (m := 12) (by decide) l6).1
                      have hM7 : N7 ≤ 11 := by have := (pNum_range (m := 12) (by decide) l6).2; omega
                      obtain ⟨r7, hr7⟩ : ∃ r, (pNum 12 l6).2 = r := ⟨_, rfl⟩
                      rw [hr7] at hp7
                      rw [hN7]
                      have Hrep7 : Hid (pRep (pNum 256) N7 r7 = (c7, l7)) := hidden (by have := H7.out; simp only [pMany, hr7, hN7, Int.toNat_natCast] at this; exact this)
                      have Hq7 := hidden hp7
                      clear hp7 hN7 hr7
                      go_wp2_with fail
                      have hT7 : SlT Tryz.prog 30 3 cI64.size := slT_of (by kernel_rfl)
                      go_loopw [5, 20] (fun at_ i wr => ∃ (k a2 : Nat) (v : Value), k ≤ N7 ∧ i = .int .i64 k ∧ at_ = .int .i64 a2 ∧ RBox w wr #[.slice A1 c1.length k1, .slice A2 c2.length k2, .slice A3 c3.length k3, .slice A4 c4.length k4, .slice A5 c5.length k5, .slice A6 c6.length k6, v] ∧ Own cI64 3 wr wl6.heap.size (fun b => wl6.heap.size ≤ b) v (pRep (pNum 256) k r7).1 ∧ Pos l a2 (pRep (pNum 256) k r7).2 ∧ Mod (· = w.heap.size + 1) wl6 wr) (fun _ i _ => N7 - (intOf i).toNat)
                      case atStart => exact ⟨0, a7, nilS, Nat.zero_le _, rfl, rfl, HB6.out, Own.nil _ _ _ _ _, Hq7.out, Mod.refl _ _⟩
                      case round =>
                        obtain ⟨k, a2, v, hk, rfl, rfl, hB, hO, hp, hm⟩ := hrel
                        have hz := hm.size
                        by_cases hlt : k < N7
                        · obtain ⟨r, hr⟩ : ∃ r, (pRep (pNum 256) k r7).2 = r := ⟨_, rfl⟩
                          rw [hr] at hp
                          have Hlen := hidden (pRep_length (pNum 256) k r7)
                          have hblk := hidden hO.blk
                          have c0 := cell_lit hB.box (j := 6) rfl
                          have hlt0 : w.heap.size + 1 < wr.heap.size := by omega
                          have hne : w.heap.size + 1 ≠ wr.heap.size := by omega
                          have HB := hidden hB
                          have HO := hidden hO
                          have Hp := hidden hp
                          have Hr := hidden hr
                          have Hm := hidden hm
                          clear hB hO hp hr hm
                          go_wp2_with fail
                          refine (num_calls _ _ _ (fun b => b < w.heap.size) _ l _ Hn.out (Hmod.out _ HB.out.mod) _ _ rfl Hp.out _ 256 rfl (by omega) (by omega)).mono ?_
                          rintro e w' ⟨x1, rfl, hq, rfl⟩
                          have Hx1 := hidden hq
                          clear hq
                          have hrng := pNum_range (m := 256) (by decide) r
                          have Hv : Hid (cI64.rd wr (fun _ => False) (Value.cells (.int .i64 (pNum 256 r).1)).toList (pNum 256 r).1) := hidden ⟨rfl, by have := hrng.1; omega, by have := hrng.2; omega⟩
                          clear hrng
                          go_wp2_with ((with_reducible refine wpList_app1s (o := ⟨some 304, _, _, _, _, _⟩) (c := cI64) (d := 304) (s := .tmp 302) (x := .tmp 303) (v := v) (y := .int .i64 (pNum 256 r).1) hT7 Hv.out HO.out (fun _ q => q.elim) ?_ ?_ ?_ ?_); omega; (rw [Hlen.out]; omega); exact ⟨⟨rfl, rfl, rfl, rfl, rfl⟩, rfl, rfl, rfl⟩; intro v1 w3 hO3 hm3 hat; obtain ⟨Av, nv, kv, rfl⟩ := hO3.shape'; clear hat; have hB3 := (HB.out).via hm3 (fun b hb q => by have := hblk.out b q.symm; omega); have d0 := cell_lit hB3.box (j := 6) rfl; have f0 := free_lit hB3.box 6; have HB3 := hidden hB3; have HO3 := hidden hO3; have Hm3 := hidden hm3; clear hB3 hO3 hm3)
                          go_roundw
                          case rel =>
                            refine ⟨k + 1, x1, _, hlt, by go_num, rfl, HB3.out.set 6 _, ?_, ?_, mod_round0 (by omega) Hm.out Hm3.out hblk.out⟩
                            · have := own_set (w := w) HO3.out (by omega) 6 (.slice Av nv kv)
                              rw [pRep_succ, Hr.out]; exact this
                            · rw [pRep_succ, Hr.out]; exact Hx1.out
                          case measure => simp [intOf]; omega
                        · obtain rfl : k = N7 := by omega
                          obtain ⟨wl7, hW⟩ : ∃ W : World, W = wr := ⟨_, rfl⟩
                          subst hW
                          rw [Hrep7.out] at hO hp
                          obtain ⟨A7, k7, hsh7, _⟩ := hO.shape
                          subst hsh7
                          have Hf7 : Hid ((cSl cI64).rd wl7 (RFar w) [.slice A7 c7.length k7] c7) := hidden (hO.read (fun b hb => by omega) (fun b hb => by omega))
                          have HB7 := hidden hB
                          have Hp7 := hidden hp
                          have z7 : w.heap.size + 2 ≤ wl7.heap.size := by omega
                          have Hg1 := hidden (rfar Hf1.out hm)
                          clear Hf1
                          have Hf1 := hidden Hg1.out
                          clear Hg1
                          have Hg2 := hidden (rfar Hf2.out hm)
                          clear Hf2
                          have Hf2 := hidden Hg2.out
                          clear Hg2
                          have Hg3 := hidden (rfar Hf3.out hm)
                          clear Hf3
                          have Hf3 := hidden Hg3.out
                          clear Hg3
                          have Hg4 := hidden (rfar Hf4.out hm)
                          clear Hf4
                          have Hf4 := hidden Hg4.out
                          clear Hg4
                          have Hg5 := hidden (rfar Hf5.out hm)
                          clear Hf5
                          have Hf5 := hidden Hg5.out
                          clear Hg5
                          have Hg6 := hidden (rfar Hf6.out hm)
                          clear Hf6
                          have Hf6 := hidden Hg6.out
                          clear Hg6
                          have hB := HB7.out
                          have m0 := cell_lit hB.box (j := 0) rfl
                          have q0 := cell_lit hB.res (j := 0) rfl
                          have s0 := free_lit hB.res 0
                          have m1 := cell_lit hB.box (j := 1) rfl
                          have q1 := cell_lit hB.res (j := 1) rfl
                          have s1 := free_lit hB.res 1
                          have m2 := cell_lit hB.box (j := 2) rfl
                          have q2 := cell_lit hB.res (j := 2) rfl
                          have s2 := free_lit hB.res 2
                          have m3 := cell_lit hB.box (j := 3) rfl
                          have q3 := cell_lit hB.res (j := 3) rfl
                          have s3 := free_lit hB.res 3
                          have m4 := cell_lit hB.box (j := 4) rfl
                          have q4 := cell_lit hB.res (j := 4) rfl
                          have s4 := free_lit hB.res 4
                          have m5 := cell_lit hB.box (j := 5) rfl
                          have q5 := cell_lit hB.res (j := 5) rfl
                          have s5 := free_lit hB.res 5
                          have m6 := cell_lit hB.box (j := 6) rfl
                          have q6 := cell_lit hB.res (j := 6) rfl
                          have s6 := free_lit hB.res 6
                          clear hB hO hp hm
                          go_wp2_with fail
                          have h8 : Mod (· = w.heap.size) wl7 (((((((wl7.setCell ⟨w.heap.size, 0, none⟩ (.slice A1 c1.length k1)).setCell ⟨w.heap.size, 1, none⟩ (.slice A2 c2.length k2)).setCell ⟨w.heap.size, 2, none⟩ (.slice A3 c3.length k3)).setCell ⟨w.heap.size, 3, none⟩ (.slice A4 c4.length k4)).setCell ⟨w.heap.size, 4, none⟩ (.slice A5 c5.length k5)).setCell ⟨w.heap.size, 5, none⟩ (.slice A6 c6.length k6)).setCell ⟨w.heap.size, 6, none⟩ (.slice A7 c7.length k7)) := ((((((((Mod.refl _ _).set1 _ _).set1 _ _).set1 _ _).set1 _ _).set1 _ _).set1 _ _).set1 _ _)
                          have hw : ∀ {α : Type} {c : Cd α} {cs : List Value} {x : α}, c.rd wl7 (RFar w) cs x → c.rd (((((((wl7.setCell ⟨w.heap.size, 0, none⟩ (.slice A1 c1.length k1)).setCell ⟨w.heap.size, 1, none⟩ (.slice A2 c2.length k2)).setCell ⟨w.heap.size, 2, none⟩ (.slice A3 c3.length k3)).setCell ⟨w.heap.size, 3, none⟩ (.slice A4 c4.length k4)).setCell ⟨w.heap.size, 4, none⟩ (.slice A5 c5.length k5)).setCell ⟨w.heap.size, 5, none⟩ (.slice A6 c6.length k6)).setCell ⟨w.heap.size, 6, none⟩ (.slice A7 c7.length k7)) (fun b => w.heap.size ≤ b) cs x := fun {α} {c} {cs} {x} hx => c.keep hx fun b hb hl => ⟨h8.block b hl (by omega), by omega⟩
                          refine bodyPost_ret (v := .agg #[.slice A1 c1.length k1, .slice A2 c2.length k2, .slice A3 c3.length k3, .slice A4 c4.length k4, .slice A5 c5.length k5, .slice A6 c6.length k6, .slice A7 c7.length k7]) (by simp [results, Tryz.results12, go_sem, q0, q1, q2, q3, q4, q5, q6]) rfl ⟨_, _, _, _, _, _, _, rfl, ?_, ?_⟩
                          · exact ⟨_, _, rfl, ⟨_, _, rfl, hw Hf1.out, _, _, rfl, hw Hf2.out, _, _, rfl, hw Hf3.out, _, _, rfl, hw Hf4.out, hw Hf5.out⟩, _, _, rfl, hw Hf6.out, hw Hf7.out⟩
                          · exact (HB7.out.mod.trans' h8 (fun x hx q => by omega)).toBelow (fun _ _ q => q)
end Go.Proofs.YthgibbekfcenhaaGreatDoor
