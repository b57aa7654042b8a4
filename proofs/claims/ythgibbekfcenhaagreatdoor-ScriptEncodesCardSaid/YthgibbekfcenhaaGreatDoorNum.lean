/- The walks of num.all and of num.Num at ErrForm. -/
import Derived.Test.YthgibbekfcenhaaGreatDoorIs
import Derived.Test.YthgibbekfcenhaaGreatDoorEnvD
namespace Go.Proofs.YthgibbekfcenhaaGreatDoor
open Go.RowKit

/-- All the errors that stand in variables. -/
structure AllErrs (W : World) : Prop where
  eRange : ErrAt W 1
  eLong : ErrAt W 2
  eForm : ErrAt W 0
  eName : ErrAt W 3
  eQuote : ErrAt W 4
  eRegex : ErrAt W 5
  eAttr : ErrAt W 6
  eNone : ErrAt W 7
  eDup : ErrAt W 8
  eFull : ErrAt W 9
  eDepth : ErrAt W 10
  eCycle : ErrAt W 11
  eAmbig : ErrAt W 12
  eState : ErrAt W 13
  eFail : ErrAt W 14
  eFlag : ErrAt W 15
  eKind : ErrAt W 16
  eLost : ErrAt W 17
theorem AllErrs.mod {W W' : World} (h : AllErrs W) (hm : Mod (fun _ => False) W W') : AllErrs W' :=
  ⟨h.eRange.mod hm fun q => q, h.eLong.mod hm fun q => q, h.eForm.mod hm fun q => q, h.eName.mod hm fun q => q, h.eQuote.mod hm fun q => q, h.eRegex.mod hm fun q => q, h.eAttr.mod hm fun q => q, h.eNone.mod hm fun q => q, h.eDup.mod hm fun q => q, h.eFull.mod hm fun q => q, h.eDepth.mod hm fun q => q, h.eCycle.mod hm fun q => q, h.eAmbig.mod hm fun q => q, h.eState.mod hm fun q => q, h.eFail.mod hm fun q => q, h.eFlag.mod hm fun q => q, h.eKind.mod hm fun q => q, h.eLost.mod hm fun q => q⟩
/-- Three errors, of which the third is neither of the others. -/
structure ThreeErrs (W : World) (aR aL aF : Addr) : Prop where
  cR : W.cell? ⟨1, 0, none⟩ = some (.iface 196 (.pointer (some aR)))
  cL : W.cell? ⟨2, 0, none⟩ = some (.iface 196 (.pointer (some aL)))
  cF : W.cell? ⟨0, 0, none⟩ = some (.iface 196 (.pointer (some aF)))
  neR : aF ≠ aR
  neL : aF ≠ aL
  rR : ∃ c t, W.heap[aR.block]? = some (.cells c t (0, 0))
  rL : ∃ c t, W.heap[aL.block]? = some (.cells c t (0, 0))
  rF : ∃ c t, W.heap[aF.block]? = some (.cells c t (0, 0))
theorem cell_kept {W W' : World} {g : Nat} {v : Value} (h : W.cell? ⟨g, 0, none⟩ = some v) (hm : Mod (fun _ => False) W W') : W'.cell? ⟨g, 0, none⟩ = some v := by
  have hl : g < W.heap.size := by
    rcases Nat.lt_or_ge g W.heap.size with h1 | h1
    · exact h1
    · simp [World.cell?, Array.getElem?_eq_none h1] at h
  exact (World.cell?_of_block (a := ⟨g, 0, none⟩) (hm.block g hl fun q => q)).trans h
theorem ThreeErrs.mod {W W' : World} {aR aL aF : Addr} (h : ThreeErrs W aR aL aF) (hm : Mod (fun _ => False) W W') : ThreeErrs W' aR aL aF := by
  obtain ⟨h1, h2, h3, h4, h5, ⟨c1, t1, r1⟩, ⟨c2, t2, r2⟩, ⟨c3, t3, r3⟩⟩ := h
  exact ⟨cell_kept h1 hm, cell_kept h2 hm, cell_kept h3 hm, h4, h5, ⟨c1, t1, hm.heapF r1⟩, ⟨c2, t2, hm.heapF r2⟩, ⟨c3, t3, hm.heapF r3⟩⟩

set_option maxRecDepth 10000 in
set_option maxHeartbeats 1000000 in
theorem all_calls (w : World) (h : AllErrs w) (aR aL aF : Addr) (h3 : ThreeErrs w aR aL aF) : Calls Tryz.prog 23 #[] w (fun e w' => ∃ blk cs, e = .returned (.slice (some ⟨blk, 0, none⟩) 18 18) ∧ w'.heap[blk]? = some (.cells cs 48 (0, 0)) ∧
    cs[0]? = some (.iface 196 (.pointer (some aR))) ∧ cs[1]? = some (.iface 196 (.pointer (some aL))) ∧ cs[2]? = some (.iface 196 (.pointer (some aF))) ∧ Mod (fun _ => False) w w') := by
  have k0 := h3.cR
  have k1 := h3.cL
  have k2 := h3.cF
  obtain ⟨t3, x3, k3⟩ := h.eName
  obtain ⟨t4, x4, k4⟩ := h.eQuote
  obtain ⟨t5, x5, k5⟩ := h.eRegex
  obtain ⟨t6, x6, k6⟩ := h.eAttr
  obtain ⟨t7, x7, k7⟩ := h.eNone
  obtain ⟨t8, x8, k8⟩ := h.eDup
  obtain ⟨t9, x9, k9⟩ := h.eFull
  obtain ⟨t10, x10, k10⟩ := h.eDepth
  obtain ⟨t11, x11, k11⟩ := h.eCycle
  obtain ⟨t12, x12, k12⟩ := h.eAmbig
  obtain ⟨t13, x13, k13⟩ := h.eState
  obtain ⟨t14, x14, k14⟩ := h.eFail
  obtain ⟨t15, x15, k15⟩ := h.eFlag
  obtain ⟨t16, x16, k16⟩ := h.eKind
  obtain ⟨t17, x17, k17⟩ := h.eLost
  clear h h3
  go_enter Tryz.func23, Tryz.ntmps23
  go_wp2_with fail
  go_ret
  exact ⟨_, _, rfl, heap_alloc_new _ _, rfl, rfl, rfl, (Mod.refl _ _).alloc _⟩

set_option maxRecDepth 10000 in
set_option maxHeartbeats 1000000 in
theorem num_form (w : World) (h : AllErrs w) (aR aL aF : Addr) (h3 : ThreeErrs w aR aL aF) : Calls Tryz.prog 10 #[.iface 196 (.pointer (some aF))] w (fun e w' => e = .returned (.int .i64 3) ∧ Mod (fun _ => False) w w') := by
  have H := hidden h
  have H3 := hidden h3
  clear h h3
  go_enter Tryz.func10, Tryz.ntmps10
  go_wp2_with fail
  refine (all_calls _ H.out aR aL aF H3.out).mono ?_
  rintro e w1 ⟨blk, cs, rfl, hb, h0, h1, h2, hm⟩
  have b0 := cell_lit hb (j := 0) h0
  have b1 := cell_lit hb (j := 1) h1
  have b2 := cell_lit hb (j := 2) h2
  have Hm := hidden hm
  have H31 := hidden (H3.out.mod hm)
  clear hb h0 h1 h2 hm
  go_wp2_with fail
  go_loop [9] (fun i => ∃ k : Nat, k ≤ 2 ∧ i = .int .i64 k) (fun i => 3 - (intOf i).toNat)
  case atStart => exact ⟨0, by omega, rfl⟩
  obtain ⟨k, hk, rfl⟩ := hrel
  obtain ⟨cR, tR, rR⟩ := H31.out.rR
  obtain ⟨cL, tL, rL⟩ := H31.out.rL
  obtain ⟨cF, tF, rF⟩ := H31.out.rF
  have RR := hidden rR
  have RL := hidden rL
  have RF := hidden rF
  clear rR rL rF
  rcases (by omega : k = 0 ∨ k = 1 ∨ k = 2) with rfl | rfl | rfl
  · go_wp2_with fail
    refine (is_other aF aR cF cR tF tR _ H31.out.neR RF.out RR.out).mono ?_
    rintro e w2 ⟨rfl, rfl⟩
    go_wp2_with fail
    go_round
    case rel => exact ⟨1, by omega, rfl⟩
    case measure => simp [intOf]
  · go_wp2_with fail
    refine (is_other aF aL cF cL tF tL _ H31.out.neL RF.out RL.out).mono ?_
    rintro e w2 ⟨rfl, rfl⟩
    go_wp2_with fail
    go_round
    case rel => exact ⟨2, by omega, rfl⟩
    case measure => simp [intOf]
  · go_wp2_with fail
    refine (is_same aF _).mono ?_
    rintro e w2 ⟨rfl, rfl⟩
    go_wp2_with fail
    go_ret
    exact ⟨rfl, Hm.out⟩
end Go.Proofs.YthgibbekfcenhaaGreatDoor
