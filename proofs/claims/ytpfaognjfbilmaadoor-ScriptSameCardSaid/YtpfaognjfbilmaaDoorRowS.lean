/- The law ScriptSame answers true of all cases, and leaves them as they were: the statement of the row, proved. Conditions: the variables that the row lists read as it says. -/
import Derived.Test.YtpfaognjfbilmaaDoorLawS
import Derived.Test.YtpfaognjfbilmaaDoorRowD
import Derived.Test.YtpfaognjfbilmaaDoorArgs
namespace Go.Proofs.YtpfaognjfbilmaaDoor
open Go.ChangeShapes Go.WideShapes Go.ChangeAt Go.WideMaps Go.WideElems Go.RowKit

theorem seven_of {cs : Array Value} (h : cs.size = 7) : ∃ a b c d e f g, cs = #[a, b, c, d, e, f, g] := by
  obtain ⟨l⟩ := cs
  match l, h with
  | [a, b, c, d, e, f, g], _ => exact ⟨a, b, c, d, e, f, g, rfl⟩
theorem cellsCase : Tryd.prog.cellsOf 34 = 7 := by kernel_rfl
abbrev laidS : List (String × DataW Unit) := Rows.scriptSameRow.laid
set_option maxRecDepth 100000 in
theorem door_metS (os : Os) (args : Array Value) : laidMetH Tryd.prog laidS ((World.doorLaid Tryd.prog 104 os).forCall (fun _ _ => 0) ⟨#[], args, []⟩).memory :=
  laidMetH_of_parts3 (fuel := 8) (laidMet_of_run' 8 (by kernel_rfl) (by kernel_rfl)) (by kernel_rfl) (by kernel_rfl)
theorem errs_of {W : World} (h : laidMetH Tryd.prog laidS W) : Errs W := by
  rw [MakeChecks.laidMetH_plain _ _ _ (by kernel_rfl)] at h
  exact errs_of_laid h

set_option maxRecDepth 100000 in
theorem liftedS (os : Os) (started : os.Started) (H : Type) (enc : TypeId × Value → H) :
    ReturnsInHanded {} Tryd.checked os 4 .any (fun w args => (Rows.scriptSameSpec.pre enc Tryd.prog Tryd.f4 [] false w args ∧ laidMetH Tryd.prog laidS w) ∧ sizedMet enc Tryd.prog Tryd.f4 (OpenSpec.ofChange Rows.scriptSameSpec) false w args)
      (Rows.scriptSameSpec.post enc Tryd.prog Tryd.f4 false true false false) := by
  refine returnsInHanded_of_change_and (C := Tryd.checked) (X := fun w _ => laidMetH Tryd.prog laidS w) (fun _ _ _ hh h => h.of_heap hh) own started (by kernel_rfl) Tryd.func4
    (ChangeSpec.witness_shaped (enc := enc) (C := Tryd.checked) (os := os) (X := fun w _ => laidMetH Tryd.prog laidS w) false (World.doorLaid Tryd.prog 104 os) #[.agg #[.slice none 0 0, .slice none 0 0, .slice none 0 0, .slice none 0 0, .slice none 0 0, .slice none 0 0, .slice none 0 0], .agg #[.slice none 0 0, .slice none 0 0, .slice none 0 0, .slice none 0 0, .slice none 0 0, .slice none 0 0, .slice none 0 0]] 8 rfl (World.shaped_of_RefB (by kernel_rfl) (by kernel_rfl)) (by kernel_rfl) (by kernel_rfl) (by kernel_rfl) (door_metS os _)) ?_
  intro W base args ds gs before hval0 hW _ hsz hL _
  have hval : ∀ (j : Nat) t v, Tryd.f4.params[j]? = some t → args[j]? = some v → Value.okWide Tryd.prog W .any base t v := hval0
  have hW' := hW
  have hlt0 : ∀ p ∈ before, p.block < W.heap.size := fun p hp => hW.lt p hp
  obtain ⟨p, q, hA0, hV, rfl, hfz, hnd⟩ := hW
  have hA : DataW.TrodAll enc Tryd.prog W 0 (fun _ => true) true Tryd.f4.params.toList args.toList ds p := hA0
  rw [Tryd.params4] at hA hval
  obtain ⟨v1, v2, d1, d2, p1, p2, rfl, rfl, rfl, h1, h2⟩ := trodAll_two hA
  obtain ⟨rfl, rfl⟩ := trodVars_none hV
  have hws : ∀ n ∈ DataW.weightsEach Tryd.prog [34, 34] [d1, d2], n ≤ reachBytes := by
    have h0 : (DataW.weightsEach Tryd.prog (Tryd.f4.params.toList ++ []) ([d1, d2] ++ [])).all (· ≤ reachBytes) = true := hsz
    rw [Tryd.params4] at h0
    exact fun n hn => by simpa using List.all_eq_true.1 h0 n hn
  obtain ⟨cs1, rfl, hz1⟩ := okWide_struct Tryd.underlying34 (hval 0 _ _ rfl rfl)
  obtain ⟨cs2, rfl, hz2⟩ := okWide_struct Tryd.underlying34 (hval 1 _ _ rfl rfl)
  obtain ⟨c, hc, hcb⟩ : ∃ c, cCase.rd W (fun b => b < W.heap.size) cs1.toList c ∧ c.world.vars.length ≤ 2600000000000 := by
    obtain ⟨fuel, hf⟩ := h1
    obtain ⟨c, hc⟩ := o_case.2 H enc W fuel _ _ hf
    exact ⟨c, hc, case_vars hf hc fun n hn => hws n (DataW.weights_mem_each (j := 0) rfl rfl n hn)⟩
  obtain ⟨d, hd, hdb⟩ : ∃ d, cCase.rd W (fun b => b < W.heap.size) cs2.toList d ∧ d.world.vars.length ≤ 2600000000000 := by
    obtain ⟨fuel, hf⟩ := h2
    obtain ⟨d, hd⟩ := o_case.2 H enc W fuel _ _ hf
    exact ⟨d, hd, case_vars hf hd fun n hn => hws n (DataW.weights_mem_each (j := 1) rfl rfl n hn)⟩
  obtain ⟨a1, a2, a3, a4, a5, a6, a7, rfl⟩ := seven_of (hz1.trans cellsCase)
  obtain ⟨b1, b2, b3, b4, b5, b6, b7, rfl⟩ := seven_of (hz2.trans cellsCase)
  simp only [List.append_nil] at hW' hlt0
  refine (same_law W _ _ c d _ _ _ _ _ _ _ _ _ _ _ _ _ _ hc hd hcb hdb (errs_of hL)).mono fun e W' ⟨he, hm⟩ => ?_
  subst he
  have hb : Below W.heap.size W W' := hm.toBelow fun _ _ q => q
  exact ⟨_, rfl, post_made (pa := p1 ++ p2) (pv := []) hW' (fun _ _ _ => trodAll_mk1 (shut_bool Tryd.underlying4 _)) (trodAll_mk2 (trod1_made laidOut (by kernel_rfl) (of_decide_eq_true (by kernel_rfl)) h1 hb fun x hx => hlt0 x (List.mem_append_left _ hx)) (trod1_made laidOut (by kernel_rfl) (of_decide_eq_true (by kernel_rfl)) h2 hb fun x hx => hlt0 x (List.mem_append_right _ hx))) rfl (by simp) hb⟩

theorem scriptSame_holds : Rows.ScriptSameSaid :=
  OpenClaim.holds_of_wide 4 Tryd.f4 rfl rfl rfl rfl rfl rfl rfl ⟨rfl, rfl, rfl, rfl, rfl⟩ rfl rfl rfl rfl rfl (by kernel_rfl) Tryd.func4 (by kernel_rfl)
    (of_decide_eq_true (by kernel_rfl)) (by unfold Func.isWrapper; first | (rw [if_pos (by decide +kernel)]; kernel_rfl) | (rw [if_neg (by decide +kernel)]; exact ⟨rfl, rfl⟩))
    (fun os started H enc _ => liftedS os started H enc)
end Go.Proofs.YtpfaognjfbilmaaDoor
