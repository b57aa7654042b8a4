/- The law ScriptEncodes answers true of all cases, and leaves them as they were: the statement of the row, proved. Conditions: the variables that the row lists read as it says. -/
import Derived.Test.YthgibbekfcenhaaGreatDoorLawE
import Derived.Test.YthgibbekfcenhaaGreatDoorArgs
import Derived.ProofKit
import Derived.LaidMore
import Derived.OpenShut
import Derived.Stop.Joined
import Derived.Stop.LaidTwo
namespace Go.Proofs.YthgibbekfcenhaaGreatDoor
open Go.ChangeShapes Go.WideShapes Go.ChangeAt Go.WideMaps Go.WideElems Go.RowKit

theorem ownE : ownKnob Tryz.prog.godebug = none := by kernel_rfl
theorem laidOutE : laidOutB Tryz.prog = true := by kernel_rfl
theorem sevenE {cs : Array Value} (h : cs.size = 7) : ∃ a b c d e f g, cs = #[a, b, c, d, e, f, g] := by
  obtain ⟨l⟩ := cs
  match l, h with
  | [a, b, c, d, e, f, g], _ => exact ⟨a, b, c, d, e, f, g, rfl⟩
theorem cellsCaseE : Tryz.prog.cellsOf 32 = 7 := by kernel_rfl
theorem laid_skip {P : Program} {x y : String × DataW Unit} {r : List (String × DataW Unit)} {w : World} (h : laidMet P (x :: y :: r) w) : laidMet P (x :: r) w := by
  obtain ⟨ps, hv, hnd, hrows⟩ := h
  obtain ⟨n, d⟩ := x
  obtain ⟨m, e⟩ := y
  obtain ⟨g, t, cs, fuel, p, q, h1, h2, h3, h4, hq, rfl⟩ := hv
  obtain ⟨g', t', cs', fuel', p', q', _, _, _, _, hq', rfl⟩ := hq
  refine ⟨MemPlace.row ⟨g, 0, none⟩ cs.size ++ p ++ q', ⟨g, t, cs, fuel, p, q', h1, h2, h3, h4, hq', rfl⟩, ?_, fun b off hm => hrows b off ?_⟩
  · refine List.Nodup.sublist ?_ hnd
    exact List.Sublist.append (List.Sublist.refl _) (List.sublist_append_right _ _)
  · rcases List.mem_append.1 hm with hm | hm
    · exact List.mem_append_left _ hm
    · exact List.mem_append_right _ (List.mem_append_right _ hm)
abbrev laidE : List (String × DataW Unit) := Rows.scriptEncodesRow.laid
set_option maxRecDepth 100000 in
theorem door_metE (os : Os) (args : Array Value) : laidMetH Tryz.prog laidE ((World.doorLaid Tryz.prog 351 os).forCall (fun _ _ => 0) ⟨#[], args, []⟩).memory :=
  laidMetH_of_parts3 (fuel := 8) (laidMet_of_run' 8 (by kernel_rfl) (by kernel_rfl)) (by kernel_rfl) (by kernel_rfl)
theorem plainE {W : World} (h : laidMetH Tryz.prog laidE W) : laidMet Tryz.prog laidE W := by
  rwa [MakeChecks.laidMetH_plain _ _ _ (by kernel_rfl)] at h
theorem all_of_laid {W : World} (h : laidMet Tryz.prog Rows.scriptEncodesRow.laid W) : AllErrs W where
  eRange := errAt_of h (by kernel_rfl) (by kernel_rfl)
  eLong := errAt_of h.tail (by kernel_rfl) (by kernel_rfl)
  eForm := errAt_of h.tail.tail (by kernel_rfl) (by kernel_rfl)
  eName := errAt_of h.tail.tail.tail (by kernel_rfl) (by kernel_rfl)
  eQuote := errAt_of h.tail.tail.tail.tail (by kernel_rfl) (by kernel_rfl)
  eRegex := errAt_of h.tail.tail.tail.tail.tail (by kernel_rfl) (by kernel_rfl)
  eAttr := errAt_of h.tail.tail.tail.tail.tail.tail (by kernel_rfl) (by kernel_rfl)
  eNone := errAt_of h.tail.tail.tail.tail.tail.tail.tail (by kernel_rfl) (by kernel_rfl)
  eDup := errAt_of h.tail.tail.tail.tail.tail.tail.tail.tail (by kernel_rfl) (by kernel_rfl)
  eFull := errAt_of h.tail.tail.tail.tail.tail.tail.tail.tail.tail (by kernel_rfl) (by kernel_rfl)
  eDepth := errAt_of h.tail.tail.tail.tail.tail.tail.tail.tail.tail.tail (by kernel_rfl) (by kernel_rfl)
  eCycle := errAt_of h.tail.tail.tail.tail.tail.tail.tail.tail.tail.tail.tail (by kernel_rfl) (by kernel_rfl)
  eAmbig := errAt_of h.tail.tail.tail.tail.tail.tail.tail.tail.tail.tail.tail.tail (by kernel_rfl) (by kernel_rfl)
  eState := errAt_of h.tail.tail.tail.tail.tail.tail.tail.tail.tail.tail.tail.tail.tail (by kernel_rfl) (by kernel_rfl)
  eFail := errAt_of h.tail.tail.tail.tail.tail.tail.tail.tail.tail.tail.tail.tail.tail.tail (by kernel_rfl) (by kernel_rfl)
  eFlag := errAt_of h.tail.tail.tail.tail.tail.tail.tail.tail.tail.tail.tail.tail.tail.tail.tail (by kernel_rfl) (by kernel_rfl)
  eKind := errAt_of h.tail.tail.tail.tail.tail.tail.tail.tail.tail.tail.tail.tail.tail.tail.tail.tail (by kernel_rfl) (by kernel_rfl)
  eLost := errAt_of h.tail.tail.tail.tail.tail.tail.tail.tail.tail.tail.tail.tail.tail.tail.tail.tail.tail (by kernel_rfl) (by kernel_rfl)
theorem three_of_laid {W : World} (h : laidMet Tryz.prog Rows.scriptEncodesRow.laid W) : ∃ aR aL aF, ThreeErrs W aR aL aF := by
  obtain ⟨aR, aF, s0, s1, c0, c1, t0, t1, hvR, hvF, _, _, _, _, _, _, hne, rR, rF⟩ := laid_sentinels2 (g0 := 1) (g1 := 0) (laid_skip h) (by kernel_rfl) (by kernel_rfl) (by kernel_rfl) (by kernel_rfl) Tryz.underlying48 errRow Tryz.underlying196 Tryz.underlying222 rfl rfl Tryz.underlying9 (by kernel_rfl) (by kernel_rfl)
  obtain ⟨aL, aF', s0', s1', c0', c1', t0', t1', hvL, hvF', _, _, _, _, _, _, hne', rL, _⟩ := laid_sentinels2 (g0 := 2) (g1 := 0) h.tail (by kernel_rfl) (by kernel_rfl) (by kernel_rfl) (by kernel_rfl) Tryz.underlying48 errRow Tryz.underlying196 Tryz.underlying222 rfl rfl Tryz.underlying9 (by kernel_rfl) (by kernel_rfl)
  obtain rfl : aF = aF' := by
    have := Option.some.inj (hvF.symm.trans hvF')
    simpa using this
  refine ⟨aR, aL, aF, ?_, ?_, ?_, hne.symm, hne'.symm, ⟨_, _, rR⟩, ⟨_, _, rL⟩, ⟨_, _, rF⟩⟩
  · have := World.var?_cell (g := 1) (by kernel_rfl) hvR 0; simpa using this
  · have := World.var?_cell (g := 2) (by kernel_rfl) hvL 0; simpa using this
  · have := World.var?_cell (g := 0) (by kernel_rfl) hvF 0; simpa using this

set_option maxRecDepth 100000 in
theorem liftedE (os : Os) (started : os.Started) (H : Type) (enc : TypeId × Value → H) :
    ReturnsInHanded {} Tryz.checked os 3 .any (fun w args => (Rows.scriptEncodesSpec.pre enc Tryz.prog Tryz.f3 [] false w args ∧ laidMetH Tryz.prog laidE w) ∧ sizedMet enc Tryz.prog Tryz.f3 (OpenSpec.ofChange Rows.scriptEncodesSpec) false w args)
      (Rows.scriptEncodesSpec.post enc Tryz.prog Tryz.f3 false true false false) := by
  refine returnsInHanded_of_change_and (C := Tryz.checked) (X := fun w _ => laidMetH Tryz.prog laidE w) (fun _ _ _ hh h => h.of_heap hh) ownE started (by kernel_rfl) Tryz.func3
    (ChangeSpec.witness_shaped (enc := enc) (C := Tryz.checked) (os := os) (X := fun w _ => laidMetH Tryz.prog laidE w) false (World.doorLaid Tryz.prog 351 os) #[.agg #[.slice none 0 0, .slice none 0 0, .slice none 0 0, .slice none 0 0, .slice none 0 0, .slice none 0 0, .slice none 0 0]] 8 rfl (World.shaped_of_RefB (by kernel_rfl) (by kernel_rfl)) (by kernel_rfl) (by kernel_rfl) (by kernel_rfl) (door_metE os _)) ?_
  intro W base args ds gs before hval0 hW _ hsz hL _
  have hval : ∀ (j : Nat) t v, Tryz.f3.params[j]? = some t → args[j]? = some v → Value.okWide Tryz.prog W .any base t v := hval0
  have hW' := hW
  have hlt0 : ∀ p ∈ before, p.block < W.heap.size := fun p hp => hW.lt p hp
  obtain ⟨p, q, hA0, hV, rfl, hfz, hnd⟩ := hW
  have hA : DataW.TrodAll enc Tryz.prog W 0 (fun _ => true) true Tryz.f3.params.toList args.toList ds p := hA0
  rw [Tryz.params3] at hA hval
  obtain ⟨v1, d1, rfl, rfl, h1⟩ := trodAll_one hA
  obtain ⟨rfl, rfl⟩ := trodVars_none hV
  have hws : ∀ n ∈ DataW.weightsEach Tryz.prog [32] [d1], n ≤ reachBytes := by
    have h0 : (DataW.weightsEach Tryz.prog (Tryz.f3.params.toList ++ []) ([d1] ++ [])).all (· ≤ reachBytes) = true := hsz
    rw [Tryz.params3] at h0
    exact fun n hn => by simpa using List.all_eq_true.1 h0 n hn
  obtain ⟨cs1, rfl, hz1⟩ := okWide_struct Tryz.underlying32 (hval 0 _ _ rfl rfl)
  obtain ⟨c, hc, hcb⟩ : ∃ c, cCase.rd W (fun b => b < W.heap.size) cs1.toList c ∧ c.world.vars.length ≤ 2600000000000 := by
    obtain ⟨fuel, hf⟩ := h1
    obtain ⟨c, hc⟩ := o_case.2 H enc W fuel _ _ hf
    exact ⟨c, hc, case_vars hf hc fun n hn => hws n (DataW.weights_mem_each (j := 0) rfl rfl n hn)⟩
  obtain ⟨a1, a2, a3, a4, a5, a6, a7, rfl⟩ := sevenE (hz1.trans cellsCaseE)
  simp only [List.append_nil] at hW' hlt0
  obtain ⟨aR, aL, aF, h3⟩ := three_of_laid (plainE hL)
  refine (encodes_law W _ c _ _ _ _ _ _ _ hc hcb (all_of_laid (plainE hL)) aR aL aF h3).mono fun e W' ⟨he, hm⟩ => ?_
  subst he
  have hb : Below W.heap.size W W' := hm.toBelow fun _ _ q => q
  exact ⟨_, rfl, post_made (pa := p) (pv := []) hW' (fun _ _ _ => trodAll_mk1 (shut_bool Tryz.underlying4 _)) (trodAll_mk1 (trod1_made laidOutE (by kernel_rfl) (of_decide_eq_true (by kernel_rfl)) h1 hb hlt0)) rfl (by simp) hb⟩

theorem scriptEncodes_holds : Rows.ScriptEncodesSaid :=
  OpenClaim.holds_of_wide 3 Tryz.f3 rfl rfl rfl rfl rfl rfl rfl ⟨rfl, rfl, rfl, rfl, rfl⟩ rfl rfl rfl rfl rfl (by kernel_rfl) Tryz.func3 (by kernel_rfl)
    (of_decide_eq_true (by kernel_rfl)) (by unfold Func.isWrapper; first | (rw [if_pos (by decide +kernel)]; kernel_rfl) | (rw [if_neg (by decide +kernel)]; exact ⟨rfl, rfl⟩))
    (fun os started H enc _ => liftedE os started H enc)
end Go.Proofs.YthgibbekfcenhaaGreatDoor
