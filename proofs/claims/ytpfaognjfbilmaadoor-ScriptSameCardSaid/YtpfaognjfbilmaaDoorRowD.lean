/- The law ScriptDecodes answers true of all bytes, and leaves them as they were: the statement of the row, proved. Conditions: the variables that the row lists read as it says. -/
import Derived.Test.YtpfaognjfbilmaaDoorLawD
import Derived.Test.YtpfaognjfbilmaaDoorOpens
import Derived.Test.YtpfaognjfbilmaaDoorRows
import Derived.ProofKit
import Derived.LaidMore
import Derived.OpenShut
import Derived.Stop.Joined
namespace Go.Proofs.YtpfaognjfbilmaaDoor
open Go.ChangeShapes Go.WideShapes Go.ChangeAt Go.WideMaps Go.WideElems Go.RowKit

theorem own : ownKnob Tryd.prog.godebug = none := by kernel_rfl
abbrev laidD : List (String × DataW Unit) := Rows.scriptDecodesRow.laid
set_option maxRecDepth 100000 in
theorem door_metD (os : Os) (args : Array Value) : laidMetH Tryd.prog laidD ((World.doorLaid Tryd.prog 104 os).forCall (fun _ _ => 0) ⟨#[], args, []⟩).memory :=
  laidMetH_of_parts3 (fuel := 8) (laidMet_of_run' 8 (by kernel_rfl) (by kernel_rfl)) (by kernel_rfl) (by kernel_rfl)
theorem opens_bytes : Opens Tryd.prog 22 cBytes := opens_sl Tryd.underlying22 (by kernel_rfl) (opens_u8 Tryd.underlying5 (by kernel_rfl)) (by decide)
theorem laidOut : laidOutB Tryd.prog = true := by kernel_rfl

theorem not_agg {P : Program} {W : World} {r : Reach} {b : Nat} {t e : TypeId} {cs : Array Value} (ht : P.underlying t = some (.slice e)) (h : Value.okWide P W r b t (.agg cs)) : False := by
  simp [Value.okWide, ht, Cell.okWide, Cell.ok] at h

set_option maxRecDepth 100000 in
theorem liftedD (os : Os) (started : os.Started) (H : Type) (enc : TypeId × Value → H) :
    ReturnsInHanded {} Tryd.checked os 3 .any (fun w args => (Rows.scriptDecodesSpec.pre enc Tryd.prog Tryd.f3 [] false w args ∧ laidMetH Tryd.prog laidD w) ∧ sizedMet enc Tryd.prog Tryd.f3 (OpenSpec.ofChange Rows.scriptDecodesSpec) false w args)
      (Rows.scriptDecodesSpec.post enc Tryd.prog Tryd.f3 false true false false) := by
  refine returnsInHanded_of_change_and (C := Tryd.checked) (X := fun w _ => laidMetH Tryd.prog laidD w) (fun _ _ _ hh h => h.of_heap hh) own started (by kernel_rfl) Tryd.func3
    (ChangeSpec.witness_shaped (enc := enc) (C := Tryd.checked) (os := os) (X := fun w _ => laidMetH Tryd.prog laidD w) false (World.doorLaid Tryd.prog 104 os) #[.slice none 0 0] 8 rfl (World.shaped_of_RefB (by kernel_rfl) (by kernel_rfl)) (by kernel_rfl) (by kernel_rfl) (by kernel_rfl) (door_metD os _)) ?_
  intro W base args ds gs before hval0 hW _ _ hL _
  have hval : ∀ (j : Nat) t v, Tryd.f3.params[j]? = some t → args[j]? = some v → Value.okWide Tryd.prog W .any base t v := hval0
  have hW' := hW
  have hlt0 : ∀ p ∈ before, p.block < W.heap.size := fun p hp => hW.lt p hp
  obtain ⟨p, q, hA0, hV, rfl, hfz, hnd⟩ := hW
  have hA : DataW.TrodAll enc Tryd.prog W 0 (fun _ => true) true Tryd.f3.params.toList args.toList ds p := hA0
  rw [Tryd.params3] at hA hval
  obtain ⟨v0, d0, rfl, rfl, h0⟩ := trodAll_one hA
  obtain ⟨rfl, rfl⟩ := trodVars_none hV
  obtain ⟨l, hl⟩ : ∃ l, cBytes.rd W (fun b => b < W.heap.size) v0.cells.toList l := by
    obtain ⟨fuel, hf⟩ := h0
    exact opens_bytes.2 H enc W fuel _ _ hf
  obtain ⟨A, cap, hcells, _⟩ := id hl
  obtain rfl : v0 = .slice A l.length cap := by
    cases v0 <;> simp only [Value.cells, List.cons.injEq, and_true] at hcells
    all_goals first | exact hcells | exact absurd hcells (by simp) | skip
    exact (not_agg Tryd.underlying22 (hval 0 _ _ rfl rfl)).elim
  simp only [List.append_nil] at hW' hlt0
  have hlt : ∀ x ∈ p, x.block < W.heap.size := hlt0
  refine (decodes_law A cap l.length W l rfl hl).mono fun e W' ⟨he, hm⟩ => ?_
  subst he
  have hb : Below W.heap.size W W' := hm.toBelow fun _ _ q => q
  exact ⟨_, rfl, post_made (pa := p) (pv := []) hW' (fun _ _ _ => trodAll_mk1 (shut_bool Tryd.underlying4 _)) (trodAll_mk1 (trod1_made laidOut (by kernel_rfl) (of_decide_eq_true (by kernel_rfl)) h0 hb hlt)) rfl (by simp) hb⟩

theorem scriptDecodes_holds : Rows.ScriptDecodesSaid :=
  OpenClaim.holds_of_wide 3 Tryd.f3 rfl rfl rfl rfl rfl rfl rfl ⟨rfl, rfl, rfl, rfl, rfl⟩ rfl rfl rfl rfl rfl (by kernel_rfl) Tryd.func3 (by kernel_rfl)
    (of_decide_eq_true (by kernel_rfl)) (by unfold Func.isWrapper; first | (rw [if_pos (by decide +kernel)]; kernel_rfl) | (rw [if_neg (by decide +kernel)]; exact ⟨rfl, rfl⟩))
    (fun os started H enc _ => liftedD os started H enc)
end Go.Proofs.YtpfaognjfbilmaaDoor
