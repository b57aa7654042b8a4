/- The law ScriptEncodes answers true of all cases, and leaves them as they were. Conditions: the variables that the row lists read as the program's text lays them. -/
import Derived.Test.YthgibbekfcenhaaGreatDoorRowE
import Derived.Test.YthgibbekfcenhaaGreatDoorCards
import Derived.Test.YthgibbekfcenhaaGreatDoorTie
import Derived.SevenTiedAt
namespace Go.Proofs.YthgibbekfcenhaaGreatDoor
open Go

theorem scriptEncodes_card : Rows.ScriptEncodesCardSaid :=
  Claim7.holds_tied_plain_at .later [] [.sentinel, .sentinel, .sentinel, .sentinel, .sentinel, .sentinel, .sentinel, .sentinel, .sentinel, .sentinel, .sentinel, .sentinel, .sentinel, .sentinel, .sentinel, .sentinel, .sentinel, .sentinel] true Rows.scriptEncodesCard.stood.harness true
    scriptEncodes_holds (fun _ h => by cases h) (by kernel_rfl) (fun _ h => by cases h) scriptEncodes_row_tie rfl ⟨rfl, rfl⟩ (by kernel_rfl) rfl
    (fun f fn hf hfn => by
      obtain rfl : f = 3 := Option.some.inj ((show Tryz.prog.funcNamed "millwright/millwrightlaw35.ScriptEncodes" = some 3 by kernel_rfl).symm.trans hf) |>.symm
      obtain rfl : fn = Tryz.f3 := (Option.some.inj (Tryz.func3.symm.trans hfn)).symm
      exact ⟨by kernel_rfl, fun j t ht => by
        rw [Tryz.params3] at ht
        have hm : t ∈ [32] := by simpa using Array.mem_of_getElem? ht
        have hall : ([32].all fun u => !Tryz.prog.wantsStandIn u) = true := by kernel_rfl
        exact (show Tryz.prog.wantsStandIn t = false by simpa using List.all_eq_true.1 hall t hm)⟩)
    (by kernel_rfl)
#print axioms scriptEncodes_card
end Go.Proofs.YthgibbekfcenhaaGreatDoor
