/- The law ScriptSame answers true of all cases, and leaves them as they were. Conditions: the variables that the row lists read as the program's text lays them. -/
import Derived.Test.YtpfaognjfbilmaaDoorRowS
import Derived.Test.YtpfaognjfbilmaaDoorCards
import Derived.Test.YtpfaognjfbilmaaDoorTie
import Derived.SevenTiedAt
namespace Go.Proofs.YtpfaognjfbilmaaDoor
open Go

theorem scriptSame_card : Rows.ScriptSameCardSaid :=
  Claim7.holds_tied_plain_at .later [] [.sentinel, .sentinel, .sentinel, .sentinel, .sentinel] true Rows.scriptSameCard.stood.harness false
    scriptSame_holds (fun _ h => by cases h) (by kernel_rfl) (fun _ h => by cases h) scriptSame_row_tie rfl ⟨rfl, rfl⟩ (by kernel_rfl) rfl
    (fun f fn hf hfn => by
      obtain rfl : f = 4 := Option.some.inj ((show Tryd.prog.funcNamed "millwright/millwrightlaw35.ScriptSame" = some 4 by kernel_rfl).symm.trans hf) |>.symm
      obtain rfl : fn = Tryd.f4 := (Option.some.inj (Tryd.func4.symm.trans hfn)).symm
      exact ⟨by kernel_rfl, fun j t ht => by
        rw [Tryd.params4] at ht
        have hm : t ∈ [34, 34] := by simpa using Array.mem_of_getElem? ht
        have hall : ([34, 34].all fun u => !Tryd.prog.wantsStandIn u) = true := by kernel_rfl
        exact (show Tryd.prog.wantsStandIn t = false by simpa using List.all_eq_true.1 hall t hm)⟩)
    (by kernel_rfl)
#print axioms scriptSame_card
end Go.Proofs.YtpfaognjfbilmaaDoor
