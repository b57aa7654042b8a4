/- The law ScriptDecodes answers true of all bytes, and leaves them as they were. Conditions: the variables that the row lists read as the program's text lays them. -/
import Derived.Test.YtpfaognjfbilmaaDoorRowD
import Derived.Test.YtpfaognjfbilmaaDoorCards
import Derived.Test.YtpfaognjfbilmaaDoorTie
import Derived.SevenTiedAt
namespace Go.Proofs.YtpfaognjfbilmaaDoor
open Go

theorem scriptDecodes_card : Rows.ScriptDecodesCardSaid :=
  Claim7.holds_tied_plain_at .later [] [.sentinel] true Rows.scriptDecodesCard.stood.harness false
    scriptDecodes_holds (fun _ h => by cases h) (by kernel_rfl) (fun _ h => by cases h) scriptDecodes_row_tie rfl ⟨rfl, rfl⟩ (by kernel_rfl) rfl
    (fun f fn hf hfn => by
      obtain rfl : f = 3 := Option.some.inj ((show Tryd.prog.funcNamed "millwright/millwrightlaw35.ScriptDecodes" = some 3 by kernel_rfl).symm.trans hf) |>.symm
      obtain rfl : fn = Tryd.f3 := (Option.some.inj (Tryd.func3.symm.trans hfn)).symm
      exact ⟨by kernel_rfl, fun j t ht => by
        rw [Tryd.params3] at ht
        have hm : t ∈ [22] := by simpa using Array.mem_of_getElem? ht
        have hall : ([22].all fun u => !Tryd.prog.wantsStandIn u) = true := by kernel_rfl
        exact (show Tryd.prog.wantsStandIn t = false by simpa using List.all_eq_true.1 hall t hm)⟩)
    (by kernel_rfl)
#print axioms scriptDecodes_card
end Go.Proofs.YtpfaognjfbilmaaDoor
