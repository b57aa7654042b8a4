/-
  DERIVED. GIVEN WITH THE SEED: THE CARDS: each row of YthgibbekfcenhaaGreatDoorRows.lean that lists a variable, with what it lists TIED to the program's text (the seventh form; the later family's looks); each row that meets fmt, with fmt's text TOLD by the authors' own Lean function (tested against real Go, not proved from fmt's source: count such statements apart). THE CARD IS WHAT COUNTS. Prove the row's statement (the work); the ties are given (YthgibbekfcenhaaGreatDoorTie.lean); close each card by the builder's one call (the guide's Derived/Test/ToyasCard.lean, 'card_holds'). Laid BY PROGRAM, IN A SANDBOX (cutbox-door.mjs). By AI agents, Wed Nov 11 2026. No macro, syntax, notation, axiom, sorry.
-/
import Derived.Test.YthgibbekfcenhaaGreatDoorRows
import GoSem.ClaimSeven
namespace Go.Proofs.YthgibbekfcenhaaGreatDoor
namespace Rows

/-- THE TIED CARD OF 'millwrightlaw35.ScriptEncodes'. -/
def scriptEncodesCard : Claim7 := { stood := { row := scriptEncodesRow, standIns := [], harness := (true, "40c5e8fbeba5206509c09496d27da906d3718671982d5992ca9475334cc9c16b"), looks := true }, kinds := [], alts := [], laidByText := true, laidKinds := [.sentinel, .sentinel, .sentinel, .sentinel, .sentinel, .sentinel, .sentinel, .sentinel, .sentinel, .sentinel, .sentinel, .sentinel, .sentinel, .sentinel, .sentinel, .sentinel, .sentinel, .sentinel], laidTests := true, laidLooks := .later }
def ScriptEncodesCardSaid : Prop := Claim7.holds Tryz.pinned (.plain (OpenSpec.ofChange scriptEncodesSpec)) scriptEncodesCard

/-- THE SECOND FORM's CARD OF 'millwrightlaw35.ScriptEncodes'. -/
def scriptEncodesUptoCard : Claim7 := { stood := { row := scriptEncodesUptoRow, standIns := [], harness := (true, "40c5e8fbeba5206509c09496d27da906d3718671982d5992ca9475334cc9c16b"), looks := true }, kinds := [], alts := [], laidByText := true, laidKinds := [.sentinel, .sentinel, .sentinel, .sentinel, .sentinel, .sentinel, .sentinel, .sentinel, .sentinel, .sentinel, .sentinel, .sentinel, .sentinel, .sentinel, .sentinel, .sentinel, .sentinel, .sentinel], laidTests := true, laidLooks := .later }
def ScriptEncodesUptoCardSaid : Prop := Claim7.holds Tryz.pinned (.plain (OpenSpec.upto scriptEncodesSpec)) scriptEncodesUptoCard
end Rows
end Go.Proofs.YthgibbekfcenhaaGreatDoor
