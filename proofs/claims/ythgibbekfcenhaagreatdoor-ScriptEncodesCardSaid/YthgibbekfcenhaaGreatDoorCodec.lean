/- How the program's values read as the plain law's data. -/
import Derived.Test.YthgibbekfcenhaaGreatDoorBase
import Derived.Test.YthgibbekfcenhaaGreatDoorPure
namespace Go.Proofs.YthgibbekfcenhaaGreatDoor
open Go.RowKit

def cFile : Cd PFile := cIso (cPair cStr (cPair cStr cI64)) fun f => (f.name, f.content, f.time)
def cVar : Cd PVar := cIso (cPair cStr (cPair (cSl cStr) (cPair cI64 cBool))) fun v => (v.name, v.words, v.level, v.hidden)
def cOut : Cd POut := cIso (cPair cStr cStr) fun o => (o.command, o.text)
def cEff : Cd PEff := cIso (cPair cI64 (cPair cStr cStr)) fun e => (e.op, e.name, e.text)
def cOutc : Cd POutc := cIso (cPair cStr (cPair cI64 (cSl cEff))) fun o => (o.target, o.exit, o.effects)
def cVer : Cd PVer := cIso (cPair cStr (cPair cStr (cPair cStr cBool))) fun v => (v.prog, v.target, v.prereq, v.old)
def cWorld : Cd PWorld := cIso (cPair (cSl cFile) (cPair (cSl cVar) (cPair (cSl cOut) (cPair (cSl cOutc) (cSl cVer))))) fun w => (w.files, w.vars, w.outputs, w.outcomes, w.verdicts)
def cCase : Cd PCase := cIso (cPair cWorld (cPair (cSl cStr) (cSl cI64))) fun c => (c.world, c.args, c.picks)

variable {w : World} {F : Fp} {cs : List Value}
theorem cFile_iff {f : PFile} : cFile.rd w F cs f ↔ cs = [.string f.name, .string f.content, .int .i64 f.time] ∧ f.name.size ≤ maxLen ∧ f.content.size ≤ maxLen ∧ -9223372036854775808 ≤ f.time ∧ f.time ≤ 9223372036854775807 := by
  constructor
  · rintro ⟨p, q, rfl, ⟨rfl, h1⟩, p', q', rfl, ⟨rfl, h2⟩, rfl, h3⟩
    exact ⟨rfl, h1, h2, h3⟩
  · rintro ⟨rfl, h1, h2, h3⟩
    exact ⟨_, _, rfl, ⟨rfl, h1⟩, _, _, rfl, ⟨rfl, h2⟩, rfl, h3⟩
theorem cOut_iff {f : POut} : cOut.rd w F cs f ↔ cs = [.string f.command, .string f.text] ∧ f.command.size ≤ maxLen ∧ f.text.size ≤ maxLen := by
  constructor
  · rintro ⟨p, q, rfl, ⟨rfl, h1⟩, rfl, h2⟩
    exact ⟨rfl, h1, h2⟩
  · rintro ⟨rfl, h1, h2⟩
    exact ⟨_, _, rfl, ⟨rfl, h1⟩, rfl, h2⟩
theorem cEff_iff {f : PEff} : cEff.rd w F cs f ↔ cs = [.int .i64 f.op, .string f.name, .string f.text] ∧ (-9223372036854775808 ≤ f.op ∧ f.op ≤ 9223372036854775807) ∧ f.name.size ≤ maxLen ∧ f.text.size ≤ maxLen := by
  constructor
  · rintro ⟨p, q, rfl, ⟨rfl, h1⟩, p', q', rfl, ⟨rfl, h2⟩, rfl, h3⟩
    exact ⟨rfl, h1, h2, h3⟩
  · rintro ⟨rfl, h1, h2, h3⟩
    exact ⟨_, _, rfl, ⟨rfl, h1⟩, _, _, rfl, ⟨rfl, h2⟩, rfl, h3⟩
theorem cVer_iff {f : PVer} : cVer.rd w F cs f ↔ cs = [.string f.prog, .string f.target, .string f.prereq, .bool f.old] ∧ f.prog.size ≤ maxLen ∧ f.target.size ≤ maxLen ∧ f.prereq.size ≤ maxLen := by
  constructor
  · rintro ⟨p, q, rfl, ⟨rfl, h1⟩, p', q', rfl, ⟨rfl, h2⟩, p3, q3, rfl, ⟨rfl, h3⟩, rfl⟩
    exact ⟨rfl, h1, h2, h3⟩
  · rintro ⟨rfl, h1, h2, h3⟩
    exact ⟨_, _, rfl, ⟨rfl, h1⟩, _, _, rfl, ⟨rfl, h2⟩, _, _, rfl, ⟨rfl, h3⟩, rfl⟩
end Go.Proofs.YthgibbekfcenhaaGreatDoor
