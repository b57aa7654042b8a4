/- What '==' says of the program's structs. -/
import Derived.Test.YthgibbekfcenhaaGreatDoorSame
namespace Go.Proofs.YthgibbekfcenhaaGreatDoor
open Go.RowKit

theorem toList_iff (x y : ByteArray) : (x.toList = y.toList) = (x = y) := by
  have := toList_beq x y
  by_cases h : x = y
  · simp [h]
  · rw [decide_eq_false h, beq_eq_false_iff_ne] at this
    simp [this, h]
theorem eqFile (x y : PFile) (w : World) : (Op.equalIn 10000 70 (.agg #[.string x.name, .string x.content, .int .i64 x.time]) (.agg #[.string y.name, .string y.content, .int .i64 y.time])).run Tryz.prog w = .ok (decide (x = y)) w := by
  obtain ⟨x0, x1, x2⟩ := x
  obtain ⟨y0, y1, y2⟩ := y
  rw [show (10000 : Nat) = 9999 + 1 from rfl]
  go_simp
  simp only [toList_iff]
  by_cases h0 : x0 = y0 <;> by_cases h1 : x1 = y1 <;> by_cases h2 : x2 = y2 <;> simp [h0, h1, h2]
theorem eqOut (x y : POut) (w : World) : (Op.equalIn 10000 74 (.agg #[.string x.command, .string x.text]) (.agg #[.string y.command, .string y.text])).run Tryz.prog w = .ok (decide (x = y)) w := by
  obtain ⟨x0, x1⟩ := x
  obtain ⟨y0, y1⟩ := y
  rw [show (10000 : Nat) = 9999 + 1 from rfl]
  go_simp
  simp only [toList_iff]
  by_cases h0 : x0 = y0 <;> by_cases h1 : x1 = y1 <;> simp [h0, h1]
theorem eqEff (x y : PEff) (w : World) : (Op.equalIn 10000 79 (.agg #[.int .i64 x.op, .string x.name, .string x.text]) (.agg #[.int .i64 y.op, .string y.name, .string y.text])).run Tryz.prog w = .ok (decide (x = y)) w := by
  obtain ⟨x0, x1, x2⟩ := x
  obtain ⟨y0, y1, y2⟩ := y
  rw [show (10000 : Nat) = 9999 + 1 from rfl]
  go_simp
  simp only [toList_iff]
  by_cases h0 : x0 = y0 <;> by_cases h1 : x1 = y1 <;> by_cases h2 : x2 = y2 <;> simp [h0, h1, h2]
theorem eqVer (x y : PVer) (w : World) : (Op.equalIn 10000 81 (.agg #[.string x.prog, .string x.target, .string x.prereq, .bool x.old]) (.agg #[.string y.prog, .string y.target, .string y.prereq, .bool y.old])).run Tryz.prog w = .ok (decide (x = y)) w := by
  obtain ⟨x0, x1, x2, x3⟩ := x
  obtain ⟨y0, y1, y2, y3⟩ := y
  rw [show (10000 : Nat) = 9999 + 1 from rfl]
  go_simp
  simp only [toList_iff]
  by_cases h0 : x0 = y0 <;> by_cases h1 : x1 = y1 <;> by_cases h2 : x2 = y2 <;> by_cases h3 : x3 = y3 <;> simp [h0, h1, h2, h3]
theorem eqFileS (x y : PFile) (w : World) : (Op.equalIn 10000 107 (.agg #[.string x.name, .string x.content, .int .i64 x.time]) (.agg #[.string y.name, .string y.content, .int .i64 y.time])).run Tryz.prog w = .ok (decide (x = y)) w := by
  obtain ⟨x0, x1, x2⟩ := x
  obtain ⟨y0, y1, y2⟩ := y
  rw [show (10000 : Nat) = 9999 + 1 from rfl]
  go_simp
  simp only [toList_iff]
  by_cases h0 : x0 = y0 <;> by_cases h1 : x1 = y1 <;> by_cases h2 : x2 = y2 <;> simp [h0, h1, h2]
theorem eqOutS (x y : POut) (w : World) : (Op.equalIn 10000 109 (.agg #[.string x.command, .string x.text]) (.agg #[.string y.command, .string y.text])).run Tryz.prog w = .ok (decide (x = y)) w := by
  obtain ⟨x0, x1⟩ := x
  obtain ⟨y0, y1⟩ := y
  rw [show (10000 : Nat) = 9999 + 1 from rfl]
  go_simp
  simp only [toList_iff]
  by_cases h0 : x0 = y0 <;> by_cases h1 : x1 = y1 <;> simp [h0, h1]
theorem eqEffS (x y : PEff) (w : World) : (Op.equalIn 10000 104 (.agg #[.int .i64 x.op, .string x.name, .string x.text]) (.agg #[.int .i64 y.op, .string y.name, .string y.text])).run Tryz.prog w = .ok (decide (x = y)) w := by
  obtain ⟨x0, x1, x2⟩ := x
  obtain ⟨y0, y1, y2⟩ := y
  rw [show (10000 : Nat) = 9999 + 1 from rfl]
  go_simp
  simp only [toList_iff]
  by_cases h0 : x0 = y0 <;> by_cases h1 : x1 = y1 <;> by_cases h2 : x2 = y2 <;> simp [h0, h1, h2]
theorem eqVerS (x y : PVer) (w : World) : (Op.equalIn 10000 111 (.agg #[.string x.prog, .string x.target, .string x.prereq, .bool x.old]) (.agg #[.string y.prog, .string y.target, .string y.prereq, .bool y.old])).run Tryz.prog w = .ok (decide (x = y)) w := by
  obtain ⟨x0, x1, x2, x3⟩ := x
  obtain ⟨y0, y1, y2, y3⟩ := y
  rw [show (10000 : Nat) = 9999 + 1 from rfl]
  go_simp
  simp only [toList_iff]
  by_cases h0 : x0 = y0 <;> by_cases h1 : x1 = y1 <;> by_cases h2 : x2 = y2 <;> by_cases h3 : x3 = y3 <;> simp [h0, h1, h2, h3]
end Go.Proofs.YthgibbekfcenhaaGreatDoor
