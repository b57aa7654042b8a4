/- A case is the same as itself; a plain case is plain. -/
import Derived.Test.YthgibbekfcenhaaGreatDoorEncode
import Derived.Test.YthgibbekfcenhaaGreatDoorSSame
import Derived.Test.YthgibbekfcenhaaGreatDoorPlain
import Derived.Test.YthgibbekfcenhaaGreatDoorOk
namespace Go.Proofs.YthgibbekfcenhaaGreatDoor
open Go.RowKit

theorem same_self (w : World) (F G : Fp) (c : PCase) (a1 a2 a3 a4 a5 a6 a7 b1 b2 b3 b4 b5 b6 b7 : Value) (h : cCase.rd w F [a1, a2, a3, a4, a5, a6, a7] c) (h' : cCase.rd w G [b1, b2, b3, b4, b5, b6, b7] c) (hs : SmallC c) :
    Calls Tryz.prog 11 #[.agg #[a1, a2, a3, a4, a5, a6, a7], .agg #[b1, b2, b3, b4, b5, b6, b7]] w (BoolPost true w) := by
  have := sameCase_calls w F G c c _ _ _ _ _ _ _ _ _ _ _ _ _ _ h h' hs
  rwa [decide_eq_true rfl] at this
theorem scriptSame_self (w : World) (F G : Fp) (c : PCase) (a1 a2 a3 a4 a5 a6 a7 b1 b2 b3 b4 b5 b6 b7 : Value) (h : cCase.rd w F [a1, a2, a3, a4, a5, a6, a7] c) (h' : cCase.rd w G [b1, b2, b3, b4, b5, b6, b7] c) (hs : SmallC c) :
    Calls Tryz.prog 13 #[.agg #[a1, a2, a3, a4, a5, a6, a7], .agg #[b1, b2, b3, b4, b5, b6, b7]] w (BoolPost true w) := by
  have := scriptSame_calls w F G c c _ _ _ _ _ _ _ _ _ _ _ _ _ _ h h' hs
  rwa [decide_eq_true rfl] at this
theorem plain_true (w : World) (F : Fp) (c : PCase) (a1 a2 a3 a4 a5 a6 a7 : Value) (h : cCase.rd w F [a1, a2, a3, a4, a5, a6, a7] c) (hl : wCase c ≤ 4294967296) (hok : okCase c = true) :
    Calls Tryz.prog 9 #[.agg #[a1, a2, a3, a4, a5, a6, a7]] w (BoolPost true w) := by
  have := plain_calls w F c _ _ _ _ _ _ _ h hl
  rwa [hok] at this
theorem refPlain_true (w : World) (F : Fp) (c : PCase) (a1 a2 a3 a4 a5 a6 a7 : Value) (h : cCase.rd w F [a1, a2, a3, a4, a5, a6, a7] c) (hs : SmallC c) (hok : okCase c = true) :
    Calls Tryz.prog 7 #[.agg #[a1, a2, a3, a4, a5, a6, a7]] w (BoolPost true w) := by
  have := refPlain_calls w F c _ _ _ _ _ _ _ h hs
  rwa [hok] at this
end Go.Proofs.YthgibbekfcenhaaGreatDoor
