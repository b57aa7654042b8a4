/- The walk of law33.Long: is there more in a world, or its arguments, than is asked? -/
import Derived.Test.YthgibbekfcenhaaGreatDoorVars
import Derived.Test.YthgibbekfcenhaaGreatDoorCopyE
namespace Go.Proofs.YthgibbekfcenhaaGreatDoor
open Go.RowKit

/-- There is no more than is asked. -/
structure NoMore (c : PWorld) (args : List ByteArray) : Prop where
  files : okMany 40 lgFile c.files = true
  vars : okMany 30 lgVar c.vars = true
  outputs : okMany 10 lgOut c.outputs = true
  outcomes : okMany 16 lgOutc c.outcomes = true
  verdicts : okMany 20 lgVer c.verdicts = true
  args : okMany 12 (okText 100) args = true

set_option maxRecDepth 10000 in
set_option maxHeartbeats 4000000 in
theorem longWorld_calls (w : World) (F : Fp) (c : PWorld) (args : List ByteArray) (a1 a2 a3 a4 a5 a6 : Value) (h : cWorld.rd w F [a1, a2, a3, a4, a5] c) (h' : (cSl cStr).rd w F [a6] args) (hbig : c.vars.length ≤ 2600000000000) (hE : Errs w) :
    Calls Tryz.prog 5 #[.agg #[a1, a2, a3, a4, a5], a6] w (LongPost (NoMore c args) w) := by
  obtain ⟨R1, q1, R2, q2, R3, q3, R4, q4, R5, q5, he, h1, h2, h3, h4, h5⟩ := world_cells h
  simp only [List.cons.injEq, and_true] at he
  obtain ⟨rfl, rfl, rfl, rfl, rfl⟩ := he
  obtain ⟨R6, q6, he⟩ := rd_cells h'
  simp only [List.cons.injEq, and_true] at he
  subst he
  have h6 := h'
  have Hx1 : Hid (∀ W, Mod (fun _ => False) w W → (cSl cFile).rd W F [.slice R1 c.files.length q1] c.files) := hidden fun W hW => (cSl cFile).mod h1 hW fun _ _ _ q => q
  have Hx2 : Hid (∀ W, Mod (fun _ => False) w W → (cSl cVar).rd W F [.slice R2 c.vars.length q2] c.vars) := hidden fun W hW => (cSl cVar).mod h2 hW fun _ _ _ q => q
  have Hx3 : Hid (∀ W, Mod (fun _ => False) w W → (cSl cOut).rd W F [.slice R3 c.outputs.length q3] c.outputs) := hidden fun W hW => (cSl cOut).mod h3 hW fun _ _ _ q => q
  have Hx4 : Hid (∀ W, Mod (fun _ => False) w W → (cSl cOutc).rd W F [.slice R4 c.outcomes.length q4] c.outcomes) := hidden fun W hW => (cSl cOutc).mod h4 hW fun _ _ _ q => q
  have Hx5 : Hid (∀ W, Mod (fun _ => False) w W → (cSl cVer).rd W F [.slice R5 c.verdicts.length q5] c.verdicts) := hidden fun W hW => (cSl cVer).mod h5 hW fun _ _ _ q => q
  have Hx6 : Hid (∀ W, Mod (fun _ => False) w W → (cSl cStr).rd W F [.slice R6 args.length q6] args) := hidden fun W hW => (cSl cStr).mod h6 hW fun _ _ _ q => q
  have HE : Hid (∀ W, Mod (fun _ => False) w W → Errs W) := hidden fun W hm => hE.mod hm fun _ _ q => q
  clear h h' h1 h2 h3 h4 h5 h6 hE
  generalize hn1 : c.files.length = n1 at *
  have Hn1 := hidden hn1.symm
  clear hn1
  generalize hn2 : c.vars.length = n2 at *
  have Hn2 := hidden hn2.symm
  clear hn2
  generalize hn3 : c.outputs.length = n3 at *
  have Hn3 := hidden hn3.symm
  clear hn3
  generalize hn4 : c.outcomes.length = n4 at *
  have Hn4 := hidden hn4.symm
  clear hn4
  generalize hn5 : c.verdicts.length = n5 at *
  have Hn5 := hidden hn5.symm
  clear hn5
  generalize hn6 : args.length = n6 at *
  have Hn6 := hidden hn6.symm
  clear hn6
  have Hbx := hidden (heap_alloc_new w (.cells #[.slice R1 n1 q1, .slice R2 n2 q2, .slice R3 n3 q3, .slice R4 n4 q4, .slice R5 n5 q5] 28))
  have Hm : Hid (Mod (fun _ => False) w (w.alloc (.cells #[.slice R1 n1 q1, .slice R2 n2 q2, .slice R3 n3 q3, .slice R4 n4 q4, .slice R5 n5 q5] 28))) := hidden ((Mod.refl _ _).alloc _)
  go_enter Tryz.func5, Tryz.ntmps5
  go_wp2_with fail
  refine (vars_calls R2 n2 q2 _ F c.vars Hn2.out (Hx2.out _ Hm.out) hbig (HE.out _ Hm.out)).mono ?_
  rintro e w1 ⟨p, q, b, rfl, hgood, hm1⟩
  have Hm := hidden (Hm.out.trans hm1)
  have Hbx := hidden (hm1.heapF Hbx.out)
  have G2 := hidden hgood
  have b0 := cell_lit Hbx.out (j := 0) rfl
  have b1 := cell_lit Hbx.out (j := 1) rfl
  have b2 := cell_lit Hbx.out (j := 2) rfl
  have b3 := cell_lit Hbx.out (j := 3) rfl
  have b4 := cell_lit Hbx.out (j := 4) rfl
  clear hgood hm1
  cases b
  case false =>
    go_wp2_with fail
    go_ret
    exact ⟨true, rfl, fun q => (by cases q), Hm.out⟩
  go_wp2_with fail
  refine (longFiles_calls R1 n1 q1 40 40 rfl (by decide) _ F c.files Hn1.out (Hx1.out _ Hm.out)).mono ?_
  rintro e w1' ⟨b, rfl, hgood, hm1⟩
  have Hm := hidden (Hm.out.trans hm1)
  have Hbx := hidden (hm1.heapF Hbx.out)
  have G1 := hidden hgood
  clear b0 b1 b2 b3 b4
  have b0 := cell_lit Hbx.out (j := 0) rfl
  have b1 := cell_lit Hbx.out (j := 1) rfl
  have b2 := cell_lit Hbx.out (j := 2) rfl
  have b3 := cell_lit Hbx.out (j := 3) rfl
  have b4 := cell_lit Hbx.out (j := 4) rfl
  clear hgood hm1
  cases b
  case true =>
    go_wp2_with fail
    go_ret
    exact ⟨true, rfl, fun q => (by cases q), Hm.out⟩
  go_wp2_with fail
  refine (longOuts_calls R3 n3 q3 10 10 rfl (by decide) _ F c.outputs Hn3.out (Hx3.out _ Hm.out)).mono ?_
  rintro e w3' ⟨b, rfl, hgood, hm1⟩
  have Hm := hidden (Hm.out.trans hm1)
  have Hbx := hidden (hm1.heapF Hbx.out)
  have G3 := hidden hgood
  clear b0 b1 b2 b3 b4
  have b0 := cell_lit Hbx.out (j := 0) rfl
  have b1 := cell_lit Hbx.out (j := 1) rfl
  have b2 := cell_lit Hbx.out (j := 2) rfl
  have b3 := cell_lit Hbx.out (j := 3) rfl
  have b4 := cell_lit Hbx.out (j := 4) rfl
  clear hgood hm1
  cases b
  case true =>
    go_wp2_with fail
    go_ret
    exact ⟨true, rfl, fun q => (by cases q), Hm.out⟩
  go_wp2_with fail
  refine (longOutcs_calls R4 n4 q4 _ F c.outcomes Hn4.out (Hx4.out _ Hm.out)).mono ?_
  rintro e w4' ⟨b, rfl, hgood, hm1⟩
  have Hm := hidden (Hm.out.trans hm1)
  have Hbx := hidden (hm1.heapF Hbx.out)
  have G4 := hidden hgood
  clear b0 b1 b2 b3 b4
  have b0 := cell_lit Hbx.out (j := 0) rfl
  have b1 := cell_lit Hbx.out (j := 1) rfl
  have b2 := cell_lit Hbx.out (j := 2) rfl
  have b3 := cell_lit Hbx.out (j := 3) rfl
  have b4 := cell_lit Hbx.out (j := 4) rfl
  clear hgood hm1
  cases b
  case true =>
    go_wp2_with fail
    go_ret
    exact ⟨true, rfl, fun q => (by cases q), Hm.out⟩
  go_wp2_with fail
  refine (longVers_calls R5 n5 q5 _ F c.verdicts Hn5.out (Hx5.out _ Hm.out)).mono ?_
  rintro e w5' ⟨b, rfl, hgood, hm1⟩
  have Hm := hidden (Hm.out.trans hm1)
  have Hbx := hidden (hm1.heapF Hbx.out)
  have G5 := hidden hgood
  clear b0 b1 b2 b3 b4
  have b0 := cell_lit Hbx.out (j := 0) rfl
  have b1 := cell_lit Hbx.out (j := 1) rfl
  have b2 := cell_lit Hbx.out (j := 2) rfl
  have b3 := cell_lit Hbx.out (j := 3) rfl
  have b4 := cell_lit Hbx.out (j := 4) rfl
  clear hgood hm1
  cases b
  case true =>
    go_wp2_with fail
    go_ret
    exact ⟨true, rfl, fun q => (by cases q), Hm.out⟩
  go_wp2_with fail
  refine (longAny_calls R6 n6 q6 12 100 12 100 rfl rfl _ F args Hn6.out (Hx6.out _ Hm.out) (by decide) (by decide)).mono ?_
  rintro e w6' ⟨b, rfl, hgood, hm1⟩
  have Hm := hidden (Hm.out.trans hm1)
  have Hbx := hidden (hm1.heapF Hbx.out)
  have G6 := hidden hgood
  clear b0 b1 b2 b3 b4
  have b0 := cell_lit Hbx.out (j := 0) rfl
  have b1 := cell_lit Hbx.out (j := 1) rfl
  have b2 := cell_lit Hbx.out (j := 2) rfl
  have b3 := cell_lit Hbx.out (j := 3) rfl
  have b4 := cell_lit Hbx.out (j := 4) rfl
  clear hgood hm1
  cases b
  case true =>
    go_wp2_with fail
    go_ret
    exact ⟨true, rfl, fun q => (by cases q), Hm.out⟩
  go_wp2_with fail
  go_ret
  exact ⟨false, rfl, fun _ => ⟨G1.out (by trivial), G2.out (by trivial), G3.out (by trivial), G4.out (by trivial), G5.out (by trivial), G6.out (by trivial)⟩, Hm.out⟩
end Go.Proofs.YthgibbekfcenhaaGreatDoor
