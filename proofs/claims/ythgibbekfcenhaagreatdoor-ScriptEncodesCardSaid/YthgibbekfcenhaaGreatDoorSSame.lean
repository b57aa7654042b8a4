/- The walk of script.Same. -/
import Derived.Test.YthgibbekfcenhaaGreatDoorEqF
namespace Go.Proofs.YthgibbekfcenhaaGreatDoor
open Go.RowKit

/-- Two worlds' copies lie in blocks of their own. -/
def SameMid (w W0 : World) (ca cb : Array Value) (s7 s8 : Value) (wx : World) : Prop :=
  ∃ m m', s7 = .pointer (some ⟨m, 0, none⟩) ∧ s8 = .pointer (some ⟨m', 0, none⟩) ∧ wx.heap[m]? = some (.cells ca 28 (0, 0)) ∧ wx.heap[m']? = some (.cells cb 28 (0, 0)) ∧ Mod (fun b => w.heap.size + 2 ≤ b) W0 wx

theorem two_new (W : World) (o o' : Obj) : ((W.alloc o).alloc o').drew.heap[W.heap.size]? = some o ∧ ((W.alloc o).alloc o').drew.heap[W.heap.size + 1]? = some o' := by
  refine ⟨hmx (heap_alloc_new _ _) _, ?_⟩
  have := heap_alloc_new (W.alloc o) o'
  rwa [World.size_alloc] at this
/-- Behind the first comparison. -/
def SameLists (m m' : Nat) (w : World) (p : Bool) (ca cb ca5 cb5 : Array Value) (s9 : Value) (wx : World) : Prop :=
  s9 = .bool p ∧ wx.heap[m]? = some (.cells ca5 28 (0, 0)) ∧ wx.heap[m']? = some (.cells cb5 28 (0, 0)) ∧ wx.heap[w.heap.size]? = some (.cells ca 32 (0, 0)) ∧ wx.heap[w.heap.size + 1]? = some (.cells cb 32 (0, 0)) ∧ Mod (fun _ => False) w wx
theorem same_split (c d : PCase) : decide (c = d) = ((decide (c.world.files = d.world.files) && (decide (c.world.outputs = d.world.outputs) && decide (c.world.verdicts = d.world.verdicts))) && (decide (c.world.vars = d.world.vars) && (decide (c.world.outcomes = d.world.outcomes) && (decide (c.args = d.args) && decide (c.picks = d.picks))))) := by
  obtain ⟨⟨x1, x2, x3, x4, x5⟩, x6, x7⟩ := c
  obtain ⟨⟨y1, y2, y3, y4, y5⟩, y6, y7⟩ := d
  simp only [PCase.mk.injEq, PWorld.mk.injEq]
  by_cases q1 : x1 = y1 <;> by_cases q2 : x2 = y2 <;> by_cases q3 : x3 = y3 <;> by_cases q4 : x4 = y4 <;> by_cases q5 : x5 = y5 <;> by_cases q6 : x6 = y6 <;> by_cases q7 : x7 = y7 <;> simp [q1, q2, q3, q4, q5, q6, q7]

set_option maxRecDepth 10000 in
set_option maxHeartbeats 4000000 in
theorem scriptSame_calls (w : World) (F G : Fp) (c d : PCase) (a1 a2 a3 a4 a5 a6 a7 b1 b2 b3 b4 b5 b6 b7 : Value) (h : cCase.rd w F [a1, a2, a3, a4, a5, a6, a7] c) (h' : cCase.rd w G [b1, b2, b3, b4, b5, b6, b7] d) (hs : SmallC c) :
    Calls Tryz.prog 13 #[.agg #[a1, a2, a3, a4, a5, a6, a7], .agg #[b1, b2, b3, b4, b5, b6, b7]] w (BoolPost (decide (c = d)) w) := by
  have Hs := hidden hs
  have bs1 := hs.world.files
  have bs2 := hs.world.vars
  have bs3 := hs.world.outputs
  have bs4 := hs.world.outcomes
  have bs5 := hs.world.verdicts
  have bs6 := hs.args
  have bs7 := hs.picks
  obtain ⟨R1, q1, R2, q2, R3, q3, R4, q4, R5, q5, R6, q6, R7, q7, he, hx1, hx2, hx3, hx4, hx5, hx6, hx7⟩ := case_cells h
  simp only [List.cons.injEq, and_true] at he
  obtain ⟨rfl, rfl, rfl, rfl, rfl, rfl, rfl⟩ := he
  obtain ⟨S1, t1, S2, t2, S3, t3, S4, t4, S5, t5, S6, t6, S7, t7, he, hy1, hy2, hy3, hy4, hy5, hy6, hy7⟩ := case_cells h'
  simp only [List.cons.injEq, and_true] at he
  obtain ⟨rfl, rfl, rfl, rfl, rfl, rfl, rfl⟩ := he
  have Hx1 : Hid (∀ W, Mod (fun _ => False) w W → (cSl cFile).rd W F [.slice R1 c.world.files.length q1] c.world.files) := hidden fun W hW => (cSl cFile).mod hx1 hW fun _ _ _ q => q
  have Hy1 : Hid (∀ W, Mod (fun _ => False) w W → (cSl cFile).rd W G [.slice S1 d.world.files.length t1] d.world.files) := hidden fun W hW => (cSl cFile).mod hy1 hW fun _ _ _ q => q
  have Hx2 : Hid (∀ W, Mod (fun _ => False) w W → (cSl cVar).rd W F [.slice R2 c.world.vars.length q2] c.world.vars) := hidden fun W hW => (cSl cVar).mod hx2 hW fun _ _ _ q => q
  have Hy2 : Hid (∀ W, Mod (fun _ => False) w W → (cSl cVar).rd W G [.slice S2 d.world.vars.length t2] d.world.vars) := hidden fun W hW => (cSl cVar).mod hy2 hW fun _ _ _ q => q
  have Hx3 : Hid (∀ W, Mod (fun _ => False) w W → (cSl cOut).rd W F [.slice R3 c.world.outputs.length q3] c.world.outputs) := hidden fun W hW => (cSl cOut).mod hx3 hW fun _ _ _ q => q
  have Hy3 : Hid (∀ W, Mod (fun _ => False) w W → (cSl cOut).rd W G [.slice S3 d.world.outputs.length t3] d.world.outputs) := hidden fun W hW => (cSl cOut).mod hy3 hW fun _ _ _ q => q
  have Hx4 : Hid (∀ W, Mod (fun _ => False) w W → (cSl cOutc).rd W F [.slice R4 c.world.outcomes.length q4] c.world.outcomes) := hidden fun W hW => (cSl cOutc).mod hx4 hW fun _ _ _ q => q
  have Hy4 : Hid (∀ W, Mod (fun _ => False) w W → (cSl cOutc).rd W G [.slice S4 d.world.outcomes.length t4] d.world.outcomes) := hidden fun W hW => (cSl cOutc).mod hy4 hW fun _ _ _ q => q
  have Hx5 : Hid (∀ W, Mod (fun _ => False) w W → (cSl cVer).rd W F [.slice R5 c.world.verdicts.length q5] c.world.verdicts) := hidden fun W hW => (cSl cVer).mod hx5 hW fun _ _ _ q => q
  have Hy5 : Hid (∀ W, Mod (fun _ => False) w W → (cSl cVer).rd W G [.slice S5 d.world.verdicts.length t5] d.world.verdicts) := hidden fun W hW => (cSl cVer).mod hy5 hW fun _ _ _ q => q
  have Hx6 : Hid (∀ W, Mod (fun _ => False) w W → (cSl cStr).rd W F [.slice R6 c.args.length q6] c.args) := hidden fun W hW => (cSl cStr).mod hx6 hW fun _ _ _ q => q
  have Hy6 : Hid (∀ W, Mod (fun _ => False) w W → (cSl cStr).rd W G [.slice S6 d.args.length t6] d.args) := hidden fun W hW => (cSl cStr).mod hy6 hW fun _ _ _ q => q
  have Hx7 : Hid (∀ W, Mod (fun _ => False) w W → (cSl cI64).rd W F [.slice R7 c.picks.length q7] c.picks) := hidden fun W hW => (cSl cI64).mod hx7 hW fun _ _ _ q => q
  have Hy7 : Hid (∀ W, Mod (fun _ => False) w W → (cSl cI64).rd W G [.slice S7 d.picks.length t7] d.picks) := hidden fun W hW => (cSl cI64).mod hy7 hW fun _ _ _ q => q
  clear h h' hs hx1 hy1 hx2 hy2 hx3 hy3 hx4 hy4 hx5 hy5 hx6 hy6 hx7 hy7
  generalize hn1 : c.world.files.length = n1 at *
  generalize hm1 : d.world.files.length = m1 at *
  have Hn1 := hidden hn1.symm
  have Hm1 := hidden hm1.symm
  clear hn1 hm1
  generalize hn2 : c.world.vars.length = n2 at *
  generalize hm2 : d.world.vars.length = m2 at *
  have Hn2 := hidden hn2.symm
  have Hm2 := hidden hm2.symm
  clear hn2 hm2
  generalize hn3 : c.world.outputs.length = n3 at *
  generalize hm3 : d.world.outputs.length = m3 at *
  have Hn3 := hidden hn3.symm
  have Hm3 := hidden hm3.symm
  clear hn3 hm3
  generalize hn4 : c.world.outcomes.length = n4 at *
  generalize hm4 : d.world.outcomes.length = m4 at *
  have Hn4 := hidden hn4.symm
  have Hm4 := hidden hm4.symm
  clear hn4 hm4
  generalize hn5 : c.world.verdicts.length = n5 at *
  generalize hm5 : d.world.verdicts.length = m5 at *
  have Hn5 := hidden hn5.symm
  have Hm5 := hidden hm5.symm
  clear hn5 hm5
  generalize hn6 : c.args.length = n6 at *
  generalize hm6 : d.args.length = m6 at *
  have Hn6 := hidden hn6.symm
  have Hm6 := hidden hm6.symm
  clear hn6 hm6
  generalize hn7 : c.picks.length = n7 at *
  generalize hm7 : d.picks.length = m7 at *
  have Hn7 := hidden hn7.symm
  have Hm7 := hidden hm7.symm
  clear hn7 hm7
  go_enter Tryz.func13, Tryz.ntmps13
  go_upto_region 3 with fail
  have hpa : (World.heap ((w.alloc (.cells #[.slice R1 n1 q1, .slice R2 n2 q2, .slice R3 n3 q3, .slice R4 n4 q4, .slice R5 n5 q5, .slice R6 n6 q6, .slice R7 n7 q7] 32)).alloc (.cells #[.slice S1 m1 t1, .slice S2 m2 t2, .slice S3 m3 t3, .slice S4 m4 t4, .slice S5 m5 t5, .slice S6 m6 t6, .slice S7 m7 t7] 32)))[w.heap.size]? = some (.cells #[.slice R1 n1 q1, .slice R2 n2 q2, .slice R3 n3 q3, .slice R4 n4 q4, .slice R5 n5 q5, .slice R6 n6 q6, .slice R7 n7 q7] 32 (0, 0)) := hmx (heap_alloc_new _ _) _
  have hpb : (World.heap ((w.alloc (.cells #[.slice R1 n1 q1, .slice R2 n2 q2, .slice R3 n3 q3, .slice R4 n4 q4, .slice R5 n5 q5, .slice R6 n6 q6, .slice R7 n7 q7] 32)).alloc (.cells #[.slice S1 m1 t1, .slice S2 m2 t2, .slice S3 m3 t3, .slice S4 m4 t4, .slice S5 m5 t5, .slice S6 m6 t6, .slice S7 m7 t7] 32)))[w.heap.size + 1]? = some (.cells #[.slice S1 m1 t1, .slice S2 m2 t2, .slice S3 m3 t3, .slice S4 m4 t4, .slice S5 m5 t5, .slice S6 m6 t6, .slice S7 m7 t7] 32 (0, 0)) := by
    have := heap_alloc_new (w.alloc (.cells #[.slice R1 n1 q1, .slice R2 n2 q2, .slice R3 n3 q3, .slice R4 n4 q4, .slice R5 n5 q5, .slice R6 n6 q6, .slice R7 n7 q7] 32)) (.cells #[.slice S1 m1 t1, .slice S2 m2 t2, .slice S3 m3 t3, .slice S4 m4 t4, .slice S5 m5 t5, .slice S6 m6 t6, .slice S7 m7 t7] 32)
    rwa [World.size_alloc] at this
  have hm0 : Mod (fun _ => False) w ((w.alloc (.cells #[.slice R1 n1 q1, .slice R2 n2 q2, .slice R3 n3 q3, .slice R4 n4 q4, .slice R5 n5 q5, .slice R6 n6 q6, .slice R7 n7 q7] 32)).alloc (.cells #[.slice S1 m1 t1, .slice S2 m2 t2, .slice S3 m3 t3, .slice S4 m4 t4, .slice S5 m5 t5, .slice S6 m6 t6, .slice S7 m7 t7] 32)) := ((Mod.refl _ _).alloc _).alloc _
  have hz0 : w.heap.size + 2 ≤ (World.heap ((w.alloc (.cells #[.slice R1 n1 q1, .slice R2 n2 q2, .slice R3 n3 q3, .slice R4 n4 q4, .slice R5 n5 q5, .slice R6 n6 q6, .slice R7 n7 q7] 32)).alloc (.cells #[.slice S1 m1 t1, .slice S2 m2 t2, .slice S3 m3 t3, .slice S4 m4 t4, .slice S5 m5 t5, .slice S6 m6 t6, .slice S7 m7 t7] 32))).size := by simp
  generalize (w.alloc (.cells #[.slice R1 n1 q1, .slice R2 n2 q2, .slice R3 n3 q3, .slice R4 n4 q4, .slice R5 n5 q5, .slice R6 n6 q6, .slice R7 n7 q7] 32)).alloc (.cells #[.slice S1 m1 t1, .slice S2 m2 t2, .slice S3 m3 t3, .slice S4 m4 t4, .slice S5 m5 t5, .slice S6 m6 t6, .slice S7 m7 t7] 32) = W0 at *
  have Hpa := hidden hpa
  have Hpb := hidden hpb
  have Hm0 := hidden hm0
  have HS := hidden (show W0.cell? ⟨w.heap.size, 0, none⟩ = some (.slice R1 n1 q1) ∧ W0.cell? ⟨w.heap.size, 1, none⟩ = some (.slice R2 n2 q2) ∧ W0.cell? ⟨w.heap.size, 2, none⟩ = some (.slice R3 n3 q3) ∧ W0.cell? ⟨w.heap.size, 3, none⟩ = some (.slice R4 n4 q4) ∧ W0.cell? ⟨w.heap.size, 4, none⟩ = some (.slice R5 n5 q5) ∧ W0.cell? ⟨w.heap.size + 1, 0, none⟩ = some (.slice S1 m1 t1) ∧ W0.cell? ⟨w.heap.size + 1, 1, none⟩ = some (.slice S2 m2 t2) ∧ W0.cell? ⟨w.heap.size + 1, 2, none⟩ = some (.slice S3 m3 t3) ∧ W0.cell? ⟨w.heap.size + 1, 3, none⟩ = some (.slice S4 m4 t4) ∧ W0.cell? ⟨w.heap.size + 1, 4, none⟩ = some (.slice S5 m5 t5) from ⟨cell_lit hpa (j := 0) rfl, cell_lit hpa (j := 1) rfl, cell_lit hpa (j := 2) rfl, cell_lit hpa (j := 3) rfl, cell_lit hpa (j := 4) rfl, cell_lit hpb (j := 0) rfl, cell_lit hpb (j := 1) rfl, cell_lit hpb (j := 2) rfl, cell_lit hpb (j := 3) rfl, cell_lit hpb (j := 4) rfl⟩)
  clear hpa hpb hm0
  go_cut [7, 8] (fun s7 s8 wx => SameMid w W0 #[.slice R1 n1 q1, .slice R2 n2 q2, .slice R3 n3 q3, .slice R4 n4 q4, .slice R5 n5 q5] #[.slice S1 m1 t1, .slice S2 m2 t2, .slice S3 m3 t3, .slice S4 m4 t4, .slice S5 m5 t5] s7 s8 wx)
  case first =>
    have ca0 := cell_lit Hpa.out (j := 0) rfl
    have cb0 := cell_lit Hpb.out (j := 0) rfl
    have ca1 := cell_lit Hpa.out (j := 1) rfl
    have cb1 := cell_lit Hpb.out (j := 1) rfl
    have ca2 := cell_lit Hpa.out (j := 2) rfl
    have cb2 := cell_lit Hpb.out (j := 2) rfl
    have ca3 := cell_lit Hpa.out (j := 3) rfl
    have cb3 := cell_lit Hpb.out (j := 3) rfl
    have ca4 := cell_lit Hpa.out (j := 4) rfl
    have cb4 := cell_lit Hpb.out (j := 4) rfl
    have hz1 : w.heap.size < W0.heap.size := by omega
    have hz2 : w.heap.size + 1 < W0.heap.size := by omega
    have hz3 : w.heap.size ≠ W0.heap.size := by omega
    have hz4 : w.heap.size + 1 ≠ W0.heap.size := by omega
    have hz5 : w.heap.size ≠ W0.heap.size + 1 := by omega
    go_region
    all_goals (go_wp2_with fail; go_meet)
    · exact ⟨_, _, rfl, rfl, (two_new _ _ _).1, (two_new _ _ _).2, (((Mod.refl _ _).alloc _).alloc _).drew⟩
    · exact ⟨_, _, rfl, rfl, (two_new _ _ _).2, (two_new _ _ _).1, (((Mod.refl _ _).alloc _).alloc _).drew⟩
  case rest =>
    obtain ⟨m, m', rfl, rfl, hma, hmb, hmw⟩ := hcut
    have hpa := hmw.heap Hpa.out (by omega)
    have hpb := hmw.heap Hpb.out (by omega)
    have hm := Hm0.out.trans' hmw fun x hx q => by omega
    clear hmw
    replace Hpa := hidden hpa
    replace Hpb := hidden hpb
    have Hma := hidden hma
    have Hmb := hidden hmb
    have Hm := hidden hm
    have HE := hidden (same_split c d)
    clear hpa hpb hma hmb hm
    generalize e1 : decide (c.world.files = d.world.files) = p1 at HE
    generalize e2 : decide (c.world.vars = d.world.vars) = p2 at HE
    generalize e3 : decide (c.world.outputs = d.world.outputs) = p3 at HE
    generalize e4 : decide (c.world.outcomes = d.world.outcomes) = p4 at HE
    generalize e5 : decide (c.world.verdicts = d.world.verdicts) = p5 at HE
    generalize e6 : decide (c.args = d.args) = p6 at HE
    generalize e7 : decide (c.picks = d.picks) = p7 at HE
    have E1 := hidden e1
    have E2 := hidden e2
    have E3 := hidden e3
    have E4 := hidden e4
    have E5 := hidden e5
    have E6 := hidden e6
    have E7 := hidden e7
    clear e1 e2 e3 e4 e5 e6 e7
    go_upto_region 4 with fail
    go_cut [9] (fun s9 wx => SameLists m m' w (p1 && (p3 && p5)) #[.slice R1 n1 q1, .slice R2 n2 q2, .slice R3 n3 q3, .slice R4 n4 q4, .slice R5 n5 q5, .slice R6 n6 q6, .slice R7 n7 q7] #[.slice S1 m1 t1, .slice S2 m2 t2, .slice S3 m3 t3, .slice S4 m4 t4, .slice S5 m5 t5, .slice S6 m6 t6, .slice S7 m7 t7] #[.slice R1 n1 q1, .slice R2 n2 q2, .slice R3 n3 q3, .slice R4 n4 q4, .slice R5 n5 q5] #[.slice S1 m1 t1, .slice S2 m2 t2, .slice S3 m3 t3, .slice S4 m4 t4, .slice S5 m5 t5] s9 wx)
    case first =>
      have ca0 := cell_lit Hma.out (j := 0) rfl
      have cb0 := cell_lit Hmb.out (j := 0) rfl
      have ca2 := cell_lit Hma.out (j := 2) rfl
      have cb2 := cell_lit Hmb.out (j := 2) rfl
      have ca4 := cell_lit Hma.out (j := 4) rfl
      have cb4 := cell_lit Hmb.out (j := 4) rfl
      have hs : p1 = false ∨ (p1 = true ∧ (p3 = false ∨ (p3 = true ∧ (p5 = false ∨ p5 = true)))) := by cases p1 <;> cases p3 <;> cases p5 <;> simp
      rcases hs with rfl | ⟨rfl, rfl | ⟨rfl, rfl | rfl⟩⟩
      all_goals
        go_wp2_with (first | (go_at_call 35; (with_reducible refine (eqFiles_calls _ _ _ _ _ _ _ _ _ _ _ Hn1.out Hm1.out (Hx1.out _ Hm.out) (Hy1.out _ Hm.out) bs1).mono ?_); rintro e w2 ⟨rfl, hm2⟩; replace Hm := hidden (Hm.out.trans hm2); replace Hpa := hidden (hm2.heapF Hpa.out); replace Hpb := hidden (hm2.heapF Hpb.out); replace Hma := hidden (hm2.heapF Hma.out); replace Hmb := hidden (hm2.heapF Hmb.out); clear ca0 cb0 ca2 cb2 ca4 cb4; have ca0 := cell_lit Hma.out (j := 0) rfl; have cb0 := cell_lit Hmb.out (j := 0) rfl; have ca2 := cell_lit Hma.out (j := 2) rfl; have cb2 := cell_lit Hmb.out (j := 2) rfl; have ca4 := cell_lit Hma.out (j := 4) rfl; have cb4 := cell_lit Hmb.out (j := 4) rfl; clear hm2; rw [E1.out]) | (go_at_call 36; (with_reducible refine (eqOuts_calls _ _ _ _ _ _ _ _ _ _ _ Hn3.out Hm3.out (Hx3.out _ Hm.out) (Hy3.out _ Hm.out) bs3).mono ?_); rintro e w2 ⟨rfl, hm2⟩; replace Hm := hidden (Hm.out.trans hm2); replace Hpa := hidden (hm2.heapF Hpa.out); replace Hpb := hidden (hm2.heapF Hpb.out); replace Hma := hidden (hm2.heapF Hma.out); replace Hmb := hidden (hm2.heapF Hmb.out); clear ca0 cb0 ca2 cb2 ca4 cb4; have ca0 := cell_lit Hma.out (j := 0) rfl; have cb0 := cell_lit Hmb.out (j := 0) rfl; have ca2 := cell_lit Hma.out (j := 2) rfl; have cb2 := cell_lit Hmb.out (j := 2) rfl; have ca4 := cell_lit Hma.out (j := 4) rfl; have cb4 := cell_lit Hmb.out (j := 4) rfl; clear hm2; rw [E3.out]) | (go_at_call 37; (with_reducible refine (eqVers_calls _ _ _ _ _ _ _ _ _ _ _ Hn5.out Hm5.out (Hx5.out _ Hm.out) (Hy5.out _ Hm.out) bs5).mono ?_); rintro e w2 ⟨rfl, hm2⟩; replace Hm := hidden (Hm.out.trans hm2); replace Hpa := hidden (hm2.heapF Hpa.out); replace Hpb := hidden (hm2.heapF Hpb.out); replace Hma := hidden (hm2.heapF Hma.out); replace Hmb := hidden (hm2.heapF Hmb.out); clear ca0 cb0 ca2 cb2 ca4 cb4; have ca0 := cell_lit Hma.out (j := 0) rfl; have cb0 := cell_lit Hmb.out (j := 0) rfl; have ca2 := cell_lit Hma.out (j := 2) rfl; have cb2 := cell_lit Hmb.out (j := 2) rfl; have ca4 := cell_lit Hma.out (j := 4) rfl; have cb4 := cell_lit Hmb.out (j := 4) rfl; clear hm2; rw [E5.out]))
        go_meet
        exact ⟨rfl, Hma.out, Hmb.out, Hpa.out, Hpb.out, Hm.out⟩
    case rest =>
      obtain ⟨rfl, hma, hmb, hpa, hpb, hm⟩ := hcut
      replace Hma := hidden hma
      replace Hmb := hidden hmb
      replace Hpa := hidden hpa
      replace Hpb := hidden hpb
      replace Hm := hidden hm
      clear hma hmb hpa hpb hm
      generalize (p1 && (p3 && p5)) = p at *
      have ca1 := cell_lit Hma.out (j := 1) rfl
      have cb1 := cell_lit Hmb.out (j := 1) rfl
      have ca3 := cell_lit Hma.out (j := 3) rfl
      have cb3 := cell_lit Hmb.out (j := 3) rfl
      have cx5 := cell_lit Hpa.out (j := 5) rfl
      have cy5 := cell_lit Hpb.out (j := 5) rfl
      have cx6 := cell_lit Hpa.out (j := 6) rfl
      have cy6 := cell_lit Hpb.out (j := 6) rfl
      have hs : p = false ∨ (p = true ∧ (p2 = false ∨ (p2 = true ∧ (p4 = false ∨ (p4 = true ∧ (p6 = false ∨ (p6 = true ∧ (p7 = false ∨ p7 = true)))))))) := by cases p <;> cases p2 <;> cases p4 <;> cases p6 <;> cases p7 <;> simp
      rcases hs with rfl | ⟨rfl, rfl | ⟨rfl, rfl | ⟨rfl, rfl | ⟨rfl, rfl | rfl⟩⟩⟩⟩
      all_goals
        go_wp2_with (first | (go_at_call 38; (with_reducible refine (eqVars_calls _ _ _ _ _ _ _ _ _ _ _ Hn2.out Hm2.out (Hx2.out _ Hm.out) (Hy2.out _ Hm.out) bs2 Hs.out.words).mono ?_); rintro e w2 ⟨rfl, hm2⟩; replace Hm := hidden (Hm.out.trans hm2); replace Hpa := hidden (hm2.heapF Hpa.out); replace Hpb := hidden (hm2.heapF Hpb.out); replace Hma := hidden (hm2.heapF Hma.out); replace Hmb := hidden (hm2.heapF Hmb.out); clear ca1 cb1 ca3 cb3 cx5 cy5 cx6 cy6; have ca1 := cell_lit Hma.out (j := 1) rfl; have cb1 := cell_lit Hmb.out (j := 1) rfl; have ca3 := cell_lit Hma.out (j := 3) rfl; have cb3 := cell_lit Hmb.out (j := 3) rfl; have cx5 := cell_lit Hpa.out (j := 5) rfl; have cy5 := cell_lit Hpb.out (j := 5) rfl; have cx6 := cell_lit Hpa.out (j := 6) rfl; have cy6 := cell_lit Hpb.out (j := 6) rfl; clear hm2; rw [E2.out]) | (go_at_call 39; (with_reducible refine (eqOutcs_calls _ _ _ _ _ _ _ _ _ _ _ Hn4.out Hm4.out (Hx4.out _ Hm.out) (Hy4.out _ Hm.out) bs4 Hs.out.world.effects).mono ?_); rintro e w2 ⟨rfl, hm2⟩; replace Hm := hidden (Hm.out.trans hm2); replace Hpa := hidden (hm2.heapF Hpa.out); replace Hpb := hidden (hm2.heapF Hpb.out); replace Hma := hidden (hm2.heapF Hma.out); replace Hmb := hidden (hm2.heapF Hmb.out); clear ca1 cb1 ca3 cb3 cx5 cy5 cx6 cy6; have ca1 := cell_lit Hma.out (j := 1) rfl; have cb1 := cell_lit Hmb.out (j := 1) rfl; have ca3 := cell_lit Hma.out (j := 3) rfl; have cb3 := cell_lit Hmb.out (j := 3) rfl; have cx5 := cell_lit Hpa.out (j := 5) rfl; have cy5 := cell_lit Hpb.out (j := 5) rfl; have cx6 := cell_lit Hpa.out (j := 6) rfl; have cy6 := cell_lit Hpb.out (j := 6) rfl; clear hm2; rw [E4.out]) | (go_at_call 32; (with_reducible refine (eqStrings_calls _ _ _ _ _ _ _ _ _ _ _ Hn6.out Hm6.out (Hx6.out _ Hm.out) (Hy6.out _ Hm.out) bs6).mono ?_); rintro e w2 ⟨rfl, hm2⟩; replace Hm := hidden (Hm.out.trans hm2); replace Hpa := hidden (hm2.heapF Hpa.out); replace Hpb := hidden (hm2.heapF Hpb.out); replace Hma := hidden (hm2.heapF Hma.out); replace Hmb := hidden (hm2.heapF Hmb.out); clear cx5 cy5 cx6 cy6; have cx5 := cell_lit Hpa.out (j := 5) rfl; have cy5 := cell_lit Hpb.out (j := 5) rfl; have cx6 := cell_lit Hpa.out (j := 6) rfl; have cy6 := cell_lit Hpb.out (j := 6) rfl; clear hm2; rw [E6.out]) | (go_at_call 40; (with_reducible refine (eqInts_calls _ _ _ _ _ _ _ _ _ _ _ Hn7.out Hm7.out (Hx7.out _ Hm.out) (Hy7.out _ Hm.out) bs7).mono ?_); rintro e w2 ⟨rfl, hm2⟩; replace Hm := hidden (Hm.out.trans hm2); replace Hpa := hidden (hm2.heapF Hpa.out); replace Hpb := hidden (hm2.heapF Hpb.out); replace Hma := hidden (hm2.heapF Hma.out); replace Hmb := hidden (hm2.heapF Hmb.out); clear cx5 cy5 cx6 cy6; have cx5 := cell_lit Hpa.out (j := 5) rfl; have cy5 := cell_lit Hpb.out (j := 5) rfl; have cx6 := cell_lit Hpa.out (j := 6) rfl; have cy6 := cell_lit Hpb.out (j := 6) rfl; clear hm2; rw [E7.out]))
        go_ret
        exact ⟨by rw [HE.out]; rfl, Hm.out⟩
end Go.Proofs.YthgibbekfcenhaaGreatDoor
