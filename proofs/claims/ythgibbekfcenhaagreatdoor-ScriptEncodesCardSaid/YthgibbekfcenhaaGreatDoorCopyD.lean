/- The walk of the law's copy of a world. -/
import Derived.Test.YthgibbekfcenhaaGreatDoorCopy
import Derived.Deep.DeepCutAuto
namespace Go.Proofs.YthgibbekfcenhaaGreatDoor
open Go.RowKit

theorem held5 {W : World} {g : Nat} {a b c d e : Value} {t : TypeId} (h : W.heap[g]? = some (.cells #[a, b, c, d, e] t (0, 0))) :
    W.cell? ⟨g, 0, none⟩ = some a ∧ W.cell? ⟨g, 1, none⟩ = some b ∧ W.cell? ⟨g, 2, none⟩ = some c ∧ W.cell? ⟨g, 3, none⟩ = some d ∧ W.cell? ⟨g, 4, none⟩ = some e :=
  ⟨cell_lit h rfl, cell_lit h rfl, cell_lit h rfl, cell_lit h rfl, cell_lit h rfl⟩

/-- Where the copied world's lists lie. -/
abbrev LawG (w : World) (F : Fp) : Fp := fun b => w.heap.size + 2 ≤ b ∨ (F b ∧ b < w.heap.size)
abbrev LawGm (w : World) (F : Fp) (m : Nat) : Fp := fun b => LawG w F b ∧ b ≠ m
theorem lawG_new {α : Type} {c : Cd α} {w W w2 : World} {F : Fp} {v : Value} {xs : List α} (h : (cSl c).rd w2 (CopyF W (fun b => F b ∧ b < w.heap.size)) [v] xs) (hz : w.heap.size + 2 ≤ W.heap.size) : (cSl c).rd w2 (LawG w F) [v] xs :=
  (cSl c).wider h fun b hb _ => by rcases hb with hb | hb; exact .inl (by omega); exact .inr hb.1
theorem lawGm_new {α : Type} {c : Cd α} {w W w2 : World} {F : Fp} {v : Value} {xs : List α} {m : Nat} {o : Obj} (h : (cSl c).rd w2 (CopyF W (fun b => F b ∧ b < w.heap.size)) [v] xs) (hz : w.heap.size + 2 ≤ W.heap.size ∧ w.heap.size + 2 ≤ m) (hb : W.heap[m]? = some o) : (cSl c).rd w2 (LawGm w F m) [v] xs := by
  have hm := (Array.getElem?_eq_some_iff.1 hb).1
  exact (cSl c).wider h fun b hb _ => by rcases hb with hb | hb; exact ⟨.inl (by omega), by omega⟩; exact ⟨.inr hb.1, by omega⟩
theorem lawGm_new2 {α : Type} {c : Cd α} {w W w2 : World} {F : Fp} {v : Value} {xs : List α} {o : Obj} (h : (cSl c).rd w2 (CopyF (W.alloc o) (fun b => F b ∧ b < w.heap.size)) [v] xs) (hz : w.heap.size + 2 ≤ W.heap.size) : (cSl c).rd w2 (LawGm w F W.heap.size) [v] xs :=
  (cSl c).wider h fun b hb _ => by rcases hb with hb | hb; (rw [World.size_alloc] at hb; exact ⟨.inl (by omega), by omega⟩); exact ⟨.inr hb.1, by omega⟩
theorem lawGm_of {α : Type} {c : Cd α} {w W w2 : World} {F : Fp} {v : Value} {xs : List α} {o : Obj} (h : (cSl c).rd W (LawG w F) [v] xs) (hm : Mod (fun _ => False) (W.alloc o) w2) : (cSl c).rd w2 (LawGm w F W.heap.size) [v] xs :=
  (cSl c).keep h fun b hb hl => ⟨(((Mod.refl (fun _ => False) W).alloc o).trans hm).block b hl (fun q => q), hb, by omega⟩
theorem setfar {W : World} {k m : Nat} {o : Obj} (hk : k + 2 ≤ m) (h : W.heap[k]? = some o) (j : Nat) (v : Value) : (W.setCell ⟨m, j, none⟩ v).heap[k]? = some o := by
  rw [Below.heap_setCell _ _ _ _ (by show k ≠ m; omega)]; exact h
theorem lawGm_new3 {α : Type} {c : Cd α} {w W w2 : World} {F : Fp} {v : Value} {xs : List α} {o : Obj} (h : (cSl c).rd w2 (CopyF (W.alloc o).drew (fun b => F b ∧ b < w.heap.size)) [v] xs) (hz : w.heap.size + 2 ≤ W.heap.size) : (cSl c).rd w2 (LawGm w F W.heap.size) [v] xs :=
  (cSl c).wider h fun b hb _ => by
    have e : (W.alloc o).drew.heap.size = W.heap.size + 1 := World.size_alloc _ _
    rcases hb with hb | hb
    · exact ⟨.inl (by omega), by omega⟩
    · exact ⟨.inr hb.1, by omega⟩
theorem cVar_shape {w : World} {F : Fp} {cs : List Value} {v : PVar} (h : cVar.rd w F cs v) : ∃ A n cap, cs = [.string v.name, .slice A n cap, .int .i64 v.level, .bool v.hidden] := by
  obtain ⟨p, q, rfl, ⟨rfl, h1⟩, p', q', rfl, ⟨A, cap, rfl, h3⟩, p3, q3, rfl, ⟨rfl, h4⟩, rfl⟩ := h
  exact ⟨A, _, cap, rfl⟩
theorem drew_heap {W : World} {k : Nat} {o : Obj} (h : W.heap[k]? = some o) : W.drew.heap[k]? = some o := h
theorem drew_mod {S : Fp} {a b : World} (h : Mod S a b) : Mod S a.drew b.drew := ⟨h.os, h.tape, h.output, h.size, h.block⟩
theorem size_alloc_le' {W w2 : World} {o : Obj} (hm : Mod (fun _ => False) (W.alloc o).drew w2) : W.heap.size + 1 ≤ w2.heap.size := by
  have e : (W.alloc o).drew.heap.size = W.heap.size + 1 := World.size_alloc _ _
  have := hm.size; omega
theorem size_alloc_le {W w2 : World} {o : Obj} (hm : Mod (fun _ => False) (W.alloc o) w2) : W.heap.size + 1 ≤ w2.heap.size := by have := hm.size; rwa [World.size_alloc] at this
/-- The copied world on its way: all lists but the variables are there. -/
def LawMid (w W0 : World) (F : Fp) (x1 : List PFile) (x3 : List POut) (x4 : List POutc) (x5 : List PVer) (s3 : Value) (wx : World) : Prop :=
  ∃ m R1 q1 R3 q3 R4 q4 R5 q5, s3 = .pointer (some ⟨m, 0, none⟩) ∧ wx.heap[m]? = some (.cells #[.slice R1 x1.length q1, nilS, .slice R3 x3.length q3, .slice R4 x4.length q4, .slice R5 x5.length q5] 41 (0, 0)) ∧ w.heap.size + 2 ≤ m ∧
    Mod (fun b => w.heap.size + 2 ≤ b) W0 wx ∧ (cSl cFile).rd wx (LawGm w F m) [.slice R1 x1.length q1] x1 ∧ (cSl cOut).rd wx (LawGm w F m) [.slice R3 x3.length q3] x3 ∧ (cSl cOutc).rd wx (LawGm w F m) [.slice R4 x4.length q4] x4 ∧ (cSl cVer).rd wx (LawGm w F m) [.slice R5 x5.length q5] x5
theorem lawMid_set {w W0 w2 : World} {F : Fp} {x1 : List PFile} {x3 : List POut} {x4 : List POutc} {x5 : List PVer} {m : Nat} {R1 R3 R4 R5 : Option Addr} {q1 q3 q4 q5 : Nat} {cs : Array Value} (hb : w2.heap[m]? = some (.cells cs 41 (0, 0))) (hcs : cs.size = 5) (hg : w.heap.size + 2 ≤ m)
    (hm : Mod (fun _ => False) W0.drew w2) (h1 : (cSl cFile).rd w2 (LawGm w F m) [.slice R1 x1.length q1] x1) (h3 : (cSl cOut).rd w2 (LawGm w F m) [.slice R3 x3.length q3] x3) (h4 : (cSl cOutc).rd w2 (LawGm w F m) [.slice R4 x4.length q4] x4) (h5 : (cSl cVer).rd w2 (LawGm w F m) [.slice R5 x5.length q5] x5) :
    LawMid w W0 F x1 x3 x4 x5 (.pointer (some ⟨m, 0, none⟩)) (((((w2.setCell ⟨m, 0, none⟩ (.slice R1 x1.length q1)).setCell ⟨m, 1, none⟩ (.slice none 0 0)).setCell ⟨m, 2, none⟩ (.slice R3 x3.length q3)).setCell ⟨m, 3, none⟩ (.slice R4 x4.length q4)).setCell ⟨m, 4, none⟩ (.slice R5 x5.length q5)) := by
  have hset : Mod (· = m) w2 (((((w2.setCell ⟨m, 0, none⟩ (.slice R1 x1.length q1)).setCell ⟨m, 1, none⟩ (.slice none 0 0)).setCell ⟨m, 2, none⟩ (.slice R3 x3.length q3)).setCell ⟨m, 3, none⟩ (.slice R4 x4.length q4)).setCell ⟨m, 4, none⟩ (.slice R5 x5.length q5)) := (((((Mod.refl _ _).set1 _ _).set1 _ _).set1 _ _).set1 _ _).set1 _ _
  have hd : ∀ b, LawGm w F m b → b < w2.heap.size → ¬ b = m := fun b hb _ => hb.2
  have hm' : Mod (fun _ => False) W0 w2 := ⟨hm.os, hm.tape, hm.output, hm.size, hm.block⟩
  refine ⟨m, R1, q1, R3, q3, R4, q4, R5, q5, rfl, ?_, hg, (hm'.mono fun _ _ q => q.elim).trans' hset (fun x _ q => by omega), (cSl cFile).mod h1 hset hd, (cSl cOut).mod h3 hset hd, (cSl cOutc).mod h4 hset hd, (cSl cVer).mod h5 hset hd⟩
  rw [set_lit (set_lit (set_lit (set_lit (set_lit hb 0 _) 1 _) 2 _) 3 _) 4 _]
  obtain ⟨l⟩ := cs
  match l, hcs with
  | [a, b, c, d, e], _ => rfl
theorem lawMid_new {w W0 w2 : World} {F : Fp} {x1 : List PFile} {x3 : List POut} {x4 : List POutc} {x5 : List PVer} {R1 R3 R4 R5 : Option Addr} {q1 q3 q4 q5 : Nat} (hg : w.heap.size + 2 ≤ w2.heap.size)
    (hm : Mod (fun _ => False) W0.drew w2) (h1 : (cSl cFile).rd w2 (LawG w F) [.slice R1 x1.length q1] x1) (h3 : (cSl cOut).rd w2 (LawG w F) [.slice R3 x3.length q3] x3) (h4 : (cSl cOutc).rd w2 (LawG w F) [.slice R4 x4.length q4] x4) (h5 : (cSl cVer).rd w2 (LawG w F) [.slice R5 x5.length q5] x5) :
    LawMid w W0 F x1 x3 x4 x5 (.pointer (some ⟨w2.heap.size, 0, none⟩)) (w2.alloc (.cells #[.slice R1 x1.length q1, .slice none 0 0, .slice R3 x3.length q3, .slice R4 x4.length q4, .slice R5 x5.length q5] 41)) := by
  have hm' : Mod (fun _ => False) W0 w2 := ⟨hm.os, hm.tape, hm.output, hm.size, hm.block⟩
  refine ⟨_, R1, q1, R3, q3, R4, q4, R5, q5, rfl, heap_alloc_new _ _, hg, (hm'.alloc _).mono (fun _ _ q => q.elim), lawGm_of h1 (Mod.refl _ _), lawGm_of h3 (Mod.refl _ _), lawGm_of h4 (Mod.refl _ _), lawGm_of h5 (Mod.refl _ _)⟩
/-- What Of answers: five slices that read as the world did. -/
def WorldPost (F : Fp) (c : PWorld) (w : World) (e : Ending) (w' : World) : Prop :=
  ∃ A1 A2 A3 A4 A5 : Value, e = .returned (.agg #[A1, A2, A3, A4, A5]) ∧ cWorld.rd w' (CopyF w F) [A1, A2, A3, A4, A5] c ∧ Mod (fun _ => False) w w'

set_option maxRecDepth 10000 in
set_option maxHeartbeats 4000000 in
theorem lawOf_calls (A1 A2 A3 A4 A5 : Option Addr) (n1 k1 n2 k2 n3 k3 n4 k4 n5 k5 : Nat) (w : World) (F : Fp) (x1 : List PFile) (x2 : List PVar) (x3 : List POut) (x4 : List POutc) (x5 : List PVer)
    (h1 : (cSl cFile).rd w F [.slice A1 n1 k1] x1) (h2 : (cSl cVar).rd w F [.slice A2 n2 k2] x2) (h3 : (cSl cOut).rd w F [.slice A3 n3 k3] x3) (h4 : (cSl cOutc).rd w F [.slice A4 n4 k4] x4) (h5 : (cSl cVer).rd w F [.slice A5 n5 k5] x5)
    (e1 : n1 = x1.length) (e2 : n2 = x2.length) (e3 : n3 = x3.length) (e4 : n4 = x4.length) (e5 : n5 = x5.length) (b1 : n1 ≤ 1000000) (b2 : n2 ≤ 1000000) (b3 : n3 ≤ 1000000) (b4 : n4 ≤ 1000000) (b5 : n5 ≤ 1000000)
    (hef : ∀ o ∈ x4, o.effects.length ≤ 1000000) :
    Calls Tryz.prog 21 #[.agg #[.slice A1 n1 k1, .slice A2 n2 k2, .slice A3 n3 k3, .slice A4 n4 k4, .slice A5 n5 k5]] w (WorldPost F ⟨x1, x2, x3, x4, x5⟩ w) := by
  have Hrd1 : Hid (∀ W, Mod (fun _ => False) w W → (cSl cFile).rd W (fun b => F b ∧ b < w.heap.size) [.slice A1 n1 k1] x1) := hidden fun W hW => (cSl cFile).mod ((cSl cFile).bound h1) hW fun _ _ _ q => q
  have E1 := hidden e1
  have Hrd2 : Hid (∀ W, Mod (fun _ => False) w W → (cSl cVar).rd W (fun b => F b ∧ b < w.heap.size) [.slice A2 n2 k2] x2) := hidden fun W hW => (cSl cVar).mod ((cSl cVar).bound h2) hW fun _ _ _ q => q
  have E2 := hidden e2
  have Hrd3 : Hid (∀ W, Mod (fun _ => False) w W → (cSl cOut).rd W (fun b => F b ∧ b < w.heap.size) [.slice A3 n3 k3] x3) := hidden fun W hW => (cSl cOut).mod ((cSl cOut).bound h3) hW fun _ _ _ q => q
  have E3 := hidden e3
  have Hrd4 : Hid (∀ W, Mod (fun _ => False) w W → (cSl cOutc).rd W (fun b => F b ∧ b < w.heap.size) [.slice A4 n4 k4] x4) := hidden fun W hW => (cSl cOutc).mod ((cSl cOutc).bound h4) hW fun _ _ _ q => q
  have E4 := hidden e4
  have Hrd5 : Hid (∀ W, Mod (fun _ => False) w W → (cSl cVer).rd W (fun b => F b ∧ b < w.heap.size) [.slice A5 n5 k5] x5) := hidden fun W hW => (cSl cVer).mod ((cSl cVer).bound h5) hW fun _ _ _ q => q
  have E5 := hidden e5
  have Hef := hidden hef
  clear h1 h2 h3 h4 h5 e1 e2 e3 e4 e5 hef
  go_enter Tryz.func21, Tryz.ntmps21
  go_upto_region 1 with fail
  have hm0 : Mod (fun _ => False) w ((w.alloc (.cells #[.slice A1 n1 k1, .slice A2 n2 k2, .slice A3 n3 k3, .slice A4 n4 k4, .slice A5 n5 k5] 28)).alloc (.cells #[nilS, nilS, nilS, nilS, nilS] 41)) := ((Mod.refl _ _).alloc _).alloc _
  have hpb : (World.heap ((w.alloc (.cells #[.slice A1 n1 k1, .slice A2 n2 k2, .slice A3 n3 k3, .slice A4 n4 k4, .slice A5 n5 k5] 28)).alloc (.cells #[nilS, nilS, nilS, nilS, nilS] 41)))[w.heap.size]? = some (.cells #[.slice A1 n1 k1, .slice A2 n2 k2, .slice A3 n3 k3, .slice A4 n4 k4, .slice A5 n5 k5] 28 (0, 0)) := hmx (heap_alloc_new _ _) _
  have hrb : (World.heap ((w.alloc (.cells #[.slice A1 n1 k1, .slice A2 n2 k2, .slice A3 n3 k3, .slice A4 n4 k4, .slice A5 n5 k5] 28)).alloc (.cells #[nilS, nilS, nilS, nilS, nilS] 41)))[w.heap.size + 1]? = some (.cells #[nilS, nilS, nilS, nilS, nilS] 41 (0, 0)) := by
    have := heap_alloc_new (w.alloc (.cells #[.slice A1 n1 k1, .slice A2 n2 k2, .slice A3 n3 k3, .slice A4 n4 k4, .slice A5 n5 k5] 28)) (.cells #[nilS, nilS, nilS, nilS, nilS] 41)
    rwa [World.size_alloc] at this
  have hz0 : w.heap.size + 2 ≤ (World.heap ((w.alloc (.cells #[.slice A1 n1 k1, .slice A2 n2 k2, .slice A3 n3 k3, .slice A4 n4 k4, .slice A5 n5 k5] 28)).alloc (.cells #[nilS, nilS, nilS, nilS, nilS] 41))).size := by simp
  generalize (w.alloc (.cells #[.slice A1 n1 k1, .slice A2 n2 k2, .slice A3 n3 k3, .slice A4 n4 k4, .slice A5 n5 k5] 28)).alloc (.cells #[nilS, nilS, nilS, nilS, nilS] 41) = W0 at *
  have Hm0 := hidden hm0
  have Hpb := hidden hpb
  have Hrb := hidden hrb
  have Hz0 := hidden hz0
  clear hm0 hpb hrb hz0
  go_cut [3] (fun s3 wx => LawMid w W0 F x1 x3 x4 x5 s3 wx)
  case first =>
    have hfield : ∀ (W : World) (R : Option Addr) (q : Nat), (Instr.field 145 (.agg #[.bool false, .slice none 0 0, .slice R x5.length q]) 2).run Tryz.prog W = .ok (.slice R x5.length q) W := by
      intro W R q
      generalize x5.length = nn
      kernel_rfl
    have hheld := held5 Hpb.out
    have Hh0 := hidden hheld
    have Hm : Hid (Mod (fun _ => False) w W0.drew) := hidden Hm0.out.drew
    have Hpd : Hid (W0.drew.heap[w.heap.size]? = some (.cells #[.slice A1 n1 k1, .slice A2 n2 k2, .slice A3 n3 k3, .slice A4 n4 k4, .slice A5 n5 k5] 28 (0, 0))) := hidden Hpb.out
    have Hw : Hid (Mod (fun _ => False) W0.drew W0.drew) := hidden (Mod.refl _ _)
    have Hz : Hid (w.heap.size + 2 ≤ W0.drew.heap.size) := hidden Hz0.out
    go_region_held3 (fun W' => W'.cell? ⟨w.heap.size, 0, none⟩ = some (.slice A1 n1 k1) ∧ W'.cell? ⟨w.heap.size, 1, none⟩ = some (.slice A2 n2 k2) ∧ W'.cell? ⟨w.heap.size, 2, none⟩ = some (.slice A3 n3 k3) ∧ W'.cell? ⟨w.heap.size, 3, none⟩ = some (.slice A4 n4 k4) ∧ W'.cell? ⟨w.heap.size, 4, none⟩ = some (.slice A5 n5 k5))
      (first | (with_reducible exact Hh0.out) | (with_reducible exact held5 Hpd.out) | (with_reducible exact held5 (Hw.out.heapF Hpd.out)) | (with_reducible exact held5 ((Mod.alloc Hw.out _).heapF Hpd.out)) | (with_reducible exact held5 (drew_heap (hmx Hpb.out _))) | (with_reducible exact held5 (setfar Hmg.out (setfar Hmg.out (setfar Hmg.out (setfar Hmg.out (setfar Hmg.out (Hw.out.heapF Hpd.out) _ _) _ _) _ _) _ _) _ _)))
      (first
        | (go_at_call 60; first | ((with_reducible refine (copyFile_calls _ _ _ _ _ (fun b => F b ∧ b < w.heap.size) E1.out (Hrd1.out _ Hm.out) b1).mono ?_); rintro e w2 ⟨v2, rfl, hv2, hm2⟩; obtain ⟨R1, q1, rfl⟩ := rd_slice hv2; (try (replace Hr1 := hidden ((cSl cFile).mod Hr1.out hm2 (fun _ _ _ q => q)))); (try (replace Hr3 := hidden ((cSl cOut).mod Hr3.out hm2 (fun _ _ _ q => q)))); (try (replace Hr4 := hidden ((cSl cOutc).mod Hr4.out hm2 (fun _ _ _ q => q)))); (try (replace Hr5 := hidden ((cSl cVer).mod Hr5.out hm2 (fun _ _ _ q => q)))); (first | (have Hr1 := hidden (lawGm_new hv2 ⟨Hz.out, Hmg.out⟩ Hb.out)) | (have Hr1 := hidden (lawG_new hv2 Hz.out))); (try (replace Hb := hidden (hm2.heapF Hb.out); have m0 := cell_lit Hb.out (j := 0) rfl; have f0 := free_lit Hb.out 0; have m1 := cell_lit Hb.out (j := 1) rfl; have f1 := free_lit Hb.out 1; have m2 := cell_lit Hb.out (j := 2) rfl; have f2 := free_lit Hb.out 2; have m3 := cell_lit Hb.out (j := 3) rfl; have f3 := free_lit Hb.out 3; have m4 := cell_lit Hb.out (j := 4) rfl; have f4 := free_lit Hb.out 4)); replace Hm := hidden (Hm.out.trans hm2); replace Hw := hidden (Hw.out.trans hm2); replace Hz := hidden (Nat.le_trans Hz.out hm2.size); clear hv2 hm2) | ((with_reducible refine (copyFile_calls _ _ _ _ _ (fun b => F b ∧ b < w.heap.size) E1.out (Hrd1.out _ (Mod.alloc Hm.out _)) b1).mono ?_); rintro e w2 ⟨v2, rfl, hv2, hm2⟩; obtain ⟨R1, q1, rfl⟩ := rd_slice hv2; (try (replace Hr1 := hidden (lawGm_of Hr1.out hm2))); (try (replace Hr3 := hidden (lawGm_of Hr3.out hm2))); (try (replace Hr4 := hidden (lawGm_of Hr4.out hm2))); (try (replace Hr5 := hidden (lawGm_of Hr5.out hm2))); have Hr1 := hidden (lawGm_new2 hv2 Hz.out); have Hb := hidden (hm2.heapF (heap_alloc_new _ _)); have Hmg := hidden Hz.out; have m0 := cell_lit Hb.out (j := 0) rfl; have f0 := free_lit Hb.out 0; have m1 := cell_lit Hb.out (j := 1) rfl; have f1 := free_lit Hb.out 1; have m2 := cell_lit Hb.out (j := 2) rfl; have f2 := free_lit Hb.out 2; have m3 := cell_lit Hb.out (j := 3) rfl; have f3 := free_lit Hb.out 3; have m4 := cell_lit Hb.out (j := 4) rfl; have f4 := free_lit Hb.out 4; replace Hm := hidden ((Mod.alloc Hm.out _).trans hm2); replace Hw := hidden ((Mod.alloc Hw.out _).trans hm2); replace Hz := hidden (Nat.le_trans (Nat.le_succ_of_le Hz.out) (size_alloc_le hm2)); clear hv2 hm2) | ((with_reducible refine (copyFile_calls _ _ _ _ _ (fun b => F b ∧ b < w.heap.size) E1.out (Hrd1.out _ (Mod.drew (Mod.alloc Hm0.out _))) b1).mono ?_); rintro e w2 ⟨v2, rfl, hv2, hm2⟩; obtain ⟨R1, q1, rfl⟩ := rd_slice hv2; have Hr1 := hidden (lawGm_new3 hv2 Hz0.out); have Hb := hidden (hm2.heapF (drew_heap (heap_alloc_new _ _))); have Hmg := hidden Hz0.out; have m0 := cell_lit Hb.out (j := 0) rfl; have f0 := free_lit Hb.out 0; have m1 := cell_lit Hb.out (j := 1) rfl; have f1 := free_lit Hb.out 1; have m2 := cell_lit Hb.out (j := 2) rfl; have f2 := free_lit Hb.out 2; have m3 := cell_lit Hb.out (j := 3) rfl; have f3 := free_lit Hb.out 3; have m4 := cell_lit Hb.out (j := 4) rfl; have f4 := free_lit Hb.out 4; replace Hm := hidden ((Mod.drew (Mod.alloc Hm0.out _)).trans hm2); replace Hw := hidden ((drew_mod (Mod.alloc (Mod.refl _ _) _)).trans hm2); replace Hz := hidden (Nat.le_trans (Nat.le_succ_of_le Hz0.out) (size_alloc_le' hm2)); clear hv2 hm2))
        | (go_at_call 61; first | ((with_reducible refine (copyOut_calls _ _ _ _ _ (fun b => F b ∧ b < w.heap.size) E3.out (Hrd3.out _ Hm.out) b3).mono ?_); rintro e w2 ⟨v2, rfl, hv2, hm2⟩; obtain ⟨R3, q3, rfl⟩ := rd_slice hv2; (try (replace Hr1 := hidden ((cSl cFile).mod Hr1.out hm2 (fun _ _ _ q => q)))); (try (replace Hr3 := hidden ((cSl cOut).mod Hr3.out hm2 (fun _ _ _ q => q)))); (try (replace Hr4 := hidden ((cSl cOutc).mod Hr4.out hm2 (fun _ _ _ q => q)))); (try (replace Hr5 := hidden ((cSl cVer).mod Hr5.out hm2 (fun _ _ _ q => q)))); (first | (have Hr3 := hidden (lawGm_new hv2 ⟨Hz.out, Hmg.out⟩ Hb.out)) | (have Hr3 := hidden (lawG_new hv2 Hz.out))); (try (replace Hb := hidden (hm2.heapF Hb.out); have m0 := cell_lit Hb.out (j := 0) rfl; have f0 := free_lit Hb.out 0; have m1 := cell_lit Hb.out (j := 1) rfl; have f1 := free_lit Hb.out 1; have m2 := cell_lit Hb.out (j := 2) rfl; have f2 := free_lit Hb.out 2; have m3 := cell_lit Hb.out (j := 3) rfl; have f3 := free_lit Hb.out 3; have m4 := cell_lit Hb.out (j := 4) rfl; have f4 := free_lit Hb.out 4)); replace Hm := hidden (Hm.out.trans hm2); replace Hw := hidden (Hw.out.trans hm2); replace Hz := hidden (Nat.le_trans Hz.out hm2.size); clear hv2 hm2) | ((with_reducible refine (copyOut_calls _ _ _ _ _ (fun b => F b ∧ b < w.heap.size) E3.out (Hrd3.out _ (Mod.alloc Hm.out _)) b3).mono ?_); rintro e w2 ⟨v2, rfl, hv2, hm2⟩; obtain ⟨R3, q3, rfl⟩ := rd_slice hv2; (try (replace Hr1 := hidden (lawGm_of Hr1.out hm2))); (try (replace Hr3 := hidden (lawGm_of Hr3.out hm2))); (try (replace Hr4 := hidden (lawGm_of Hr4.out hm2))); (try (replace Hr5 := hidden (lawGm_of Hr5.out hm2))); have Hr3 := hidden (lawGm_new2 hv2 Hz.out); have Hb := hidden (hm2.heapF (heap_alloc_new _ _)); have Hmg := hidden Hz.out; have m0 := cell_lit Hb.out (j := 0) rfl; have f0 := free_lit Hb.out 0; have m1 := cell_lit Hb.out (j := 1) rfl; have f1 := free_lit Hb.out 1; have m2 := cell_lit Hb.out (j := 2) rfl; have f2 := free_lit Hb.out 2; have m3 := cell_lit Hb.out (j := 3) rfl; have f3 := free_lit Hb.out 3; have m4 := cell_lit Hb.out (j := 4) rfl; have f4 := free_lit Hb.out 4; replace Hm := hidden ((Mod.alloc Hm.out _).trans hm2); replace Hw := hidden ((Mod.alloc Hw.out _).trans hm2); replace Hz := hidden (Nat.le_trans (Nat.le_succ_of_le Hz.out) (size_alloc_le hm2)); clear hv2 hm2) | ((with_reducible refine (copyOut_calls _ _ _ _ _ (fun b => F b ∧ b < w.heap.size) E3.out (Hrd3.out _ (Mod.drew (Mod.alloc Hm0.out _))) b3).mono ?_); rintro e w2 ⟨v2, rfl, hv2, hm2⟩; obtain ⟨R3, q3, rfl⟩ := rd_slice hv2; have Hr3 := hidden (lawGm_new3 hv2 Hz0.out); have Hb := hidden (hm2.heapF (drew_heap (heap_alloc_new _ _))); have Hmg := hidden Hz0.out; have m0 := cell_lit Hb.out (j := 0) rfl; have f0 := free_lit Hb.out 0; have m1 := cell_lit Hb.out (j := 1) rfl; have f1 := free_lit Hb.out 1; have m2 := cell_lit Hb.out (j := 2) rfl; have f2 := free_lit Hb.out 2; have m3 := cell_lit Hb.out (j := 3) rfl; have f3 := free_lit Hb.out 3; have m4 := cell_lit Hb.out (j := 4) rfl; have f4 := free_lit Hb.out 4; replace Hm := hidden ((Mod.drew (Mod.alloc Hm0.out _)).trans hm2); replace Hw := hidden ((drew_mod (Mod.alloc (Mod.refl _ _) _)).trans hm2); replace Hz := hidden (Nat.le_trans (Nat.le_succ_of_le Hz0.out) (size_alloc_le' hm2)); clear hv2 hm2))
        | (go_at_call 62; first | ((with_reducible refine (copyOutc_calls _ _ _ _ _ (fun b => F b ∧ b < w.heap.size) E4.out (Hrd4.out _ Hm.out) b4 Hef.out).mono ?_); rintro e w2 ⟨v2, rfl, hv2, hm2⟩; obtain ⟨R4, q4, rfl⟩ := rd_slice hv2; (try (replace Hr1 := hidden ((cSl cFile).mod Hr1.out hm2 (fun _ _ _ q => q)))); (try (replace Hr3 := hidden ((cSl cOut).mod Hr3.out hm2 (fun _ _ _ q => q)))); (try (replace Hr4 := hidden ((cSl cOutc).mod Hr4.out hm2 (fun _ _ _ q => q)))); (try (replace Hr5 := hidden ((cSl cVer).mod Hr5.out hm2 (fun _ _ _ q => q)))); (first | (have Hr4 := hidden (lawGm_new hv2 ⟨Hz.out, Hmg.out⟩ Hb.out)) | (have Hr4 := hidden (lawG_new hv2 Hz.out))); (try (replace Hb := hidden (hm2.heapF Hb.out); have m0 := cell_lit Hb.out (j := 0) rfl; have f0 := free_lit Hb.out 0; have m1 := cell_lit Hb.out (j := 1) rfl; have f1 := free_lit Hb.out 1; have m2 := cell_lit Hb.out (j := 2) rfl; have f2 := free_lit Hb.out 2; have m3 := cell_lit Hb.out (j := 3) rfl; have f3 := free_lit Hb.out 3; have m4 := cell_lit Hb.out (j := 4) rfl; have f4 := free_lit Hb.out 4)); replace Hm := hidden (Hm.out.trans hm2); replace Hw := hidden (Hw.out.trans hm2); replace Hz := hidden (Nat.le_trans Hz.out hm2.size); clear hv2 hm2) | ((with_reducible refine (copyOutc_calls _ _ _ _ _ (fun b => F b ∧ b < w.heap.size) E4.out (Hrd4.out _ (Mod.alloc Hm.out _)) b4 Hef.out).mono ?_); rintro e w2 ⟨v2, rfl, hv2, hm2⟩; obtain ⟨R4, q4, rfl⟩ := rd_slice hv2; (try (replace Hr1 := hidden (lawGm_of Hr1.out hm2))); (try (replace Hr3 := hidden (lawGm_of Hr3.out hm2))); (try (replace Hr4 := hidden (lawGm_of Hr4.out hm2))); (try (replace Hr5 := hidden (lawGm_of Hr5.out hm2))); have Hr4 := hidden (lawGm_new2 hv2 Hz.out); have Hb := hidden (hm2.heapF (heap_alloc_new _ _)); have Hmg := hidden Hz.out; have m0 := cell_lit Hb.out (j := 0) rfl; have f0 := free_lit Hb.out 0; have m1 := cell_lit Hb.out (j := 1) rfl; have f1 := free_lit Hb.out 1; have m2 := cell_lit Hb.out (j := 2) rfl; have f2 := free_lit Hb.out 2; have m3 := cell_lit Hb.out (j := 3) rfl; have f3 := free_lit Hb.out 3; have m4 := cell_lit Hb.out (j := 4) rfl; have f4 := free_lit Hb.out 4; replace Hm := hidden ((Mod.alloc Hm.out _).trans hm2); replace Hw := hidden ((Mod.alloc Hw.out _).trans hm2); replace Hz := hidden (Nat.le_trans (Nat.le_succ_of_le Hz.out) (size_alloc_le hm2)); clear hv2 hm2) | ((with_reducible refine (copyOutc_calls _ _ _ _ _ (fun b => F b ∧ b < w.heap.size) E4.out (Hrd4.out _ (Mod.drew (Mod.alloc Hm0.out _))) b4 Hef.out).mono ?_); rintro e w2 ⟨v2, rfl, hv2, hm2⟩; obtain ⟨R4, q4, rfl⟩ := rd_slice hv2; have Hr4 := hidden (lawGm_new3 hv2 Hz0.out); have Hb := hidden (hm2.heapF (drew_heap (heap_alloc_new _ _))); have Hmg := hidden Hz0.out; have m0 := cell_lit Hb.out (j := 0) rfl; have f0 := free_lit Hb.out 0; have m1 := cell_lit Hb.out (j := 1) rfl; have f1 := free_lit Hb.out 1; have m2 := cell_lit Hb.out (j := 2) rfl; have f2 := free_lit Hb.out 2; have m3 := cell_lit Hb.out (j := 3) rfl; have f3 := free_lit Hb.out 3; have m4 := cell_lit Hb.out (j := 4) rfl; have f4 := free_lit Hb.out 4; replace Hm := hidden ((Mod.drew (Mod.alloc Hm0.out _)).trans hm2); replace Hw := hidden ((drew_mod (Mod.alloc (Mod.refl _ _) _)).trans hm2); replace Hz := hidden (Nat.le_trans (Nat.le_succ_of_le Hz0.out) (size_alloc_le' hm2)); clear hv2 hm2))
        | (go_at_call 63; first | ((with_reducible refine (copyVer_calls _ _ _ _ _ (fun b => F b ∧ b < w.heap.size) E5.out (Hrd5.out _ Hm.out) b5).mono ?_); rintro e w2 ⟨R5, nn, q5, rfl, hnn, hv2, hm2⟩; subst hnn; (try (replace Hr1 := hidden ((cSl cFile).mod Hr1.out hm2 (fun _ _ _ q => q)))); (try (replace Hr3 := hidden ((cSl cOut).mod Hr3.out hm2 (fun _ _ _ q => q)))); (try (replace Hr4 := hidden ((cSl cOutc).mod Hr4.out hm2 (fun _ _ _ q => q)))); (try (replace Hr5 := hidden ((cSl cVer).mod Hr5.out hm2 (fun _ _ _ q => q)))); (first | (have Hr5 := hidden (lawGm_new hv2 ⟨Hz.out, Hmg.out⟩ Hb.out)) | (have Hr5 := hidden (lawG_new hv2 Hz.out))); (try (replace Hb := hidden (hm2.heapF Hb.out); have m0 := cell_lit Hb.out (j := 0) rfl; have f0 := free_lit Hb.out 0; have m1 := cell_lit Hb.out (j := 1) rfl; have f1 := free_lit Hb.out 1; have m2 := cell_lit Hb.out (j := 2) rfl; have f2 := free_lit Hb.out 2; have m3 := cell_lit Hb.out (j := 3) rfl; have f3 := free_lit Hb.out 3; have m4 := cell_lit Hb.out (j := 4) rfl; have f4 := free_lit Hb.out 4)); replace Hm := hidden (Hm.out.trans hm2); replace Hw := hidden (Hw.out.trans hm2); replace Hz := hidden (Nat.le_trans Hz.out hm2.size); clear hv2 hm2) | ((with_reducible refine (copyVer_calls _ _ _ _ _ (fun b => F b ∧ b < w.heap.size) E5.out (Hrd5.out _ (Mod.alloc Hm.out _)) b5).mono ?_); rintro e w2 ⟨R5, nn, q5, rfl, hnn, hv2, hm2⟩; subst hnn; (try (replace Hr1 := hidden (lawGm_of Hr1.out hm2))); (try (replace Hr3 := hidden (lawGm_of Hr3.out hm2))); (try (replace Hr4 := hidden (lawGm_of Hr4.out hm2))); (try (replace Hr5 := hidden (lawGm_of Hr5.out hm2))); have Hr5 := hidden (lawGm_new2 hv2 Hz.out); have Hb := hidden (hm2.heapF (heap_alloc_new _ _)); have Hmg := hidden Hz.out; have m0 := cell_lit Hb.out (j := 0) rfl; have f0 := free_lit Hb.out 0; have m1 := cell_lit Hb.out (j := 1) rfl; have f1 := free_lit Hb.out 1; have m2 := cell_lit Hb.out (j := 2) rfl; have f2 := free_lit Hb.out 2; have m3 := cell_lit Hb.out (j := 3) rfl; have f3 := free_lit Hb.out 3; have m4 := cell_lit Hb.out (j := 4) rfl; have f4 := free_lit Hb.out 4; replace Hm := hidden ((Mod.alloc Hm.out _).trans hm2); replace Hw := hidden ((Mod.alloc Hw.out _).trans hm2); replace Hz := hidden (Nat.le_trans (Nat.le_succ_of_le Hz.out) (size_alloc_le hm2)); clear hv2 hm2) | ((with_reducible refine (copyVer_calls _ _ _ _ _ (fun b => F b ∧ b < w.heap.size) E5.out (Hrd5.out _ (Mod.drew (Mod.alloc Hm0.out _))) b5).mono ?_); rintro e w2 ⟨R5, nn, q5, rfl, hnn, hv2, hm2⟩; subst hnn; have Hr5 := hidden (lawGm_new3 hv2 Hz0.out); have Hb := hidden (hm2.heapF (drew_heap (heap_alloc_new _ _))); have Hmg := hidden Hz0.out; have m0 := cell_lit Hb.out (j := 0) rfl; have f0 := free_lit Hb.out 0; have m1 := cell_lit Hb.out (j := 1) rfl; have f1 := free_lit Hb.out 1; have m2 := cell_lit Hb.out (j := 2) rfl; have f2 := free_lit Hb.out 2; have m3 := cell_lit Hb.out (j := 3) rfl; have f3 := free_lit Hb.out 3; have m4 := cell_lit Hb.out (j := 4) rfl; have f4 := free_lit Hb.out 4; replace Hm := hidden ((Mod.drew (Mod.alloc Hm0.out _)).trans hm2); replace Hw := hidden ((drew_mod (Mod.alloc (Mod.refl _ _) _)).trans hm2); replace Hz := hidden (Nat.le_trans (Nat.le_succ_of_le Hz0.out) (size_alloc_le' hm2)); clear hv2 hm2)))
    all_goals (go_wp2_with fail; go_meet; first | (with_reducible exact lawMid_set Hb.out rfl Hmg.out Hw.out Hr1.out Hr3.out Hr4.out Hr5.out) | (with_reducible exact lawMid_new Hz.out Hw.out Hr1.out Hr3.out Hr4.out Hr5.out) | skip)
  case rest =>
    obtain ⟨m, R1, q1, R3, q3, R4, q4, R5, q5, rfl, hb, hg, hm, g1, g3, g4, g5⟩ := hcut
    have hT : SlT Tryz.prog 36 72 cVar.size := slT_of (by kernel_rfl)
    have Hmw := hidden (Hm0.out.trans' hm fun x hx q => by omega)
    have hmz := (Array.getElem?_eq_some_iff.1 hb).1
    have Hg1 := hidden ((cSl cFile).bound g1)
    have Hg3 := hidden ((cSl cOut).bound g3)
    have Hg4 := hidden ((cSl cOutc).bound g4)
    have Hg5 := hidden ((cSl cVer).bound g5)
    have hpw := hm.heap Hpb.out (by omega)
    have hrw := hm.heap Hrb.out (by omega)
    have hzw := hm.size
    have hz0 := Hz0.out
    have p1 := cell_lit hpw (j := 1) rfl
    have Hb := hidden hb
    have Hpw := hidden hpw
    have Hrw := hidden hrw
    clear hb hm g1 g3 g4 g5 hpw hrw
    generalize hl1 : x1.length = l1 at *
    generalize hl3 : x3.length = l3 at *
    generalize hl4 : x4.length = l4 at *
    generalize hl5 : x5.length = l5 at *
    have Hl1 := hidden hl1
    have Hl3 := hidden hl3
    have Hl4 := hidden hl4
    have Hl5 := hidden hl5
    clear hl1 hl3 hl4 hl5
    go_wp2_with fail
    clear p1
    go_loopw [24] (fun i wr => ∃ (k : Nat) (v : Value), k ≤ n2 ∧ i = .int .i64 k ∧ wr.heap[m]? = some (.cells #[.slice R1 l1 q1, v, .slice R3 l3 q3, .slice R4 l4 q4, .slice R5 l5 q5] 41 (0, 0)) ∧ Own cVar 72 wr wc.heap.size (fun b => F b ∧ b < w.heap.size) v (x2.take k) ∧ Mod (· = m) wc wr) (fun i _ => n2 - (intOf i).toNat)
    case atStart => exact ⟨0, nilS, Nat.zero_le _, rfl, Hb.out, Own.nil _ _ _ _ _, Mod.refl _ _⟩
    case round =>
      obtain ⟨k, v, hk, rfl, hb, hO, hm⟩ := hrel
      have hz := hm.size
      have hlb : m < wr.heap.size := (Array.getElem?_eq_some_iff.1 hb).1
      have Hmr : Hid (Mod (fun _ => False) w wr) := hidden (Hmw.out.trans' hm fun x hx q => by omega)
      by_cases hlt : k < n2
      · have hkx : k < x2.length := by rw [← E2.out]; exact hlt
        obtain ⟨x, hx⟩ : ∃ x, x2[k]? = some x := ⟨_, List.getElem?_eq_getElem hkx⟩
        have hrd := Hrd2.out wr Hmr.out
        rw [E2.out] at hrd
        obtain ⟨b, off, hA, hF, hbl, hr⟩ := cSl_at hrd (by rintro rfl; simp at hkx)
        have Htk : Hid (x2.take (k + 1) = x2.take k ++ [x]) := hidden (by rw [List.take_add_one, hx]; rfl)
        have Hlen : Hid ((x2.take k).length = k) := hidden (by simp; omega)
        obtain ⟨cs, hcs, hc⟩ := hr.get k x hx
        obtain ⟨A', n', cap', rfl⟩ := cVar_shape hcs
        have Hy := hidden hcs
        have c0 := hc 0 (by decide)
        have c1 := hc 1 (by decide)
        have c2 := hc 2 (by decide)
        have c3 := hc 3 (by decide)
        simp only [show cVar.size = 4 from rfl, Nat.add_zero, List.getElem?_cons_zero, List.getElem?_cons_succ] at c0 c1 c2 c3
        subst hA
        have hne : b ≠ wr.heap.size := by omega
        have hblt : b < wr.heap.size := by omega
        have hkn : (k : Int) < n2 := by omega
        have d1 := cell_lit hb (j := 1) rfl
        have hne2 : m ≠ wr.heap.size := by omega
        have HO := hidden hO
        have hblk := hidden hO.blk
        have Hm := hidden hm
        have Hb' := hidden hb
        clear hO hm hrd hr hc hcs hx hF hb
        go_wp2_with ((with_reducible refine wpList_app1s (o := ⟨some 31, _, _, _, _, _⟩) (c := cVar) (d := 31) (s := .tmp 29) (x := .tmp 30) (v := v) (y := .agg #[.string x.name, .slice A' n' cap', .int .i64 x.level, .bool x.hidden]) hT (cVar.alloc (cVar.bound Hy.out) _) (own_alloc HO.out _) (fun b hb _ => ⟨hb.1, fun q => by have := hblk.out b q.symm; have := hb.1.2; omega⟩) ?_ ?_ ?_ ?_); (simp; omega); (rw [Hlen.out]; omega); exact ⟨⟨rfl, rfl, rfl, rfl, rfl⟩, rfl, rfl, rfl⟩; intro v1 w3 hO3 hm3 hat; obtain ⟨Av, nv, kv, rfl⟩ := hO3.shape'; have hb3 := hm3.heap (hmx Hb'.out _) (fun q => by have := hblk.out _ q.symm; omega); have e1 := cell_lit hb3 (j := 1) rfl; have f1 := free_lit hb3 1; have Hb3 := hidden hb3; have HO3 := hidden hO3; have Hm3 := hidden hm3; clear hb3 hO3 hm3 hat)
        have hset : Mod (· = m) w3 (w3.setCell ⟨m, 1, none⟩ (.slice Av nv kv)) := (Mod.refl _ _).set1 _ _
        have Hset := hidden hset
        clear hset
        go_roundw
        case rel =>
          refine ⟨k + 1, _, by omega, by go_num, set_lit Hb3.out 1 _, ?_, ?_⟩
          · rw [Htk.out]
            exact HO3.out.mod Hset.out (fun k hk => by have := HO3.out.blk k hk; omega) (fun b hb _ q => by have := hb.2; omega)
          · exact ((Hm.out.alloc _).trans' Hm3.out fun x hx q => by have := hblk.out x q.symm; omega).trans Hset.out
        case measure => simp [intOf]; omega
      · obtain rfl : k = n2 := by omega
        rw [List.take_of_length_le (by rw [E2.out]; exact Nat.le_refl _)] at hO
        have Hsame : Hid (∀ S : Fp, (∀ b, S b → b = w.heap.size + 1) → ∀ w3, Mod S wr w3 → ∀ (α : Type) (c : Cd α) (cs : List Value) (x : α), c.rd wc (fun b => LawGm w F m b ∧ b < wc.heap.size) cs x → c.rd w3 (CopyF w F) cs x) := hidden fun S hS w3 h3 α c cs x hx => c.keep hx fun b hb hl => by
          have h1 : b ≠ w.heap.size + 1 := by rcases hb.1.1 with q | q <;> omega
          exact ⟨(h3.block b (by omega) fun q => h1 (hS b q)).trans (hm.block b hl (by have := hb.1.2; omega)), by rcases hb.1.1 with q | q; exact .inl (by omega); exact .inr q⟩
        obtain ⟨Av, kv, rfl, _⟩ := hO.shape
        have Hrd := hidden (hO.read (F' := fun b => wc.heap.size ≤ b ∨ (F b ∧ b < w.heap.size)) (fun _ q => .inr q) (fun _ q => .inl q))
        have hrr := hm.heap Hrw.out (by omega)
        rw [← E2.out] at Hrd
        have b0 := cell_lit hb (j := 0) rfl
        have b1 := cell_lit hb (j := 1) rfl
        have b2 := cell_lit hb (j := 2) rfl
        have b3 := cell_lit hb (j := 3) rfl
        have b4 := cell_lit hb (j := 4) rfl
        have r0 := cell_lit hrr (j := 0) rfl
        have r1 := cell_lit hrr (j := 1) rfl
        have r2 := cell_lit hrr (j := 2) rfl
        have r3 := cell_lit hrr (j := 3) rfl
        have r4 := cell_lit hrr (j := 4) rfl
        have s0 := free_lit hrr 0
        have s1 := free_lit hrr 1
        have s2 := free_lit hrr 2
        have s3 := free_lit hrr 3
        have s4 := free_lit hrr 4
        rw [← E2.out] at b1
        clear hO hm hb hrr
        go_wp2_with fail
        have h8 : Mod (· = w.heap.size + 1) wr (((((wr.setCell ⟨w.heap.size + 1, 0, none⟩ (.slice R1 l1 q1)).setCell ⟨w.heap.size + 1, 1, none⟩ (.slice Av k kv)).setCell ⟨w.heap.size + 1, 2, none⟩ (.slice R3 l3 q3)).setCell ⟨w.heap.size + 1, 3, none⟩ (.slice R4 l4 q4)).setCell ⟨w.heap.size + 1, 4, none⟩ (.slice R5 l5 q5)) := (((((Mod.refl _ _).set1 _ _).set1 _ _).set1 _ _).set1 _ _).set1 _ _
        have hs := Hsame.out _ (fun _ q => q) _ h8
        refine bodyPost_ret (v := .agg #[.slice R1 l1 q1, .slice Av k kv, .slice R3 l3 q3, .slice R4 l4 q4, .slice R5 l5 q5]) (by simp [results, Tryz.results21, go_sem, r0, r1, r2, r3, r4]) rfl ⟨_, _, _, _, _, rfl, ⟨[_], _, rfl, hs _ _ _ _ Hg1.out, [_], _, rfl, ?_, [_], _, rfl, hs _ _ _ _ Hg3.out, [_], _, rfl, hs _ _ _ _ Hg4.out, hs _ _ _ _ Hg5.out⟩, Hmr.out.trans' h8 fun x hx q => by omega⟩
        exact (cSl cVar).keep Hrd fun b hb hl => ⟨h8.block b hl (by rcases hb with hb | hb <;> omega), by rcases hb with hb | hb; exact .inl (by omega); exact .inr hb⟩
end Go.Proofs.YthgibbekfcenhaaGreatDoor
