/- The walks of env.Check, slices.Clone, Var.apart, Env.Set: they answer. -/
import Derived.Test.YthgibbekfcenhaaGreatDoorEnvA
import Derived.Lib.SliceRun
namespace Go.Proofs.YthgibbekfcenhaaGreatDoor
open Go.RowKit

set_option maxHeartbeats 1000000 in
theorem check_calls (w : World) (F : Fp) (v : PVar) (a1 a2 a3 a4 : Value) (h : cVar.rd w F [a1, a2, a3, a4] v) (hlen : v.words.length ≤ 1000) (hE : Errs w) :
    Calls Tryz.prog 86 #[.agg #[a1, a2, a3, a4]] w (SomeErr w) := by
  obtain ⟨A, k1, rfl, rfl, rfl, rfl, hx⟩ := var_cells h
  have hsz : v.name.size ≤ maxLen := by
    obtain ⟨p, q, he, ⟨rfl, hs⟩, _⟩ := h
    exact hs
  obtain ⟨vn, vw, vl, vh⟩ := v
  simp only at *
  have Hx : Hid (∀ o, (cSl cStr).rd (w.alloc o) F [.slice A vw.length k1] vw) := hidden fun o => (cSl cStr).alloc hx o
  have Hm : Hid (∀ o, Mod (fun _ => False) w (w.alloc o)) := hidden fun o => (Mod.refl _ _).alloc _
  have HE : Hid (∀ W, Mod (fun _ => False) w W → Errs W) := hidden fun W hm => ⟨hE.form.mod hm fun q => q, hE.full.mod hm fun q => q, hE.name.mod hm fun q => q, hE.range.mod hm fun q => q, hE.long.mod hm fun q => q⟩
  clear h hx hE
  generalize hn : vw.length = n at *
  have Hn := hidden hn.symm
  have Hsz := hidden hsz
  clear hn hsz
  go_enter Tryz.func86, Tryz.ntmps86
  go_wp2_with fail
  refine (nameL_calls vn _ Hsz.out).mono ?_
  rintro e w1 ⟨b, rfl, rfl⟩
  obtain ⟨⟨t0, x0, e0⟩, ⟨t1, x1, e1⟩, ⟨t2, x2, e2⟩, ⟨t3, x3, e3⟩, ⟨t4, x4, e4⟩⟩ := HE.out _ (Hm.out (.cells #[.string vn, .slice A n k1, .int .i64 vl, .bool vh] 98))
  cases b
  · go_wp2_with fail
    go_ret
    exact ⟨_, rfl, .inr ⟨_, _, rfl⟩, Hm.out _⟩
  by_cases h1 : vl < 0
  · have d1 : decide (vl < 0) = true := decide_eq_true h1
    clear h1
    go_wp2_with fail
    go_ret
    exact ⟨_, rfl, .inr ⟨_, _, rfl⟩, Hm.out _⟩
  have d1 : decide (vl < 0) = false := decide_eq_false h1
  by_cases h2 : 2 < vl
  · have d2 : decide (2 < vl) = true := decide_eq_true h2
    clear h1 h2
    go_wp2_with fail
    go_ret
    exact ⟨_, rfl, .inr ⟨_, _, rfl⟩, Hm.out _⟩
  have d2 : decide (2 < vl) = false := decide_eq_false h2
  clear h1 h2
  by_cases h3 : (40 : Int) < n
  · go_wp2_with fail
    go_ret
    exact ⟨_, rfl, .inr ⟨_, _, rfl⟩, Hm.out _⟩
  go_wp2_with fail
  refine (containsF_calls A n k1 _ F vw Hn.out (Hx.out _) (by omega)).mono ?_
  rintro e w1 ⟨b, rfl, rfl⟩
  cases b
  · go_wp2_with fail
    go_ret
    exact ⟨_, rfl, .inl rfl, Hm.out _⟩
  · go_wp2_with fail
    go_ret
    exact ⟨_, rfl, .inr ⟨_, _, rfl⟩, Hm.out _⟩
theorem two_new' (W : World) (o o' : Obj) : ((W.alloc o).alloc o').heap[W.heap.size + 1]? = some o' := by
  have := heap_alloc_new (W.alloc o) o'
  rwa [World.size_alloc] at this
/-- An append whose run is known. -/
theorem wpList_append_run {P : Program} {w w' : World} {ops : Array Oper} {rest : List Oper} {o : Oper} {a : Act} {Q : Exit → Act → World → Prop} {v u v' : Value} {t : TypeId} {s x : Operand}
    (hr : (Builtin.append_ #[t, t] o.type #[v, u]).run P w = .ok v' w') (hside : (o.guard = none ∧ o.op = .call { callee := .builtin .append, args := #[s, x], argTypes := #[t, t] }) ∧ a.eval s = v ∧ a.eval x = u)
    (h : wpList P ops Q rest (a.put o.dst v') w') : wpList P ops Q (o :: rest) a w := by
  refine wpList_plain hside.1.1 fun K hK => ?_
  unfold Oper.wp execOp
  simp only [hside.1.2, resolve, invoke, builtin, Sem.run_bind, Sem.run_pure, Result.andThen_ok, List.map_toArray, List.map_cons, List.map_nil, hside.2.1, hside.2.2, hr]
  exact hK _ _ h
/-- Some variable. -/
def SomeVar (w : World) (e : Ending) (w' : World) : Prop := ∃ (n : ByteArray) (A : Option Addr) (k c : Nat) (l : Int) (h : Bool), e = .returned (.agg #[.string n, .slice A k c, .int .i64 l, .bool h]) ∧ Mod (fun _ => False) w w'
def SomeSl (w : World) (e : Ending) (w' : World) : Prop := ∃ (A : Option Addr) (n k : Nat), e = .returned (.slice A n k) ∧ Mod (fun _ => False) w w'
theorem strs_cells {w : World} {F : Fp} {a : Addr} {n k : Nat} {xs : List ByteArray} (hn : n = xs.length) (h : (cSl cStr).rd w F [.slice (some a) n k] xs) :
    ∀ j u, (xs.map Value.string)[j]? = some u → w.cell? (a.add j) = some u := by
  intro j u hu
  rw [hn] at h
  have hj : j < xs.length := by have := (List.getElem?_eq_some_iff.1 hu).1; simpa using this
  obtain ⟨b, off, he, _, _, hr⟩ := cSl_at h (by rintro rfl; simp at hj)
  obtain rfl : a = ⟨b, off, none⟩ := by simpa using he
  obtain ⟨cs, ⟨rfl, _⟩, hc⟩ := hr.get j xs[j] (List.getElem?_eq_getElem hj)
  have := hc 0 (by decide)
  simp only [show cStr.size = 1 from rfl, Nat.mul_one, Nat.add_zero, List.getElem?_cons_zero] at this
  rw [List.getElem?_map, List.getElem?_eq_getElem hj, Option.map_some] at hu
  rw [← hu, ← this]
  congr 1
  unfold Addr.add
  split
  · rename_i h0; simp
  · rfl

set_option maxHeartbeats 1000000 in
theorem clone_calls (A : Option Addr) (n k1 : Nat) (w : World) (F : Fp) (xs : List ByteArray) (hn : n = xs.length) (h : (cSl cStr).rd w F [.slice A n k1] xs) (hlen : n ≤ 1000) :
    Calls Tryz.prog 99 #[.slice A n k1] w (SomeSl w) := by
  cases A with
  | none =>
    have hq := fun W => Lib.run_eql_slice_nil (P := Tryz.prog) W 29 9 none n k1 0 0 Tryz.underlying29
    simp only [Option.isNone_none] at hq
    clear hn h
    go_enter Tryz.func99, Tryz.ntmps99
    go_wp2_with fail
    go_ret
    exact ⟨_, _, _, rfl, Mod.refl _ _⟩
  | some a =>
    have hT : SlT Tryz.prog 29 9 1 := slT_of (by kernel_rfl)
    obtain ⟨i, z, hi, hz, hsz, hzs, hby⟩ := hT.info
    have hown : (w.alloc (.cells #[] 9)).ownsRow w.heap.size 9 1 (.slice (some ⟨w.heap.size, 0, none⟩) 0 0) 0 [] :=
      ⟨rfl, .inr ⟨w.heap.size, 0, #[], rfl, Nat.le_refl _, heap_alloc_new _ _, Nat.le_refl _, Nat.zero_le _, rfl, rfl⟩⟩
    obtain ⟨v', w', hr, ho, hg, _⟩ := run_append_own_at (P := Tryz.prog) (w := w.alloc (.cells #[] 9)) w.heap.size 29 29 9 i z 1 i.bytes hT.under hi hz hsz rfl hzs (by decide) _ 0 [] hown a n k1 (xs.map Value.string) (by simp [hn])
      (strs_cells hn ((cSl cStr).alloc h _)) (fun u hu => by obtain ⟨s, _, rfl⟩ := List.mem_map.1 hu; rfl) (by unfold maxLen; omega) (Nat.le_trans (Nat.mul_le_mul (show 0 + n ≤ 1000 by omega) hby) (by decide)) (by simp)
    obtain ⟨A', n', k', rfl⟩ : ∃ A n k, v' = .slice A n k := by
      rcases ho.2 with ⟨rfl, _⟩ | ⟨g, cap, cur, rfl, _⟩
      · exact ⟨_, _, _, rfl⟩
      · exact ⟨_, _, _, rfl⟩
    have Hm : Hid (Mod (fun _ => False) w w') := hidden (Mod.grown ((Mod.refl _ _).alloc _) hg fun k hk => .inr (by simp [Value.ownBlock] at hk; omega))
    have Hr := hidden hr
    clear hr
    have hq := fun W => Lib.run_eql_slice_nil (P := Tryz.prog) W 29 9 (some a) n k1 0 0 Tryz.underlying29
    simp only [Option.isNone_some] at hq
    clear hown ho hg hn h hi hz hsz hzs hby
    go_enter Tryz.func99, Tryz.ntmps99
    go_wp2_with (at_builtin; refine wpList_append_run (o := ⟨some 7, _, _, _, _, _⟩) Hr.out ⟨⟨rfl, rfl⟩, rfl, rfl⟩ ?_)
    go_ret
    exact ⟨_, _, _, rfl, Hm.out⟩

set_option maxHeartbeats 1000000 in
theorem apart_calls (w : World) (F : Fp) (v : PVar) (a1 a2 a3 a4 : Value) (h : cVar.rd w F [a1, a2, a3, a4] v) (hlen : v.words.length ≤ 1000) :
    Calls Tryz.prog 87 #[.agg #[a1, a2, a3, a4]] w (SomeVar w) := by
  obtain ⟨A, k1, rfl, rfl, rfl, rfl, hx⟩ := var_cells h
  obtain ⟨vn, vw, vl, vh⟩ := v
  simp only at *
  have Hx : Hid (∀ W, Mod (fun _ => False) w W → (cSl cStr).rd W F [.slice A vw.length k1] vw) := hidden fun W hW => (cSl cStr).mod hx hW fun _ _ _ q => q
  clear h hx
  generalize hn : vw.length = n at *
  have Hn := hidden hn.symm
  clear hn
  go_enter Tryz.func87, Tryz.ntmps87
  go_wp2_with fail
  refine (clone_calls A n k1 _ F vw Hn.out (Hx.out _ (((Mod.refl _ _).alloc _).alloc _)) hlen).mono ?_
  rintro e w1 ⟨A', n', k', rfl, hm1⟩
  have hb := hm1.heapF (hmx (heap_alloc_new _ _) _)
  have hb2 := hm1.heapF (two_new' _ _ _)
  have Hm1 := hidden ((((Mod.refl (fun _ => False) w).alloc _).alloc _).trans hm1)
  have m0 := cell_lit hb (j := 0) rfl; have f0 := free_lit hb 0
  have m1 := cell_lit hb (j := 1) rfl; have f1 := free_lit hb 1
  have m2 := cell_lit hb (j := 2) rfl; have f2 := free_lit hb 2
  have m3 := cell_lit hb (j := 3) rfl; have f3 := free_lit hb 3
  have r0 := cell_lit hb2 (j := 0) rfl; have q0 := free_lit hb2 0
  have r1 := cell_lit hb2 (j := 1) rfl; have q1 := free_lit hb2 1
  have r2 := cell_lit hb2 (j := 2) rfl; have q2 := free_lit hb2 2
  have r3 := cell_lit hb2 (j := 3) rfl; have q3 := free_lit hb2 3
  clear hb hb2 hm1
  go_wp2_with fail
  refine bodyPost_ret (v := .agg #[.string vn, .slice A' n' k', .int .i64 vl, .bool vh]) (by simp [results, Tryz.results87, go_sem, r0, r1, r2, r3]) rfl ⟨_, _, _, _, _, _, rfl, ?_⟩
  exact ((((Hm1.out.setCell (p := ⟨w.heap.size, 1, none⟩) (.inr (Nat.le_refl _)) _).setCell (p := ⟨w.heap.size + 1, 0, none⟩) (.inr (Nat.le_succ _)) _).setCell (p := ⟨w.heap.size + 1, 1, none⟩) (.inr (Nat.le_succ _)) _).setCell (p := ⟨w.heap.size + 1, 2, none⟩) (.inr (Nat.le_succ _)) _).setCell (p := ⟨w.heap.size + 1, 3, none⟩) (.inr (Nat.le_succ _)) _
end Go.Proofs.YthgibbekfcenhaaGreatDoor
