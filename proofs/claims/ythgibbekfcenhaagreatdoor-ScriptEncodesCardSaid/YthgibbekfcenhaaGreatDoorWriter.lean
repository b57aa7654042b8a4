/- The walks of package script's writer: what it writes, and whether it was refused. -/
import Derived.Test.YthgibbekfcenhaaGreatDoorPlain
import Derived.Lib.AppendStr
namespace Go.Proofs.YthgibbekfcenhaaGreatDoor
open Go.RowKit

/-- Block g is a writer: its bytes, a row of the call's own; was something refused? -/
structure IsWr (W : World) (g : Nat) (v : Value) (l : Bytes) (bad : Bool) : Prop where
  box : W.heap[g]? = some (.cells #[v, .bool bad] 85 (0, 0))
  own : Own cU8 5 W (g + 1) (fun _ => False) v l
/-- Which blocks a writer's step may turn. -/
abbrev WrF (g : Nat) (v : Value) : Fp := fun k => k = g ∨ some k = v.ownBlock
structure WrStep (g : Nat) (v v' : Value) (w w' : World) : Prop where
  mod : Mod (WrF g v) w w'
  lies : v'.ownBlock = v.ownBlock ∨ ∃ b, v'.ownBlock = some b ∧ w.heap.size ≤ b
theorem WrStep.refl (g : Nat) (v : Value) (w : World) : WrStep g v v w w := ⟨Mod.refl _ _, .inl rfl⟩
theorem WrStep.trans {g : Nat} {v v' v2 : Value} {a b c : World} (h : WrStep g v v' a b) (k : WrStep g v' v2 b c) : WrStep g v v2 a c := by
  refine ⟨h.mod.trans' k.mod ?_, ?_⟩
  · rintro x hx (q | q)
    · exact .inl q
    · rcases h.lies with e | ⟨b', e, hb⟩
      · exact .inr (by rw [← e]; exact q)
      · rw [e] at q; have := Option.some.inj q; omega
  · rcases k.lies with e | ⟨b', e, hb⟩
    · rw [e]; exact h.lies
    · exact .inr ⟨b', e, Nat.le_trans h.mod.size hb⟩
theorem WrStep.alloc {g : Nat} {v v' : Value} {a b : World} {o : Obj} (h : WrStep g v v' (a.alloc o) b) : WrStep g v v' a b :=
  ⟨((Mod.refl _ a).alloc o).trans h.mod, h.lies.imp id fun ⟨b', e, hb⟩ => ⟨b', e, by rw [World.size_alloc] at hb; omega⟩⟩
theorem IsWr.lt {W : World} {g : Nat} {v : Value} {l : Bytes} {bad : Bool} (h : IsWr W g v l bad) : g < W.heap.size := (Array.getElem?_eq_some_iff.1 h.box).1
theorem IsWr.mod {W W' : World} {S : Fp} {g : Nat} {v : Value} {l : Bytes} {bad : Bool} (h : IsWr W g v l bad) (hm : Mod S W W') (hg : ¬ S g) (ho : ∀ k, v.ownBlock = some k → ¬ S k) : IsWr W' g v l bad :=
  ⟨hm.heap h.box hg, h.own.mod hm ho fun _ q => q.elim⟩
theorem IsWr.alloc {W : World} {g : Nat} {v : Value} {l : Bytes} {bad : Bool} (h : IsWr W g v l bad) (o : Obj) : IsWr (W.alloc o) g v l bad :=
  h.mod ((Mod.refl (fun _ => False) W).alloc o) (fun q => q) fun _ _ q => q
/-- Old blocks that are not the writer's are kept. -/
theorem WrStep.keep {g : Nat} {v v' : Value} {w w' : World} {l : Bytes} {bad : Bool} (h : WrStep g v v' w w') (hw : IsWr w g v l bad) {b : Nat} (hb : b < g) : w'.heap[b]? = w.heap[b]? :=
  h.mod.block b (by have := hw.lt; omega) (by rintro (q | q); omega; have := hw.own.blk b q.symm; omega)
/-- What a writer's call does. -/
def WrPost (okx : Bool) (ex : Bytes) (wx : Nat) (g : Nat) (v : Value) (l : Bytes) (bad : Bool) (w : World) (e : Ending) (w' : World) : Prop :=
  e = .returned (.tuple #[]) ∧ ∃ v' l' bad', IsWr w' g v' l' bad' ∧ WrStep g v v' w w' ∧ bad' = (bad || !okx) ∧ (bad' = false → l' = l ++ ex) ∧ l'.length ≤ l.length + wx
/-- 'append(b, s...)', s a string. -/
theorem app_str_lies {P : Program} (w : World) (base : Nat) (t u ty e : TypeId) (i : TypeInfo) (ht : P.underlying t = some (.slice e)) (hu : P.underlying u = some .string) (hi : P.info? e = some i) (hz : i.zero = some (.int .u8 0))
    (hsize : i.size = 1) (hby : i.bytes = 1) (v : Value) (n : Nat) (xs : List Value) (hown : w.ownsRow base e 1 v n xs) (s : ByteArray) (hbytes : n + s.size ≤ 140737488355328)
    {v' : Value} {w' : World} (hr : (Builtin.append_ #[t, u] ty #[v, .string s]).run P w = .ok v' w') : v'.ownBlock = v.ownBlock ∨ v'.ownBlock = some w.heap.size := by
  have hxl : xs.length = n := by simpa using hown.1
  have hsmall : n + s.size ≤ 9223372036854775807 := by omega
  rcases hown.2 with ⟨rfl, rfl⟩ | ⟨g, cap, cur, rfl, hbg, hg, hnc, hcm, hcs, htake⟩
  · by_cases hm : s.size = 0
    · have hf := Go.Lib.run_firstCells_string (P := P) w 1 s
      rw [hm] at hf
      simp [Builtin.append_, run_underlying ht, run_underlying hu, sizeOf, typeInfo, hi, hsize, Builtin.lenOf, hm, hf] at hr
      left; rw [← hr.1]
    · have hr' := run_append_nil_string (P := P) w t u ty e i (.int .u8 0) ht hu hi hz s (by omega) (by omega) (by rw [hby]; omega)
      rw [hr'] at hr
      injection hr with h1 h2
      right; rw [← h1]; rfl
  · by_cases hroom : n + s.size ≤ cap
    · have hcs' : cur.size = cap := by simpa using hcs
      have hr' := Go.Lib.run_append_room_string (P := P) w t u ty e i ht hu hi hsize g n cap cur hg s hroom (by omega)
      rw [hr'] at hr
      injection hr with h1 h2
      left; rw [← h1]; rfl
    · have holds : ∀ j u, xs[j]? = some u → w.cell? ((⟨g, 0, none⟩ : Addr).add j) = some u := hown.cells (g := g) rfl
      have hr' := Go.Lib.run_append_grow_string (P := P) w t u ty e i (.int .u8 0) ht hu hi hz ⟨g, 0, none⟩ n cap xs (by rw [hsize]; simpa using hxl) holds s (by omega) (by omega) (by rw [hby]; exact growslice_fits (by omega) (by omega))
      rw [hr'] at hr
      injection hr with h1 h2
      right; rw [← h1]; rfl
theorem raw_str {W : World} {F : Fp} (s : ByteArray) : RdRaw cU8 W F (Go.Lib.strCells s) s.data.toList := by
  unfold Go.Lib.strCells
  generalize s.data.toList = l
  induction l with
  | nil => rfl
  | cons x l ih => exact ⟨[.int .u8 x.toNat], _, rfl, rfl, ih⟩
section
variable {P : Program} {w : World} {ops : Array Oper} {rest : List Oper} {o : Oper} {a : Act} {Q : Exit → Act → World → Prop}
theorem wpList_app_str {t u e : TypeId} {sl x : Operand} {base : Nat} {v : Value} {l : Bytes} {s : ByteArray} (hT : P.underlying t = some (.slice e) ∧ P.underlying u = some .string ∧ ∃ i, P.info? e = some i ∧ i.zero = some (.int .u8 0) ∧ i.size = 1 ∧ i.bytes = 1)
    (hO : Own cU8 e w base (fun _ => False) v l) (hb : base ≤ w.heap.size) (hl : l.length + s.size ≤ 4294967296)
    (hside : (o.guard = none ∧ o.op = .call { callee := .builtin .append, args := #[sl, x], argTypes := #[t, u] }) ∧ a.eval sl = v ∧ a.eval x = .string s)
    (h : ∀ v1 w1, Own cU8 e w1 base (fun _ => False) v1 (l ++ s.data.toList) → Mod (fun k => some k = v.ownBlock) w w1 → (v1.ownBlock = v.ownBlock ∨ ∃ b, v1.ownBlock = some b ∧ w.heap.size ≤ b) → wpList P ops Q rest (a.put o.dst v1) w1) :
    wpList P ops Q (o :: rest) a w := by
  obtain ⟨ht, hu, i, hi, hz, hs1, hby⟩ := hT
  obtain ⟨raw, h1, h2⟩ := hO
  have hml : maxLen = 9223372036854775807 := rfl
  obtain ⟨v1, w1, hr, ho1, hg, _⟩ := Go.Lib.run_append_own_string (P := P) w base t u o.type e i ht hu hi hz hs1 hby v l.length raw h1 s (by omega) (by omega) hb
  have hat := app_str_lies (P := P) w base t u o.type e i ht hu hi hz hs1 hby v l.length raw h1 s (by omega) hr
  refine wpList_plain hside.1.1 fun K hK => ?_
  unfold Oper.wp execOp
  simp only [hside.1.2, resolve, invoke, builtin, Sem.run_bind, Sem.run_pure, Result.andThen_ok, List.map_toArray, List.map_cons, List.map_nil, hside.2.1, hside.2.2, hr]
  refine hK _ _ (h v1 w1 ⟨raw ++ Go.Lib.strCells s, ?_, RdRaw.append (h2.keep fun k hk _ => hk.1.elim) (raw_str s)⟩ ⟨hg.os, hg.tape, hg.output, hg.size, fun k hk hn => hg.block k hk hn⟩ ?_)
  · rw [List.length_append]; exact ho1
  · rcases hat with e | e
    · exact .inl e
    · exact .inr ⟨_, e, Nat.le_refl _⟩
end
end Go.Proofs.YthgibbekfcenhaaGreatDoor
