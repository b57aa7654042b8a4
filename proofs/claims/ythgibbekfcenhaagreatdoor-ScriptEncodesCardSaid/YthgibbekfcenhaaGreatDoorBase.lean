/- Words for contracts: how values read as plain data in a part of memory, and which blocks a call may turn. No program in sight. -/
import Derived.WalkKit
import Derived.KernelRfl
import Derived.OwnWalk
import Derived.Outline
import Derived.WalkLawsBesides
import Derived.WalkSpells
import Derived.Lib.Hide
import Derived.Lib.ConvBytes
import Derived.Laws.BytesArg
import Derived.Maps.AppendAt
namespace Go.Proofs.YthgibbekfcenhaaGreatDoor
open Go.RowKit

theorem hidden {p : Prop} (h : p) : Hid p := h

/-- A part of memory: a set of blocks. -/
abbrev Fp := Nat → Prop

/-- Of what was there in w only blocks of S may have turned. -/
structure Mod (S : Fp) (w w' : World) : Prop where
  os : w'.os = w.os
  tape : w'.tape = w.tape
  output : w'.output = w.output
  size : w.heap.size ≤ w'.heap.size
  block : ∀ k, k < w.heap.size → ¬ S k → w'.heap[k]? = w.heap[k]?

namespace Mod
variable {S S' : Fp} {a b c w : World}
theorem refl (S : Fp) (w : World) : Mod S w w := ⟨rfl, rfl, rfl, Nat.le_refl _, fun _ _ _ => rfl⟩
theorem trans' (h : Mod S a b) (k : Mod S' b c) (hs : ∀ x, x < a.heap.size → S' x → S x) : Mod S a c :=
  ⟨k.os.trans h.os, k.tape.trans h.tape, k.output.trans h.output, Nat.le_trans h.size k.size,
    fun x hx hn => (k.block x (Nat.lt_of_lt_of_le hx h.size) (fun q => hn (hs x hx q))).trans (h.block x hx hn)⟩
theorem trans (h : Mod S a b) (k : Mod S b c) : Mod S a c := h.trans' k fun _ _ q => q
theorem mono (h : Mod S a b) (hs : ∀ x, x < a.heap.size → S x → S' x) : Mod S' a b := ⟨h.os, h.tape, h.output, h.size, fun x hx hn => h.block x hx fun q => hn (hs x hx q)⟩
theorem alloc (h : Mod S a w) (o : Obj) : Mod S a (w.alloc o) :=
  h.trans' (S' := fun _ => False) ⟨rfl, rfl, rfl, by simp, fun k hk _ => Below.heap_alloc _ _ _ hk⟩ (fun _ _ q => q.elim)
theorem drew (h : Mod S a w) : Mod S a w.drew := ⟨h.os, h.tape, h.output, h.size, h.block⟩
theorem drewN (h : Mod S a w) (n : Nat) : Mod S a (w.drewN n) := ⟨h.os, h.tape, h.output, h.size, h.block⟩
theorem setCell (h : Mod S a w) {p : Addr} (hp : S p.block ∨ a.heap.size ≤ p.block) (u : Value) : Mod S a (w.setCell p u) :=
  h.trans' (S' := fun x => x = p.block) ⟨rfl, rfl, rfl, by simp [World.setCell], fun k _ hn => Below.heap_setCell _ _ _ _ hn⟩
    (fun x hx q => by subst q; exact hp.resolve_right (by omega))
theorem set1 {k : Nat} (h : Mod (· = k) a w) (j : Nat) (v : Value) : Mod (· = k) a (w.setCell ⟨k, j, none⟩ v) := Mod.setCell (S := (· = k)) (p := ⟨k, j, none⟩) h (.inl rfl) v
theorem setS (h : Mod S a w) (k j : Nat) (v : Value) (hk : S k) : Mod S a (w.setCell ⟨k, j, none⟩ v) := Mod.setCell (p := ⟨k, j, none⟩) h (.inl hk) v
theorem grown {row : Option Nat} (h : Mod S a w) (hg : w.grownBy b row) (hr : ∀ k, row = some k → S k ∨ a.heap.size ≤ k) : Mod S a b :=
  h.trans' (S' := fun x => some x = row) ⟨hg.os, hg.tape, hg.output, hg.size, fun k hk hn => hg.block k hk hn⟩
    (fun x hx q => (hr x q.symm).resolve_right (by omega))
theorem below (h : Below w.heap.size w b) : Mod S w b := ⟨h.os, h.tape, h.output, h.size, fun k hk _ => h.block k hk⟩
theorem call (h : Mod S a w) (hb : Below w.heap.size w b) : Mod S a b := h.trans' (S' := fun _ => False) (below hb) (fun _ _ q => q.elim)
theorem toBelow (h : Mod S a b) (hs : ∀ x, x < a.heap.size → ¬ S x) : Below a.heap.size a b := ⟨h.os, h.tape, h.output, h.size, fun k hk => h.block k hk (hs k hk)⟩
theorem heap (h : Mod S a b) {k : Nat} {o : Obj} (hk : a.heap[k]? = some o) (hn : ¬ S k) : b.heap[k]? = some o :=
  (h.block k (Array.getElem?_eq_some_iff.1 hk).1 hn).trans hk
theorem heapF (h : Mod (fun _ => False) a b) {k : Nat} {o : Obj} (hk : a.heap[k]? = some o) : b.heap[k]? = some o := h.heap hk fun q => q
end Mod

theorem hmx {w : World} {b : Nat} {o : Obj} (h : w.heap[b]? = some o) (o' : Obj) : (w.alloc o').heap[b]? = some o := by
  rw [Below.heap_alloc _ _ _ (Array.getElem?_eq_some_iff.1 h).1]; exact h

/-- A way to read cells as a datum: what is read lies in blocks of F. -/
structure Cd (α : Type) where
  size : Nat
  rd : World → Fp → List Value → α → Prop
  len : ∀ {w F cs x}, rd w F cs x → cs.length = size
  one : ∀ {w F cs x}, rd w F cs x → ∀ u ∈ cs, u.oneCell' = true
  keep : ∀ {w w' F F' cs x}, rd w F cs x → (∀ b, F b → b < w.heap.size → w'.heap[b]? = w.heap[b]? ∧ F' b) → rd w' F' cs x

namespace Cd
variable {α β : Type} (c : Cd α)
variable {w w' : World} {F F' : Fp} {cs : List Value} {x : α}
theorem wider (h : c.rd w F cs x) (hf : ∀ b, F b → b < w.heap.size → F' b) : c.rd w F' cs x := c.keep h fun b hb hl => ⟨rfl, hf b hb hl⟩
theorem mod {S : Fp} (h : c.rd w F cs x) (hm : Mod S w w') (hd : ∀ b, F b → b < w.heap.size → ¬ S b) : c.rd w' F cs x :=
  c.keep h fun b hb hl => ⟨hm.block b hl (hd b hb hl), hb⟩
theorem below (h : c.rd w F cs x) (hm : Below w.heap.size w w') : c.rd w' F cs x := c.keep h fun b hb hl => ⟨hm.block b hl, hb⟩
theorem alloc (h : c.rd w F cs x) (o : Obj) : c.rd (w.alloc o) F cs x := c.keep h fun _b hb hl => ⟨Below.heap_alloc _ _ _ hl, hb⟩
theorem bound (h : c.rd w F cs x) : c.rd w (fun b => F b ∧ b < w.heap.size) cs x := c.keep h fun _ hb hl => ⟨rfl, hb, hl⟩
end Cd

/-! ### scalars -/
def cI64 : Cd Int where
  size := 1
  rd _ _ cs x := cs = [.int .i64 x] ∧ -9223372036854775808 ≤ x ∧ x ≤ 9223372036854775807
  len h := by rw [h.1]; rfl
  one h := by rw [h.1]; simp [Value.oneCell']
  keep h _ := h
def cU8 : Cd UInt8 where
  size := 1
  rd _ _ cs x := cs = [.int .u8 (x.toNat : Int)]
  len h := by rw [h]; rfl
  one h := by rw [h]; simp [Value.oneCell']
  keep h _ := h
def cBool : Cd Bool where
  size := 1
  rd _ _ cs x := cs = [.bool x]
  len h := by rw [h]; rfl
  one h := by rw [h]; simp [Value.oneCell']
  keep h _ := h
def cStr : Cd ByteArray where
  size := 1
  rd _ _ cs x := cs = [.string x] ∧ x.size ≤ maxLen
  len h := by rw [h.1]; rfl
  one h := by rw [h.1]; simp [Value.oneCell']
  keep h _ := h
def cPair {α β : Type} (a : Cd α) (b : Cd β) : Cd (α × β) where
  size := a.size + b.size
  rd w F cs x := ∃ p q, cs = p ++ q ∧ a.rd w F p x.1 ∧ b.rd w F q x.2
  len := by rintro w F cs x ⟨p, q, rfl, hp, hq⟩; rw [List.length_append, a.len hp, b.len hq]
  one := by
    rintro w F cs x ⟨p, q, rfl, hp, hq⟩ u hu
    rcases List.mem_append.1 hu with h | h
    · exact a.one hp u h
    · exact b.one hq u h
  keep := by rintro w w' F F' cs x ⟨p, q, rfl, hp, hq⟩ h; exact ⟨p, q, rfl, a.keep hp h, b.keep hq h⟩
def cIso {α β : Type} (a : Cd α) (f : β → α) : Cd β where
  size := a.size
  rd w F cs x := a.rd w F cs (f x)
  len h := a.len h
  one h := a.one h
  keep h k := a.keep h k

/-! ### slices -/
/-- The cells from 'off' on in block b read as xs. -/
def RdAt {α : Type} (c : Cd α) (w : World) (F : Fp) (b : Nat) : Nat → List α → Prop
  | _, [] => True
  | off, x :: xs => (∃ cs, c.rd w F cs x ∧ ∀ j, j < c.size → w.cell? ⟨b, off + j, none⟩ = cs[j]?) ∧ RdAt c w F b (off + c.size) xs
theorem RdAt.keep {α : Type} {c : Cd α} {w w' : World} {F F' : Fp} {b : Nat} : ∀ {off : Nat} {xs : List α}, RdAt c w F b off xs → (0 < c.size → xs ≠ [] → w'.heap[b]? = w.heap[b]?) →
    (∀ k, F k → k < w.heap.size → w'.heap[k]? = w.heap[k]? ∧ F' k) → RdAt c w' F' b off xs
  | _, [], _, _, _ => trivial
  | off, x :: xs, ⟨⟨cs, h1, h2⟩, h3⟩, hb, hk =>
    ⟨⟨cs, c.keep h1 hk, fun j hj => by rw [← h2 j hj]; exact World.cell?_of_block (hb (by omega) (by simp))⟩, RdAt.keep h3 (fun h _ => hb h (by simp)) hk⟩
theorem RdAt.get {α : Type} {c : Cd α} {w : World} {F : Fp} {b : Nat} : ∀ {off : Nat} {xs : List α}, RdAt c w F b off xs → ∀ i x, xs[i]? = some x →
    ∃ cs, c.rd w F cs x ∧ ∀ j, j < c.size → w.cell? ⟨b, off + i * c.size + j, none⟩ = cs[j]?
  | _, [], _, i, x, h => by simp at h
  | off, y :: xs, ⟨⟨cs, h1, h2⟩, h3⟩, 0, x, h => by
    obtain rfl : y = x := by simpa using h
    exact ⟨cs, h1, fun j hj => by rw [Nat.zero_mul, Nat.add_zero]; exact h2 j hj⟩
  | off, y :: xs, ⟨_, h3⟩, i + 1, x, h => by
    obtain ⟨cs, h1, h2⟩ := RdAt.get h3 i x (by simpa using h)
    exact ⟨cs, h1, fun j hj => by rw [← h2 j hj, show off + (i + 1) * c.size + j = off + c.size + i * c.size + j by rw [Nat.succ_mul]; omega]⟩
theorem RdAt.drop {α : Type} {c : Cd α} {w : World} {F : Fp} {b : Nat} : ∀ {off : Nat} {xs : List α}, RdAt c w F b off xs → ∀ n, RdAt c w F b (off + n * c.size) (xs.drop n)
  | off, xs, h, 0 => by simpa using h
  | _, [], _, n + 1 => by simp [RdAt]
  | off, x :: xs, ⟨_, h⟩, n + 1 => by
    have := RdAt.drop h n
    rwa [Nat.add_assoc, Nat.add_comm c.size, ← Nat.succ_mul] at this
theorem RdAt.take {α : Type} {c : Cd α} {w : World} {F : Fp} {b : Nat} : ∀ {off : Nat} {xs : List α}, RdAt c w F b off xs → ∀ n, RdAt c w F b off (xs.take n)
  | _, _, _, 0 => by simp [RdAt]
  | _, [], _, n + 1 => by simp [RdAt]
  | _, x :: xs, ⟨h1, h⟩, n + 1 => ⟨h1, RdAt.take h n⟩

/-- A slice: nil and empty ones alike. -/
def cSl {α : Type} (c : Cd α) : Cd (List α) where
  size := 1
  rd w F cs xs := ∃ A cap, cs = [.slice A xs.length cap] ∧ xs.length ≤ cap ∧ cap ≤ maxLen ∧ (xs ≠ [] → ∃ b off, A = some ⟨b, off, none⟩ ∧ F b ∧ b < w.heap.size ∧ RdAt c w F b off xs)
  len := by rintro w F cs x ⟨A, cap, rfl, _⟩; rfl
  one := by rintro w F cs x ⟨A, cap, rfl, _⟩; simp [Value.oneCell']
  keep := by
    rintro w w' F F' cs xs ⟨A, cap, rfl, h1, h2, h3⟩ hk
    refine ⟨A, cap, rfl, h1, h2, fun hx => ?_⟩
    obtain ⟨b, off, rfl, hb, hl, hr⟩ := h3 hx
    have hh := hk b hb hl
    refine ⟨b, off, rfl, hh.2, ?_, hr.keep (fun _ _ => hh.1) hk⟩
    have : b < w.heap.size := hl
    by_cases hq : b < w'.heap.size
    · exact hq
    · have e1 : w'.heap[b]? = none := Array.getElem?_eq_none (by omega)
      have e2 := Array.getElem?_eq_getElem this
      rw [hh.1, e2] at e1
      cases e1

section
variable {P : Program} {α : Type} {c : Cd α} {w : World} {F : Fp} {A : Option Addr} {cap : Nat} {xs : List α}
theorem cSl_len (h : (cSl c).rd w F [.slice A xs.length cap] xs) : xs.length ≤ cap ∧ cap ≤ maxLen := by
  obtain ⟨A', cap', he, h1, h2, _⟩ := h
  obtain ⟨rfl, rfl⟩ : A = A' ∧ cap = cap' := by simpa using he
  exact ⟨h1, h2⟩
theorem cSl_at (h : (cSl c).rd w F [.slice A xs.length cap] xs) (hne : xs ≠ []) : ∃ b off, A = some ⟨b, off, none⟩ ∧ F b ∧ b < w.heap.size ∧ RdAt c w F b off xs := by
  obtain ⟨A', cap', he, h1, h2, h3⟩ := h
  obtain ⟨rfl, rfl⟩ : A = A' ∧ cap = cap' := by simpa using he
  exact h3 hne
/-- 'string(bs[:n])'. -/
theorem conv_bytes {cap' : Nat} {xs : List UInt8} (h : (cSl cU8).rd w F [.slice A xs.length cap] xs) {src e : TypeId} (hs : P.underlying src = some (.slice e)) (he : P.underlying e = some (.int .u8)) {dst : TypeId} (hd : P.underlying dst = some .string)
    {n : Nat} (hn : n ≤ xs.length) : (convert src dst (.slice A n cap')).run P w = .ok (.string ⟨(xs.take n).toArray⟩) w := by
  by_cases hne : xs = []
  · subst hne
    obtain rfl : n = 0 := by simpa using hn
    cases A with
    | none => exact run_convert_bytes_nil w src e hs he 0 cap' dst hd
    | some a => 
      obtain ⟨b, off, sp⟩ := a
      rw [run_convert_bytes_string w src dst e _ 0 cap' hs he hd]
      simp [Conv.bytesToString, loadCells, loadCellsFrom]
      rfl
  · obtain ⟨b, off, rfl, _, _, hr⟩ := cSl_at h hne
    have hh := run_convert_bytes_arg (P := P) w src e hs he b off n cap' ((xs.take n).map fun x => (x.toNat : Int)) (by simp; omega) (fun i hi => by
      have hi' : i < xs.length := by omega
      obtain ⟨cs, rfl, hc⟩ := hr.get i xs[i] (List.getElem?_eq_getElem hi')
      have := hc 0 (by decide)
      simp only [cU8, Nat.mul_one, Nat.add_zero, List.getElem?_cons_zero] at this
      rw [this]
      simp [List.getD_eq_getElem?_getD, hi, List.getElem?_eq_getElem hi']) dst hd
    rw [hh]
    congr 3
    simp [strOfNums, List.map_map, Function.comp_def]
/-- 'xs[n:]'. -/
theorem cut_from (h : (cSl c).rd w F [.slice A xs.length cap] xs) {t e : TypeId} (ht : P.underlying t = some (.slice e)) (hi : (P.info? e).map (·.size) = some c.size) {n : Nat} (hn : n ≤ xs.length) :
    ∃ A', (Instr.slice t (.slice A xs.length cap) (some (.int .i64 (n : Int))) none none).run P w = .ok (.slice A' (xs.length - n) (cap - n)) w ∧ (cSl c).rd w F [.slice A' (xs.drop n).length (cap - n)] (xs.drop n) := by
  obtain ⟨i, hi1, hi2⟩ := Option.map_eq_some_iff.1 hi
  have hl := cSl_len h
  refine ⟨if cap = n then A else A.map (·.add (n * c.size)), ?_, ?_⟩
  · have h1 : (0 : Int) ≤ n ∧ (n : Int) ≤ xs.length := by omega
    simp [Instr.slice, run_underlying ht, Instr.sliceBounds, Instr.sliceBound, asIntOf, h1, sizeOf, typeInfo, hi1, hi2, go_sem]
    omega
  · refine ⟨_, _, rfl, by simp; omega, by omega, fun hne => ?_⟩
    have hlt : n < xs.length := by
      rcases Nat.lt_or_ge n xs.length with h | h
      · exact h
      · exact absurd (List.drop_eq_nil_of_le h) hne
    obtain ⟨b, off, rfl, hF, hb, hr⟩ := cSl_at h (by rintro rfl; simp at hlt)
    rw [if_neg (by omega)]
    refine ⟨b, off + n * c.size, ?_, hF, hb, hr.drop n⟩
    simp only [Option.map_some, Option.some.injEq]
    unfold Addr.add
    split
    · rename_i h0
      simp
    · rfl
/-- 'xs[m:m+n]'. -/
theorem cut_mid (h : (cSl c).rd w F [.slice A xs.length cap] xs) {t e : TypeId} (ht : P.underlying t = some (.slice e)) (hi : (P.info? e).map (·.size) = some c.size) {m n : Nat} (hn : m + n ≤ xs.length) :
    ∃ A', (Instr.slice t (.slice A xs.length cap) (some (.int .i64 (m : Int))) (some (.int .i64 ((m : Int) + (n : Int)))) none).run P w = .ok (.slice A' n (cap - m)) w ∧ (cSl c).rd w F [.slice A' ((xs.drop m).take n).length (cap - m)] ((xs.drop m).take n) := by
  obtain ⟨i, hi1, hi2⟩ := Option.map_eq_some_iff.1 hi
  have hl := cSl_len h
  refine ⟨if cap = m then A else A.map (·.add (m * c.size)), ?_, ?_⟩
  · have h1 : (0 : Int) ≤ (m : Int) + n ∧ (m : Int) + n ≤ cap := by omega
    have h2 : (0 : Int) ≤ m ∧ (m : Int) ≤ ((((m : Int) + n).toNat : Nat) : Int) := by omega
    have h3 : ((m : Int) + n).toNat - m = n := by omega
    simp only [Instr.slice, run_underlying ht, Instr.sliceBounds, Instr.sliceBound, asIntOf, Sem.run_bind, Sem.run_pure, Result.andThen_ok, if_pos h1, if_pos h2, sizeOf, typeInfo, go_sem, Int.toNat_natCast, h3]
    simp [hi1, hi2, go_sem]
  · refine ⟨_, _, rfl, by simp; omega, by omega, fun hne => ?_⟩
    have hlt : m < xs.length := by
      rcases Nat.lt_or_ge m xs.length with h | h
      · exact h
      · rw [List.drop_eq_nil_of_le h] at hne
        exact absurd (by simp) hne
    obtain ⟨b, off, rfl, hF, hb, hr⟩ := cSl_at h (by rintro rfl; simp at hlt)
    rw [if_neg (by omega)]
    refine ⟨b, off + m * c.size, ?_, hF, hb, (hr.drop m).take n⟩
    simp only [Option.map_some, Option.some.injEq]
    unfold Addr.add
    split
    · rename_i h0
      simp
    · rfl
/-- 'xs[:n]'. -/
theorem cut_to (h : (cSl c).rd w F [.slice A xs.length cap] xs) {n : Nat} (hn : n ≤ xs.length) : (cSl c).rd w F [.slice A (xs.take n).length cap] (xs.take n) := by
  have hl := cSl_len h
  refine ⟨_, _, rfl, by simp; omega, hl.2, fun hne => ?_⟩
  obtain ⟨b, off, rfl, hF, hb, hr⟩ := cSl_at h (by rintro rfl; simp at hne)
  exact ⟨b, off, rfl, hF, hb, hr.take n⟩
end

/-! ### rows of the call's own -/
/-- Cells, one datum behind the other. -/
def RdRaw {α : Type} (c : Cd α) (w : World) (F : Fp) : List Value → List α → Prop
  | raw, [] => raw = []
  | raw, x :: xs => ∃ cs rest, raw = cs ++ rest ∧ c.rd w F cs x ∧ RdRaw c w F rest xs
theorem RdRaw.keep {α : Type} {c : Cd α} {w w' : World} {F F' : Fp} : ∀ {raw : List Value} {xs : List α}, RdRaw c w F raw xs → (∀ k, F k → k < w.heap.size → w'.heap[k]? = w.heap[k]? ∧ F' k) → RdRaw c w' F' raw xs
  | _, [], h, _ => h
  | _, _ :: _, ⟨cs, rest, h1, h2, h3⟩, hk => ⟨cs, rest, h1, c.keep h2 hk, RdRaw.keep h3 hk⟩
theorem RdRaw.length {α : Type} {c : Cd α} {w : World} {F : Fp} : ∀ {raw : List Value} {xs : List α}, RdRaw c w F raw xs → raw.length = xs.length * c.size
  | _, [], h => by simp [show _ = [] from h]
  | _, x :: xs, ⟨cs, rest, h1, h2, h3⟩ => by rw [h1, List.length_append, c.len h2, RdRaw.length h3, List.length_cons, Nat.succ_mul, Nat.add_comm]
theorem RdRaw.snoc {α : Type} {c : Cd α} {w : World} {F : Fp} {cs : List Value} {y : α} : ∀ {raw : List Value} {xs : List α}, RdRaw c w F raw xs → c.rd w F cs y → RdRaw c w F (raw ++ cs) (xs ++ [y])
  | _, [], h, hy => ⟨cs, [], by simp [show _ = [] from h], hy, rfl⟩
  | _, _ :: _, ⟨c1, rest, h1, h2, h3⟩, hy => ⟨c1, rest ++ cs, by rw [h1, List.append_assoc], h2, RdRaw.snoc h3 hy⟩
theorem RdRaw.append {α : Type} {c : Cd α} {w : World} {F : Fp} {cs : List Value} {ys : List α} : ∀ {raw : List Value} {xs : List α}, RdRaw c w F raw xs → RdRaw c w F cs ys → RdRaw c w F (raw ++ cs) (xs ++ ys)
  | _, [], h, hy => by simpa [show _ = [] from h] using hy
  | _, _ :: _, ⟨c1, rest, h1, h2, h3⟩, hy => ⟨c1, rest ++ cs, by rw [h1, List.append_assoc], h2, RdRaw.append h3 hy⟩
theorem RdRaw.at_ {α : Type} {c : Cd α} {w : World} {F : Fp} {b : Nat} : ∀ {raw : List Value} {xs : List α} {off : Nat}, RdRaw c w F raw xs → (∀ j, j < raw.length → w.cell? ⟨b, off + j, none⟩ = raw[j]?) → RdAt c w F b off xs
  | _, [], _, _, _ => trivial
  | raw, x :: xs, off, ⟨cs, rest, h1, h2, h3⟩, hc => by
    have hl := c.len h2
    refine ⟨⟨cs, h2, fun j hj => ?_⟩, RdRaw.at_ h3 fun j hj => ?_⟩
    · rw [hc j (by rw [h1, List.length_append]; omega), h1, List.getElem?_append_left (by omega)]
    · have := hc (c.size + j) (by rw [h1, List.length_append]; omega)
      rw [h1, List.getElem?_append_right (by omega), show c.size + j - cs.length = j by omega] at this
      rw [← this, Nat.add_assoc]
theorem RdAt.raw {α : Type} {c : Cd α} {w : World} {F : Fp} {b : Nat} : ∀ {xs : List α} {off : Nat}, RdAt c w F b off xs → ∃ raw, RdRaw c w F raw xs ∧ ∀ j, j < raw.length → w.cell? ⟨b, off + j, none⟩ = raw[j]?
  | [], _, _ => ⟨[], rfl, fun j hj => by simp at hj⟩
  | x :: xs, off, ⟨⟨cs, h1, h2⟩, h3⟩ => by
    obtain ⟨raw, hr, hc⟩ := RdAt.raw h3
    have hl := c.len h1
    refine ⟨cs ++ raw, ⟨cs, raw, rfl, h1, hr⟩, fun j hj => ?_⟩
    rcases Nat.lt_or_ge j c.size with h | h
    · rw [h2 j h, List.getElem?_append_left (by omega)]
    · have := hc (j - c.size) (by rw [List.length_append] at hj; omega)
      rw [show off + c.size + (j - c.size) = off + j by omega] at this
      rw [this, List.getElem?_append_right (by omega), hl]
theorem RdRaw.one {α : Type} {c : Cd α} {w : World} {F : Fp} : ∀ {raw : List Value} {xs : List α}, RdRaw c w F raw xs → ∀ u ∈ raw, u.oneCell' = true
  | _, [], h, u, hu => by simp [show _ = [] from h] at hu
  | _, x :: xs, ⟨cs, rest, h1, h2, h3⟩, u, hu => by
    rw [h1] at hu
    rcases List.mem_append.1 hu with h | h
    · exact c.one h2 u h
    · exact RdRaw.one h3 u h

/-- A row of the call's own, from block 'base' on, that reads as xs; its elements lead to blocks of F other than its own. -/
def Own {α : Type} (c : Cd α) (e : TypeId) (w : World) (base : Nat) (F : Fp) (v : Value) (xs : List α) : Prop :=
  ∃ raw, w.ownsRow base e c.size v xs.length raw ∧ RdRaw c w (fun b => F b ∧ some b ≠ v.ownBlock) raw xs
namespace Own
variable {α : Type} {c : Cd α} {e : TypeId} {w w' : World} {base : Nat} {F F' : Fp} {v : Value} {xs : List α}
theorem nil (c : Cd α) (e : TypeId) (w : World) (base : Nat) (F : Fp) : Own c e w base F (.slice none 0 0) [] := ⟨[], World.ownsRow_nil _ _ _ _, rfl⟩
theorem empty (c : Cd α) (e : TypeId) (w : World) (base : Nat) (F : Fp) (hb : base ≤ w.heap.size) : Own c e (w.alloc (.cells #[] e)) base F (.slice (some ⟨w.heap.size, 0, none⟩) 0 0) [] :=
  ⟨[], ⟨by simp, .inr ⟨w.heap.size, 0, #[], rfl, hb, heap_alloc_new _ _, Nat.le_refl _, Nat.zero_le _, by simp, by simp⟩⟩, rfl⟩
theorem blk (h : Own c e w base F v xs) : ∀ k, v.ownBlock = some k → base ≤ k ∧ k < w.heap.size := by obtain ⟨raw, h1, _⟩ := h; exact h1.lt
theorem wider (h : Own c e w base F v xs) (hf : ∀ b, F b → b < w.heap.size → F' b) : Own c e w base F' v xs := by
  obtain ⟨raw, h1, h2⟩ := h
  exact ⟨raw, h1, h2.keep fun k hk hl => ⟨rfl, hf k hk.1 hl, hk.2⟩⟩
theorem mod {S : Fp} (h : Own c e w base F v xs) (hm : Mod S w w') (ho : ∀ k, v.ownBlock = some k → ¬ S k) (hF : ∀ b, F b → b < w.heap.size → ¬ S b) : Own c e w' base F v xs := by
  obtain ⟨raw, h1, h2⟩ := h
  refine ⟨raw, ⟨h1.1, ?_⟩, h2.keep fun k hk hl => ⟨hm.block k hl (hF k hk.1 hl), hk⟩⟩
  rcases h1.2 with h | ⟨g, cap, cur, rfl, hb, hg, rest⟩
  · exact .inl h
  · exact .inr ⟨g, cap, cur, rfl, hb, hm.heap hg (ho g rfl), rest⟩
theorem bound (h : Own c e w base F v xs) : Own c e w base (fun b => F b ∧ b < w.heap.size) v xs := h.wider fun _b hb hl => ⟨hb, hl⟩
theorem shape (h : Own c e w base F v xs) : ∃ A cap, v = .slice A xs.length cap ∧ xs.length ≤ cap ∧ cap ≤ maxLen := by
  obtain ⟨raw, h1, _⟩ := h
  rcases h1.2 with ⟨rfl, hn⟩ | ⟨g, cap, cur, rfl, hb, hg, h4, h5, _⟩
  · exact ⟨none, 0, by rw [hn], by omega, Nat.zero_le _⟩
  · exact ⟨_, cap, rfl, h4, h5⟩
theorem shape' (h : Own c e w base F v xs) : ∃ A n cap, v = .slice A n cap := by obtain ⟨A, cap, h, _⟩ := h.shape; exact ⟨A, _, cap, h⟩
/-- What is owned can be read. -/
theorem read (h : Own c e w base F v xs) (hF : ∀ b, F b → F' b) (hb : ∀ b, base ≤ b → F' b) : (cSl c).rd w F' [v] xs := by
  obtain ⟨raw, h1, h2⟩ := h
  have hl := h1.1
  rcases h1.2 with ⟨rfl, hn⟩ | ⟨g, cap, cur, rfl, hbg, hg, h4, h5, h6, h7⟩
  · refine ⟨none, 0, by rw [hn], by omega, Nat.zero_le _, fun hne => absurd (List.eq_nil_of_length_eq_zero hn) hne⟩
  · refine ⟨_, cap, rfl, h4, h5, fun hne => ⟨g, 0, rfl, hb g hbg, (Array.getElem?_eq_some_iff.1 hg).1, ?_⟩⟩
    refine (h2.keep fun k hk hl => ⟨rfl, hF k hk.1⟩).at_ fun j hj => ?_
    have := h1.cells (g := g) rfl j raw[j] (List.getElem?_eq_getElem hj)
    rw [List.getElem?_eq_getElem hj, ← this]
    congr 1
    unfold Addr.add
    split
    · rename_i h0; simp
    · rfl
end Own

theorem own_alloc {α : Type} {c : Cd α} {e : TypeId} {W : World} {base : Nat} {F : Fp} {v : Value} {xs : List α} (h : Own c e W base F v xs) (o : Obj) : Own c e (W.alloc o) base F v xs :=
  h.mod ((Mod.refl (fun _ => False) _).alloc _) (fun _ _ q => q) (fun _ _ _ q => q)

/-! ### element types; what is built of one element; append -/
/-- t is a slice type over e, whose values take 'size' cells. -/
structure SlT (P : Program) (t e : TypeId) (size : Nat) : Prop where
  under : P.underlying t = some (.slice e)
  info : ∃ i z, P.info? e = some i ∧ i.zero = some z ∧ i.size = size ∧ z.cells.size = size ∧ i.bytes ≤ 4096
  pos : 0 < size
  small : size ≤ 4096
def slTB (P : Program) (t e : TypeId) (size : Nat) : Bool :=
  (match P.underlying t with | some (.slice e') => e' == e | _ => false) &&
  (match P.info? e with | some i => (match i.zero with | some z => i.size == size && (z.cells.size == size && decide (i.bytes ≤ 4096)) | none => false) | none => false) &&
  (decide (0 < size) && decide (size ≤ 4096))
theorem slT_of {P : Program} {t e : TypeId} {size : Nat} (h : slTB P t e size = true) : SlT P t e size := by
  unfold slTB at h
  simp only [Bool.and_eq_true, decide_eq_true_eq] at h
  obtain ⟨⟨h1, h2⟩, h3, h4⟩ := h
  refine ⟨?_, ?_, h3, h4⟩
  · split at h1
    · rename_i q; rw [q]; simp at h1; rw [h1]
    · cases h1
  · split at h2
    · rename_i i q
      split at h2
      · rename_i z qz
        simp only [Bool.and_eq_true, beq_iff_eq, decide_eq_true_eq] at h2
        exact ⟨i, z, q, qz, h2.1, h2.2.1, h2.2.2⟩
      · cases h2
    · cases h2
theorem set_all (cs : List Value) : ∀ (k : Nat) (arr : Array Value), arr.size = k + cs.length → (cs.zipIdx k).foldl (fun a (p : Value × Nat) => a.setIfInBounds (0 + p.2) p.1) arr = (arr.toList.take k ++ cs).toArray := by
  induction cs with
  | nil => intro k arr h; simp at h; simp [List.take_of_length_le, h]
  | cons x cs ih =>
    intro k arr h
    simp only [List.zipIdx_cons, List.foldl_cons, Nat.zero_add] at ih ⊢
    rw [ih (k + 1) _ (by simp at h ⊢; omega)]
    congr 1
    rw [List.length_cons] at h
    apply List.ext_getElem?
    intro i
    simp only [Array.toList_setIfInBounds, List.getElem?_append, List.length_take, List.length_set, Array.length_toList, List.getElem?_take, List.getElem?_set]
    rcases Nat.lt_trichotomy i k with hi | hi | hi
    · rw [if_pos (by omega), if_pos (by omega), if_neg (by omega), if_pos (by omega), if_pos hi]
    · subst hi
      rw [if_pos (by omega), if_pos (by omega), if_pos rfl, if_pos (by omega), if_neg (by omega), show i - min i arr.size = 0 by omega]
      rfl
    · rw [if_neg (by omega), if_neg (by omega), show i - min k arr.size = (i - min (k + 1) arr.size) + 1 by omega, List.getElem?_cons_succ]
section
variable {P : Program}
/-- '[]T{v}'. -/
theorem run_buildSlice1 {t e : TypeId} {size : Nat} (h : SlT P t e size) (v : Value) (hv : v.cells.size = size) (w : World) :
    (Instr.buildSlice t 1 #[(0, v)]).run P w = .ok (.slice (some ⟨w.heap.size, 0, none⟩) 1 1) (w.alloc (.cells v.cells e)) := by
  obtain ⟨i, z, hi, hz, hs, hzs, _⟩ := h.info
  have hp := h.pos
  have hsm := h.small
  have hne : size ≠ 0 := by omega
  have hfill : Instr.fill (fun i => some (i * size, size)) ((Array.range (1 * size)).map (z.cells[· % z.cells.size]!)) [(0, v)] = some v.cells := by
    have := set_all v.cells.toList 0 ((Array.range (1 * size)).map (z.cells[· % z.cells.size]!)) (by simp [hv])
    simp only [List.take_zero, List.nil_append] at this
    simp only [Instr.fill, hv, Nat.zero_mul, Nat.zero_add, ne_eq, not_true_eq_false, decide_false, Bool.false_or]
    rw [if_neg (by simp)]
    simp only [Nat.zero_add] at this
    rw [← Array.foldl_toList, Array.toList_zipIdx, this]
  simp only [Nat.one_mul] at hfill
  simp [Instr.buildSlice, run_underlying h.under, sizeOf, typeInfo, hi, hs, zeroValue, hz, hne, newRow, newObj]
  rw [if_neg (by omega), hfill]
  rfl
end
section
variable {P : Program} {α : Type} {c : Cd α} {w : World} {ops : Array Oper} {rest : List Oper} {o : Oper} {a : Act} {Q : Exit → Act → World → Prop}
theorem rdAt_new {F : Fp} {cs : List Value} {x : α} (h : c.rd w F cs x) (e : TypeId) : RdAt c (w.alloc (.cells cs.toArray e)) F w.heap.size 0 [x] :=
  ⟨⟨cs, c.alloc h _, fun j _ => by simp only [World.cell?, heap_alloc_new, Option.isSome_none, Bool.false_eq_true, if_false, Nat.zero_add, List.getElem?_toArray]⟩, trivial⟩
/-- 'append(s, ys...)', s a row of the call's own. -/
theorem wp_app {K : Act → World → Prop} {t e : TypeId} (hT : SlT P t e c.size) (s x : Operand) (ho : o.op = .call { callee := .builtin .append, args := #[s, x], argTypes := #[t, t] })
    {base : Nat} {F F1 : Fp} {v : Value} {xs ys : List α} (hs : a.eval s = v) (hO : Own c e w base F v xs)
    {b off cap : Nat} (hx : a.eval x = .slice (some ⟨b, off, none⟩) ys.length cap) (hy : RdAt c w F1 b off ys) (hF1 : ∀ k, F1 k → k < w.heap.size → F k ∧ some k ≠ v.ownBlock)
    (hb : base ≤ w.heap.size) (hl : xs.length + ys.length ≤ 4294967296)
    (h : ∀ v1 w1, Own c e w1 base F v1 (xs ++ ys) → Mod (fun k => some k = v.ownBlock) w w1 → (v1.ownBlock = v.ownBlock ∨ ∃ b, v1.ownBlock = some b ∧ w.heap.size ≤ b) → K (a.put o.dst v1) w1) :
    o.wp P a w K Q := by
  obtain ⟨i, z, hi, hz, hsz, hzs, hby⟩ := hT.info
  obtain ⟨raw, h1, h2⟩ := hO
  obtain ⟨ry, hry, hcell⟩ := hy.raw
  have hly := hry.length
  have hadd : ∀ j, (⟨b, off, none⟩ : Addr).add j = ⟨b, off + j, none⟩ := fun j => by
    unfold Addr.add
    split
    · rename_i h0; simp
    · rfl
  obtain ⟨v1, w1, hr, ho1, hg, _, hat⟩ := run_append_own_at (P := P) w base t o.type e i z c.size i.bytes hT.under hi hz hsz rfl hzs hT.pos v xs.length raw h1 ⟨b, off, none⟩ ys.length cap ry hly
    (fun j u hu => by rw [hadd, hcell j (List.getElem?_eq_some_iff.1 hu).1, hu]) hry.one (by simp only [maxLen]; omega) (Nat.le_trans (Nat.mul_le_mul hl hby) (by decide)) hb
  unfold Oper.wp execOp
  simp only [ho, resolve, invoke, builtin, Sem.run_bind, Sem.run_pure, Result.andThen_ok, List.map_toArray, List.map_cons, List.map_nil, hs, hx, hr]
  have hm : Mod (fun k => some k = v.ownBlock) w w1 := ⟨hg.os, hg.tape, hg.output, hg.size, fun k hk hn => hg.block k hk hn⟩
  have hnew : ∀ k, k < w.heap.size → some k ≠ v.ownBlock → some k ≠ v1.ownBlock := by
    intro k hk hn
    rcases hat with e | e
    · rw [e]; exact hn
    · rw [e]; simp only [ne_eq, Option.some.injEq]; omega
  refine h v1 w1 ⟨raw ++ ry, by rw [List.length_append]; exact ho1, RdRaw.append (h2.keep fun k hk hl => ⟨hm.block k hl hk.2, hk.1, hnew k hl hk.2⟩) (hry.keep fun k hk hl => ?_)⟩ hm ?_
  · have := hF1 k hk hl
    exact ⟨hm.block k hl this.2, this.1, hnew k hl this.2⟩
  · rcases hat with e | e
    · exact .inl e
    · exact .inr ⟨_, e, Nat.le_refl _⟩
/-- The same in a list of operations. -/
theorem wpList_app {t e : TypeId} (hT : SlT P t e c.size) (hgd : o.guard = none) (s x : Operand) (ho : o.op = .call { callee := .builtin .append, args := #[s, x], argTypes := #[t, t] })
    {base : Nat} {F F1 : Fp} {v : Value} {xs ys : List α} (hs : a.eval s = v) (hO : Own c e w base F v xs)
    {b off cap : Nat} (hx : a.eval x = .slice (some ⟨b, off, none⟩) ys.length cap) (hy : RdAt c w F1 b off ys) (hF1 : ∀ k, F1 k → k < w.heap.size → F k ∧ some k ≠ v.ownBlock)
    (hb : base ≤ w.heap.size) (hl : xs.length + ys.length ≤ 4294967296)
    (h : ∀ v1 w1, Own c e w1 base F v1 (xs ++ ys) → Mod (fun k => some k = v.ownBlock) w w1 → (v1.ownBlock = v.ownBlock ∨ ∃ b, v1.ownBlock = some b ∧ w.heap.size ≤ b) → wpList P ops Q rest (a.put o.dst v1) w1) :
    wpList P ops Q (o :: rest) a w :=
  wpList_plain hgd fun _ hK => wp_app hT s x ho hs hO hx hy hF1 hb hl fun v1 w1 h1 h2 h3 => hK _ _ (h v1 w1 h1 h2 h3)
/-- .. and at a step of a region that draws its order. -/
theorem step_app {K : Act → World → Prop} {E : Prop} {t e : TypeId} {s x : Operand} {base : Nat} {F F1 : Fp} {v : Value} {xs ys : List α} {b off cap : Nat} (hT : SlT P t e c.size)
    (hO : Own c e w base F v xs) (hy : RdAt c w F1 b off ys) (hF1 : ∀ k, F1 k → k < w.heap.size → F k ∧ some k ≠ v.ownBlock) (hb : base ≤ w.heap.size) (hl : xs.length + ys.length ≤ 4294967296)
    (hside : (o.guard = none ∧ o.op = .call { callee := .builtin .append, args := #[s, x], argTypes := #[t, t] }) ∧ a.eval s = v ∧ a.eval x = .slice (some ⟨b, off, none⟩) ys.length cap)
    (h : ∀ v1 w1, Own c e w1 base F v1 (xs ++ ys) → Mod (fun k => some k = v.ownBlock) w w1 → (v1.ownBlock = v.ownBlock ∨ ∃ b, v1.ownBlock = some b ∧ w.heap.size ≤ b) → K (a.put o.dst v1) w1) :
    if Region.wanted o (yielded ops a.tmps) = true then Oper.wp P o a w K Q else E := by
  have hw : Region.wanted o (yielded ops a.tmps) = true := by simp [Region.wanted, hside.1.1]
  rw [if_pos hw]
  exact wp_app hT s x hside.1.2 hside.2.1 hO hside.2.2 hy hF1 hb hl h
/-- 'append(s, x)': the building of '[]T{x}' and the append. -/
theorem wpList_app1 {o2 : Oper} {t e : TypeId} (hT : SlT P t e c.size) (hgd : o.guard = none) (hgd2 : o2.guard = none) (d : Tmp) (s x : Operand) (ho : o.op = .buildSlice t 1 #[(0, x)]) (hd : o.dst = some d)
    (ho2 : o2.op = .call { callee := .builtin .append, args := #[s, .tmp d], argTypes := #[t, t] })
    {base : Nat} {F F1 : Fp} {v y : Value} {xs : List α} {z : α} (hx : a.eval x = y) (hy : c.rd w F1 y.cells.toList z) (hdn0 : decide (d < a.tmps.size) = true)
    (hs : (a.put (some d) (.slice (some ⟨w.heap.size, 0, none⟩) 1 1)).eval s = v) (hO : Own c e w base F v xs)
    (hF1 : ∀ k, F1 k → k < w.heap.size → F k ∧ some k ≠ v.ownBlock)
    (hb : base ≤ w.heap.size) (hl : xs.length + 1 ≤ 4294967296)
    (h : ∀ v1 w1, Own c e w1 base F v1 (xs ++ [z]) → Mod (fun k => some k = v.ownBlock) w w1 → (v1.ownBlock = v.ownBlock ∨ ∃ b, v1.ownBlock = some b ∧ w.heap.size ≤ b) →
      wpList P ops Q rest ((a.put (some d) (.slice (some ⟨w.heap.size, 0, none⟩) 1 1)).put o2.dst v1) w1) :
    wpList P ops Q (o :: o2 :: rest) a w := by
  have hdn := of_decide_eq_true hdn0
  have hsize : y.cells.size = c.size := by have := c.len hy; simpa using this
  refine wpList_plain hgd fun K hK => ?_
  have hr := run_buildSlice1 hT y hsize w
  unfold Oper.wp execOp
  simp only [ho, Sem.run_bind, List.map_toArray, List.map_cons, List.map_nil, hx, hr, Result.andThen_ok, Sem.run_pure, Oper.upon_value, hd]
  refine hK _ _ ?_
  have hc1 : ∀ j, j < c.size → (w.alloc (.cells y.cells e)).cell? ⟨w.heap.size, 0 + j, none⟩ = y.cells.toList[j]? := fun j hj => by
    simp only [World.cell?, heap_alloc_new, Option.isSome_none, Bool.false_eq_true, if_false, Nat.zero_add, Array.getElem?_toList]
  refine wpList_app (ys := [z]) (b := w.heap.size) (off := 0) (cap := 1) (F1 := fun k => F1 k ∧ k < w.heap.size) hT hgd2 s (.tmp d) ho2 hs (hO.mod ((Mod.refl (fun _ => False) w).alloc _) (fun _ _ q => q) (fun _ _ _ q => q)) ?_ ⟨⟨_, c.alloc (c.bound hy) _, hc1⟩, trivial⟩ (fun k hk _ => hF1 k hk.1 hk.2) (by simp; omega) hl ?_
  · simp [Act.put, Act.eval, hdn, Array.getD_eq_getD_getElem?]
  · intro v1 w1 h1 h2 h3
    refine h v1 w1 h1 ?_ ?_
    · exact ((Mod.refl _ w).alloc _).trans h2
    · rcases h3 with h3 | ⟨b, e1, e2⟩
      · exact .inl h3
      · exact .inr ⟨b, e1, by simp at e2; omega⟩
/-- A new variable, at a step of a region that draws its order: where it lies is left open. -/
theorem step_alloc {K : Act → World → Prop} {E : Prop} {T : TypeId} {z : Value} (hz : (P.info? T).map (·.zero) = some (some z)) (hside : o.guard = none ∧ o.op = .alloc T)
    (h : ∀ (m : Nat) (w1 : World), Mod (fun _ => False) w w1 → w1.heap[m]? = some (.cells z.cells T (0, 0)) → w.heap.size ≤ m → K (a.put o.dst (.pointer (some ⟨m, 0, none⟩))) w1) :
    if Region.wanted o (yielded ops a.tmps) = true then Oper.wp P o a w K Q else E := by
  have hw : Region.wanted o (yielded ops a.tmps) = true := by simp [Region.wanted, hside.1]
  rw [if_pos hw]
  obtain ⟨i, hi1, hi2⟩ := Option.map_eq_some_iff.1 hz
  have hr : (Instr.alloc T true (.tuple #[])).run P w = .ok (.pointer (some ⟨w.heap.size, 0, none⟩)) (w.alloc (.cells z.cells T)) := by
    simp [Instr.alloc, zeroValue, typeInfo, hi1, hi2, newVar, newRow, newObj]
    rfl
  unfold Oper.wp execOp
  simp only [hside.2, Sem.run_bind, hr, Result.andThen_ok, Sem.run_pure, Oper.upon_value]
  exact h _ _ ((Mod.refl _ _).alloc _) (heap_alloc_new _ _) (Nat.le_refl _)
/-- The same, for '(with_reducible refine ..)': what goes by sight stands together. -/
theorem wpList_app1s {o2 : Oper} {t e : TypeId} {d : Tmp} {s x : Operand} {base : Nat} {F F1 : Fp} {v y : Value} {xs : List α} {z : α} (hT : SlT P t e c.size)
    (hy : c.rd w F1 y.cells.toList z) (hO : Own c e w base F v xs) (hF1 : ∀ k, F1 k → k < w.heap.size → F k ∧ some k ≠ v.ownBlock) (hb : base ≤ w.heap.size) (hl : xs.length + 1 ≤ 4294967296)
    (hside : (o.guard = none ∧ o2.guard = none ∧ o.op = .buildSlice t 1 #[(0, x)] ∧ o.dst = some d ∧ o2.op = .call { callee := .builtin .append, args := #[s, .tmp d], argTypes := #[t, t] }) ∧
      a.eval x = y ∧ decide (d < a.tmps.size) = true ∧ (a.put (some d) (.slice (some ⟨w.heap.size, 0, none⟩) 1 1)).eval s = v)
    (h : ∀ v1 w1, Own c e w1 base F v1 (xs ++ [z]) → Mod (fun k => some k = v.ownBlock) w w1 → (v1.ownBlock = v.ownBlock ∨ ∃ b, v1.ownBlock = some b ∧ w.heap.size ≤ b) →
      wpList P ops Q rest ((a.put (some d) (.slice (some ⟨w.heap.size, 0, none⟩) 1 1)).put o2.dst v1) w1) :
    wpList P ops Q (o :: o2 :: rest) a w :=
  wpList_app1 hT hside.1.1 hside.1.2.1 d s x hside.1.2.2.1 hside.1.2.2.2.1 hside.1.2.2.2.2 hside.2.1 hy hside.2.2.1 hside.2.2.2 hO hF1 hb hl h
end
end Go.Proofs.YthgibbekfcenhaaGreatDoor
