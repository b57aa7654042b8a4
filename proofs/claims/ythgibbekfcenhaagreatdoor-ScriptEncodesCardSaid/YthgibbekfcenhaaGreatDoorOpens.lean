/- From what an argument reads as to the words of contracts. -/
import Derived.Test.YthgibbekfcenhaaGreatDoorCodec
import Derived.Deep.Slices
import Derived.ChangeArms
import Derived.ChangeSame
import Derived.Carry
import Derived.Below
namespace Go.Proofs.YthgibbekfcenhaaGreatDoor
open Go.RowKit Go.ChangeShapes Go.WideShapes Go.Deep

/-- Whatever reads at type t reads by c. -/
def Opens (P : Program) (t : TypeId) {α : Type} (c : Cd α) : Prop :=
  P.cellsOf t = c.size ∧ ∀ (H : Type) (enc : TypeId × Value → H) (w : World) (fuel : Nat) (cs : List Value) (x : DataW H × List MemPlace), DataW.trod enc P w 0 (fun _ => true) true fuel t cs = some x → ∃ y, c.rd w (fun b => b < w.heap.size) cs y

section
variable {P : Program} {t e : TypeId} {α β : Type} {c : Cd α} {c' : Cd β}
theorem opens_str (ht : P.underlying t = some .string) (hc : P.cellsOf t = 1) : Opens P t cStr := ⟨hc, fun H enc w fuel cs x h => by
  obtain ⟨s, rfl, _, hs⟩ := DataW.trod_string ht h
  exact ⟨s, rfl, hs⟩⟩
theorem opens_bool (ht : P.underlying t = some .bool) (hc : P.cellsOf t = 1) : Opens P t cBool := ⟨hc, fun H enc w fuel cs x h => by
  obtain ⟨b, rfl, _⟩ := DataW.trod_bool ht h
  exact ⟨b, rfl⟩⟩
theorem opens_i64 (ht : P.underlying t = some (.int .i64)) (hc : P.cellsOf t = 1) : Opens P t cI64 := ⟨hc, fun H enc w fuel cs x h => by
  obtain ⟨n, rfl, _, hw⟩ := DataW.trod_int ht h
  simp only [Lit.wf, Bool.and_eq_true, decide_eq_true_eq] at hw
  refine ⟨n, rfl, ?_⟩
  have h1 : IntKind.i64.min = -9223372036854775808 := by decide
  have h2 : IntKind.i64.max = 9223372036854775807 := by decide
  omega⟩
theorem opens_u8 (ht : P.underlying t = some (.int .u8)) (hc : P.cellsOf t = 1) : Opens P t cU8 := ⟨hc, fun H enc w fuel cs x h => by
  obtain ⟨n, rfl, _, hw⟩ := DataW.trod_int ht h
  simp only [Lit.wf, Bool.and_eq_true, decide_eq_true_eq] at hw
  have h1 : IntKind.u8.min = 0 := by decide
  have h2 : IntKind.u8.max = 255 := by decide
  refine ⟨UInt8.ofNat n.toNat, ?_⟩
  show [Value.int .u8 n] = [Value.int .u8 ((UInt8.ofNat n.toNat).toNat : Int)]
  have : ((UInt8.ofNat n.toNat).toNat : Int) = n := by
    rw [UInt8.toNat_ofNat']
    omega
  rw [this]⟩
theorem opens_iso {f : β → α} (h : Opens P t c) (hf : ∀ a, ∃ b, f b = a) : Opens P t (cIso c f) := ⟨h.1, fun H enc w fuel cs x hx => by
  obtain ⟨a, ha⟩ := h.2 H enc w fuel cs x hx
  obtain ⟨b, rfl⟩ := hf a
  exact ⟨b, ha⟩⟩
theorem list_of {n : Nat} {p : Nat → α → Prop} (h : ∀ i, i < n → ∃ y, p i y) : ∃ ys : List α, ys.length = n ∧ ∀ i y, ys[i]? = some y → p i y := by
  induction n with
  | zero => exact ⟨[], rfl, fun i y hy => by simp at hy⟩
  | succ n ih =>
    obtain ⟨ys, hl, hy⟩ := ih fun i hi => h i (by omega)
    obtain ⟨y, hn⟩ := h n (by omega)
    refine ⟨ys ++ [y], by simp [hl], fun i z hz => ?_⟩
    rcases Nat.lt_trichotomy i n with hi | hi | hi
    · rw [List.getElem?_append_left (by omega)] at hz
      exact hy i z hz
    · subst hi
      rw [List.getElem?_append_right (by omega), hl] at hz
      simp at hz
      rw [← hz]; exact hn
    · rw [List.getElem?_eq_none (by simp [hl]; omega)] at hz
      cases hz
theorem RdAt.of_get {w : World} {F : Fp} {b : Nat} : ∀ {off : Nat} {xs : List α}, (∀ i x, xs[i]? = some x → ∃ cs, c.rd w F cs x ∧ ∀ j, j < c.size → w.cell? ⟨b, off + i * c.size + j, none⟩ = cs[j]?) → RdAt c w F b off xs
  | _, [], _ => trivial
  | off, x :: xs, h => ⟨by
      obtain ⟨cs, h1, h2⟩ := h 0 x rfl
      exact ⟨cs, h1, fun j hj => by have := h2 j hj; rwa [Nat.zero_mul, Nat.add_zero] at this⟩, RdAt.of_get fun i y hy => by
      obtain ⟨cs, h1, h2⟩ := h (i + 1) y (by simpa using hy)
      exact ⟨cs, h1, fun j hj => by rw [← h2 j hj, show off + (i + 1) * c.size + j = off + c.size + i * c.size + j by rw [Nat.succ_mul]; omega]⟩⟩
theorem opens_sl (ht : P.underlying t = some (.slice e)) (hc : P.cellsOf t = 1) (h : Opens P e c) (hpos : 0 < c.size) : Opens P t (cSl c) := ⟨hc, fun H enc w fuel cs x hx => by
  rcases open_slice ht hx with ⟨rfl, _⟩ | ⟨a, len, cap, m, n, D, Pl, rfl, _, hl, hm, hmm, _, hall⟩
  · exact ⟨[], none, 0, rfl, Nat.le_refl _, Nat.zero_le _, fun hne => absurd rfl hne⟩
  · simp only [if_true] at hmm
    subst hmm
    rw [h.1] at hall
    obtain ⟨ys, hlen, hys⟩ := list_of (n := len) (p := fun i y => ∃ cs', c.rd w (fun b => b < w.heap.size) cs' y ∧ ∀ j, j < c.size → w.cell? ((a.add (i * c.size)).add j) = cs'[j]?) fun i hi => by
      obtain ⟨cs', h1, h2⟩ := hall i (by omega)
      obtain ⟨_, _, hcell⟩ := World.cells?_some h1
      obtain ⟨y, hy⟩ := h.2 H enc w n cs' _ h2
      exact ⟨y, cs', hy, hcell⟩
    refine ⟨ys, some a, m, by rw [hlen], by omega, hm, fun hne => ?_⟩
    obtain ⟨b, off, sp⟩ := a
    obtain ⟨y0, hy0⟩ : ∃ y, ys[0]? = some y := by
      cases ys with
      | nil => exact absurd rfl hne
      | cons y ys => exact ⟨y, rfl⟩
    obtain ⟨cs0, hr0, hc0⟩ := hys 0 y0 hy0
    have hl0 := c.len hr0
    have hcell0 := hc0 0 hpos
    rw [List.getElem?_eq_getElem (by omega)] at hcell0
    simp only [Nat.zero_mul, Addr.add] at hcell0
    obtain rfl : sp = none := by
      cases sp with
      | none => rfl
      | some s =>
        simp only [World.cell?, Option.isSome_some, if_true] at hcell0
        split at hcell0 <;> cases hcell0
    have hb : b < w.heap.size := by
      rcases Nat.lt_or_ge b w.heap.size with hb | hb
      · exact hb
      · simp [World.cell?, Array.getElem?_eq_none hb] at hcell0
    refine ⟨b, off, rfl, hb, hb, RdAt.of_get fun i y hy => ?_⟩
    obtain ⟨cs', hr, hcs⟩ := hys i y hy
    refine ⟨cs', hr, fun j hj => ?_⟩
    rw [← hcs j hj]
    congr 1
    have hadd : ∀ (o k : Nat), (⟨b, o, none⟩ : Addr).add k = ⟨b, o + k, none⟩ := fun o k => by
      unfold Addr.add
      split
      · rename_i h0; simp
      · rfl
    rw [hadd, hadd]⟩
/-- The fields from offset 'off' on read by c. -/
def OpensF (P : Program) (l : List (Nat × TypeId)) (off : Nat) {α : Type} (c : Cd α) : Prop :=
  ∀ (H : Type) (enc : TypeId × Value → H) (w : World) (n : Nat) (cs : List Value), (∀ f ∈ l, ∃ y, DataW.trod enc P w 0 (fun _ => true) true n f.2 ((cs.drop f.1).take (P.cellsOf f.2)) = some y) → cs.length = off + c.size → ∃ y, c.rd w (fun b => b < w.heap.size) (cs.drop off) y
theorem opensF_last {off : Nat} (h : Opens P t c) : OpensF P [(off, t)] off c := fun H enc w n cs hf hl => by
  obtain ⟨y, hy⟩ := hf (off, t) (by simp)
  rw [h.1, List.take_of_length_le (by simp; omega)] at hy
  exact h.2 H enc w n _ _ hy
theorem opensF_cons {off : Nat} {l : List (Nat × TypeId)} (h : Opens P t c) (k : OpensF P l (off + c.size) c') : OpensF P ((off, t) :: l) off (cPair c c') := fun H enc w n cs hf hl => by
  obtain ⟨y, hy⟩ := hf (off, t) (by simp)
  rw [h.1] at hy
  obtain ⟨a, ha⟩ := h.2 H enc w n _ _ hy
  have hl' : cs.length = off + (c.size + c'.size) := hl
  obtain ⟨b, hb⟩ := k H enc w n cs (fun f hm => hf f (by simp [hm])) (by omega)
  refine ⟨(a, b), (cs.drop off).take c.size, cs.drop (off + c.size), ?_, ha, hb⟩
  rw [← List.drop_drop, List.take_append_drop]
theorem opens_struct {l : List (Nat × TypeId)} (h : ∃ fs, P.underlying t = some (.struct fs) ∧ fs.toList.map (fun f => (f.offset, f.type)) = l) (hc : P.cellsOf t = c.size) (hF : OpensF P l 0 c) : Opens P t c := ⟨hc, fun H enc w fuel cs x hx => by
  obtain ⟨fs, ht, rfl⟩ := h
  obtain ⟨xs, n, _, rfl, hl, hlen, hf⟩ := DataW.trod_struct ht hx
  have := hF H enc w n cs (fun p hp => by
    obtain ⟨f, hm, rfl⟩ := List.mem_map.1 hp
    obtain ⟨i, hi, hfi⟩ := List.mem_iff_getElem.1 hm
    have hfi' : fs[i]? = some f := by rw [← Array.getElem?_toList, List.getElem?_eq_getElem hi, hfi]
    have h1 := hf i f hfi'
    refine ⟨xs[i]'(by rw [hlen]; simpa using hi), ?_⟩
    rw [h1, List.getElem?_eq_getElem]) (by omega)
  simpa using this⟩
end

/-- The row's last step where the call made memory alone ('again' is not asked). -/
theorem post_made {H : Type} {enc : TypeId × Value → H} {P : Program} {f : Func} {s : ChangeSpec} {apart fresh handsOn : Bool} {W W' : World} {args : Array Value} {v : Value} {ds gs : List (DataW H)} {before pa pv : List MemPlace}
    (hW : DataW.Whole enc P f.params.toList s.vars apart W args.toList ds gs before)
    (hres : ∀ (b : Nat) (sp : Nat → Bool) (hd : Bool), DataW.TrodAll enc P W' b sp hd f.resultTypes.toList (v.resultList f.resultTypes.size) (s.fn H (ds ++ gs)).results [])
    (hargs : DataW.TrodAll enc P W' 0 (fun b => decide (b < W.heap.size)) true f.params.toList args.toList (s.fn H (ds ++ gs)).args pa)
    (hvars : DataW.TrodVars enc P W' (fun b => decide (b < W.heap.size)) s.vars (s.fn H (ds ++ gs)).vars pv)
    (hps : before = pa ++ pv) (hb : Below W.heap.size W W') :
    s.post enc P f apart fresh handsOn false W args v W' := by
  refine ⟨ds, gs, before, [], pa, pv, hW, hres _ _ _, hargs, hvars, World.keptBut_mono (fun p hp => ⟨hp, ?_⟩) (hb.frame (· ∈ before)), fun h => by cases h⟩
  rw [hps, List.mem_append] at hp
  exact Or.inr hp
theorem trod1_made {H : Type} {enc : TypeId × Value → H} {P : Program} {t : TypeId} (hl : laidOutB P = true) (hr : P.readableRec t = true) (hrow : t < P.types.size) {W W' : World} {v : Value} {d : DataW H} {ps : List MemPlace}
    (h : DataW.Trod enc P W 0 (fun _ => true) true t v d ps) (hb : Below W.heap.size W W') (hlt : ∀ x ∈ ps, x.block < W.heap.size) : DataW.Trod enc P W' 0 (fun b => decide (b < W.heap.size)) true t v d ps := Below.trod hl hr hrow h hb hlt
end Go.Proofs.YthgibbekfcenhaaGreatDoor
