/- The walks of package script's reader: each answers as the plain law's parser says, and moves the reader on. -/
import Derived.Test.YthgibbekfcenhaaGreatDoorCodec
import Derived.Test.YthgibbekfcenhaaGreatDoorProg
namespace Go.Proofs.YthgibbekfcenhaaGreatDoor
open Go.RowKit

/-- A slice of bytes, and what it reads as. -/
abbrev cBytes : Cd Bytes := cSl cU8

/-- Block g is a reader of what is left; that lies in F. -/
def IsRd (w : World) (F : Fp) (g : Nat) (l : Bytes) : Prop :=
  ∃ A cap, w.heap[g]? = some (.cells #[.slice A l.length cap] 116 (0, 0)) ∧ cBytes.rd w F [.slice A l.length cap] l ∧ ¬ F g

theorem IsRd.mod {w w' : World} {S F : Fp} {g : Nat} {l : Bytes} (h : IsRd w F g l) (hm : Mod S w w') (hg : ¬ S g) (hF : ∀ b, F b → b < w.heap.size → ¬ S b) : IsRd w' F g l := by
  obtain ⟨A, cap, h1, h2, h3⟩ := h
  exact ⟨A, cap, hm.heap h1 hg, cBytes.mod h2 hm hF, h3⟩

/-- What a step of the reader does: the answer, the reader moved on, nothing else that was there turned. -/
structure Step (F : Fp) (g : Nat) (l : Bytes) (w w' : World) : Prop where
  rd : IsRd w' F g l
  mod : Mod (· = g) w w'

theorem cell_one {w : World} {g : Nat} {v : Value} {t : TypeId} (h : w.heap[g]? = some (.cells #[v] t (0, 0))) : w.cell? ⟨g, 0, none⟩ = some v := by simp [World.cell?, h]
theorem free_one {w : World} {g : Nat} {v : Value} {t : TypeId} (h : w.heap[g]? = some (.cells #[v] t (0, 0))) : w.frozen? ⟨g, 0, none⟩ = false := by simp [World.frozen?, h]
theorem set_one {w : World} {g : Nat} {v : Value} {t : TypeId} (h : w.heap[g]? = some (.cells #[v] t (0, 0))) (u : Value) : (w.setCell ⟨g, 0, none⟩ u).heap[g]? = some (.cells #[u] t (0, 0)) := by
  simp [World.setCell, Array.getElem?_modify, h]

set_option maxHeartbeats 400000 in
theorem byte_calls (m : Int) (M : Nat) (hM : m = (M : Int)) (w : World) (F : Fp) (g : Nat) (l : Bytes) (h : IsRd w F g l) (hm : 0 < m) (hm2 : m ≤ 256) :
    Calls Tryz.prog 81 #[.pointer (some ⟨g, 0, none⟩), .int .i64 m] w fun e w' => e = .returned (.int .i64 (pNum M l).1) ∧ Step F g (pNum M l).2 w w' := by
  obtain rfl : m.toNat = M := by omega
  clear hM
  obtain ⟨A, cap, h1, h2, h3⟩ := h
  have hc := cell_one h1
  have hf := free_one h1
  cases l with
  | nil =>
    have hres : Hid (Step F g (pNum m.toNat []).2 w w) := hidden ⟨⟨A, cap, h1, h2, h3⟩, Mod.refl _ _⟩
    clear h1 h2 h3
    simp only [List.length_nil] at hc
    go_enter Tryz.func81, Tryz.ntmps81
    go_wp2
    go_ret
    exact ⟨rfl, hres.out⟩
  | cons x l =>
    obtain ⟨A', cap', he, hl, hcm, hr⟩ := h2
    obtain ⟨b, off, rfl, hb, hbl, ⟨cs, rfl, hx⟩, hr'⟩ := hr (by simp)
    obtain ⟨rfl, rfl⟩ : A = some ⟨b, off, none⟩ ∧ cap = cap' := by simpa using he
    have hx0 := hx 0 (by decide)
    simp only [Nat.add_zero, List.getElem?_cons_zero] at hx0
    have hn0 : (0 : Int) ≤ (x.toNat : Int) := by omega
    have hn1 : (x.toNat : Int) ≤ 255 := by have := x.toNat_lt; omega
    simp only [List.length_cons] at hl hc h1
    have hres : Hid (∀ A c, A = some ⟨b, off + 1, none⟩ ∨ l = [] → l.length ≤ c → c ≤ maxLen → Step F g l w (w.setCell ⟨g, 0, none⟩ (.slice A l.length c))) := hidden (by
      intro A c hA hlc hc
      have hm : Mod (· = g) w (w.setCell ⟨g, 0, none⟩ (.slice A l.length c)) := Mod.setCell (S := (· = g)) (p := ⟨g, 0, none⟩) (Mod.refl _ _) (.inl rfl) _
      refine ⟨⟨A, c, set_one h1 _, ⟨A, c, rfl, hlc, hc, fun hne => ?_⟩, h3⟩, hm⟩
      rcases hA with rfl | rfl
      · exact ⟨b, off + 1, rfl, hb, Nat.lt_of_lt_of_le hbl hm.size, hr'.keep (fun _ _ => hm.block b hbl (by rintro rfl; exact h3 hb)) fun k hk hl => ⟨hm.block k hl (by rintro rfl; exact h3 hk), hk⟩⟩
      · exact absurd rfl hne)
    have hval : Hid ((pNum m.toNat (x :: l)).1 = (x.toNat : Int) % m) := hidden (by
      simp only [pNum]
      rw [Int.natCast_emod, Int.toNat_of_nonneg (by omega)])
    have hcm' : cap ≤ 9223372036854775807 := hcm
    clear hr hr' he h1 h3 hbl hx hb hcm
    go_enter Tryz.func81, Tryz.ntmps81
    go_wp2
    · go_ret
      rw [hval.out]
      refine ⟨rfl, hres.out _ _ ?_ (by omega) (by omega)⟩
      exact .inr (List.eq_nil_of_length_eq_zero (by omega))
    · go_ret
      rw [hval.out]
      exact ⟨rfl, hres.out _ _ (.inl rfl) (by omega) (by unfold maxLen; omega)⟩

theorem u_bytes : Tryz.prog.underlying 46 = some (.slice 5) := Tryz.underlying46
theorem i_bytes : (Tryz.prog.info? 5).map (·.size) = some cU8.size := by kernel_rfl

set_option maxHeartbeats 400000 in
theorem text_calls (m : Int) (M : Nat) (hM : m = (M : Int)) (w : World) (F : Fp) (g : Nat) (l : Bytes) (h : IsRd w F g l) (hm : 0 ≤ m) (hm2 : m ≤ 255) :
    Calls Tryz.prog 82 #[.pointer (some ⟨g, 0, none⟩), .int .i64 m] w fun e w' => e = .returned (.string (pText M l).1) ∧ Step F g (pText M l).2 w w' := by
  obtain rfl : m.toNat = M := by omega
  clear hM
  obtain ⟨k, r, hkr⟩ : ∃ k r, pNum (m.toNat + 1) l = (k, r) := ⟨_, _, rfl⟩
  have hrange := pNum_range (m := m.toNat + 1) (by omega) l
  have hby := byte_calls (m + 1) (m.toNat + 1) (by omega) w F g l h (by omega) (by omega)
  rw [hkr] at hby
  have hpt : pText m.toNat l = (⟨(r.take k.toNat).toArray⟩, r.drop k.toNat) := by simp only [pText, hkr]
  rw [hpt]
  rw [hkr] at hrange
  obtain ⟨hk0, hk1⟩ : 0 ≤ k ∧ k ≤ m := ⟨hrange.1, by have := hrange.2; omega⟩
  have Hby := hidden hby
  clear hby hrange hpt hkr h
  -- how many bytes there are
  obtain ⟨n, hn1, hn2, hn3, hn4⟩ : ∃ n : Nat, n ≤ r.length ∧ (n : Int) = (if (r.length : Int) < k then (r.length : Int) else k) ∧ r.take k.toNat = r.take n ∧ r.drop k.toNat = r.drop n := by
    by_cases hle : (r.length : Int) < k
    · exact ⟨r.length, Nat.le_refl _, by rw [if_pos hle], by rw [List.take_of_length_le (by omega), List.take_of_length_le (Nat.le_refl _)], by rw [List.drop_of_length_le (by omega), List.drop_of_length_le (Nat.le_refl _)]⟩
    · exact ⟨k.toNat, by omega, by rw [if_neg hle]; omega, rfl, rfl⟩
  rw [hn3, hn4]
  have hn2' := hn2.symm
  clear hn2 hn3 hn4 hk0 hk1
  go_enter Tryz.func82, Tryz.ntmps82
  go_wp2_with fail
  refine Hby.out.mono ?_
  rintro e w1 ⟨rfl, hs⟩
  obtain ⟨⟨A, cap, h1, h2, h3⟩, hmod⟩ := hs
  obtain ⟨hl, hcm⟩ := cSl_len h2
  obtain ⟨A', hcut, hrd⟩ := cut_from (P := Tryz.prog) h2 u_bytes i_bytes hn1
  have hconv := fun cap' => conv_bytes (P := Tryz.prog) (cap' := cap') h2 u_bytes Tryz.underlying5 (dst := 9) Tryz.underlying9 hn1
  have hc := cell_one h1
  have hf := free_one h1
  unfold maxLen at hcm
  have hres : Hid (Step F g (r.drop n) w (w1.setCell ⟨g, 0, none⟩ (.slice A' (r.length - n) (cap - n)))) := hidden (by
    have hm : Mod (· = g) w1 (w1.setCell ⟨g, 0, none⟩ (.slice A' (r.length - n) (cap - n))) := Mod.setCell (S := (· = g)) (p := ⟨g, 0, none⟩) (Mod.refl _ _) (.inl rfl) _
    have hq := cBytes.mod hrd hm (fun b hb _ => by rintro rfl; exact h3 hb)
    refine ⟨⟨A', cap - n, ?_, hq, h3⟩, hmod.trans hm⟩
    rw [List.length_drop]
    exact set_one h1 _)
  clear h1 h2 h3 hmod hrd
  go_wp2
  go_ret
  exact ⟨rfl, hres.out⟩

theorem IsRd.alloc {w : World} {F : Fp} {g : Nat} {l : Bytes} (h : IsRd w F g l) (o : Obj) : IsRd (w.alloc o) F g l := h.mod ((Mod.refl (fun _ => False) w).alloc o) (fun q => q) (fun _ _ _ q => q)
theorem IsRd.lt {w : World} {F : Fp} {g : Nat} {l : Bytes} (h : IsRd w F g l) : g < w.heap.size := by
  obtain ⟨A, cap, h1, _⟩ := h
  exact (Array.getElem?_eq_some_iff.1 h1).1
theorem cell_lit {w : World} {b : Nat} {cs : Array Value} {t : TypeId} (h : w.heap[b]? = some (.cells cs t (0, 0))) {j : Nat} {v : Value} (hj : cs[j]? = some v) : w.cell? ⟨b, j, none⟩ = some v := by simp [World.cell?, h, hj]
theorem free_lit {w : World} {b : Nat} {cs : Array Value} {t : TypeId} (h : w.heap[b]? = some (.cells cs t (0, 0))) (j : Nat) : w.frozen? ⟨b, j, none⟩ = false := by simp [World.frozen?, h]

/-- What a reading function does: its answer is new, the reader is moved on. -/
def ReadsPost {α : Type} (c : Cd α) (p : Rdr α) (F : Fp) (g : Nat) (l : Bytes) (w : World) (e : Ending) (w' : World) : Prop :=
  ∃ v : Value, e = .returned v ∧ c.rd w' (fun b => w.heap.size ≤ b) v.cells.toList (p l).1 ∧ Step F g (p l).2 w w'
/-- .. and of many things: a slice. -/
def ManyPost {α : Type} (c : Cd α) (p : Rdr (List α)) (F : Fp) (g : Nat) (l : Bytes) (w : World) (e : Ending) (w' : World) : Prop :=
  ∃ v : Value, e = .returned v ∧ (cSl c).rd w' (fun b => w.heap.size ≤ b) [v] (p l).1 ∧ Step F g (p l).2 w w'
def ReadsOne {α : Type} (f : FuncId) (c : Cd α) (p : Rdr α) : Prop :=
  ∀ (w : World) (F : Fp) (g : Nat) (l : Bytes), IsRd w F g l → Calls Tryz.prog f #[.pointer (some ⟨g, 0, none⟩)] w (ReadsPost c p F g l w)

theorem IsRd.wider {w : World} {F F' : Fp} {g : Nat} {l : Bytes} (h : IsRd w F g l) (hf : ∀ b, F b → b < w.heap.size → F' b) (hg : ¬ F' g) : IsRd w F' g l := by
  obtain ⟨A, cap, h1, h2, _⟩ := h
  exact ⟨A, cap, h1, cBytes.wider h2 hf, hg⟩
theorem IsRd.free {w : World} {F : Fp} {g : Nat} {l : Bytes} (h : IsRd w F g l) : ¬ F g := by
  obtain ⟨A, cap, _, _, h⟩ := h
  exact h
/-- It serves to know that what the reader reads was there. -/
theorem readsOne_of {α : Type} {f : FuncId} {c : Cd α} {p : Rdr α}
    (H : ∀ (w : World) (F : Fp) (g : Nat) (l : Bytes), (∀ b, F b → b < w.heap.size) → IsRd w F g l → Calls Tryz.prog f #[.pointer (some ⟨g, 0, none⟩)] w (ReadsPost c p F g l w)) : ReadsOne f c p := by
  intro w F g l h
  refine (H w (fun b => F b ∧ b < w.heap.size) g l (fun _ hb => hb.2) (h.wider (fun b hb hl => ⟨hb, hl⟩) (fun hg => h.free hg.1))).mono ?_
  rintro e w' ⟨v, he, hv, hs⟩
  exact ⟨v, he, hv, hs.rd.wider (fun b hb _ => hb.1) h.free, hs.mod⟩
theorem Step.box {F : Fp} {g : Nat} {l : Bytes} {w w3 w4 : World} {o : Obj} (hF : ∀ b, F b → b < w.heap.size) (hg : g < w.heap.size) (hr : IsRd w3 F g l) (hm : Mod (· = g) (w.alloc o) w3) (h4 : Mod (· = w.heap.size) w3 w4) : Step F g l w w4 := by
  refine ⟨hr.mod h4 (by omega) (fun b hb _ => by have := hF b hb; omega), ?_⟩
  refine (((Mod.refl (· = g) w).alloc o).trans hm).trans' h4 fun x hx q => ?_
  omega

theorem pText_size (M : Nat) (l : Bytes) : (pText M l).1.size ≤ M := by simpa [okText] using plain_text (most := M) l
theorem text_ok {M : Nat} (hM : M ≤ 255) (l : Bytes) : (pText M l).1.size ≤ maxLen := Nat.le_trans (pText_size M l) (Nat.le_trans hM (by decide))

end Go.Proofs.YthgibbekfcenhaaGreatDoor
