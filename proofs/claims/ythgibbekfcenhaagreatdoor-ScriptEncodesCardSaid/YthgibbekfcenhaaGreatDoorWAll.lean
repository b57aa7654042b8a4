/- The walks of script.all. -/
import Derived.Test.YthgibbekfcenhaaGreatDoorWOneB
namespace Go.Proofs.YthgibbekfcenhaaGreatDoor
open Go.RowKit

/-- How many bytes a list's writing takes at most. -/
def wMany {α : Type} (wt : α → Nat) (xs : List α) : Nat := 1 + (xs.map wt).sum
theorem sum_step {α : Type} {wt : α → Nat} {xs : List α} {k : Nat} {x : α} (hx : xs[k]? = some x) : ((xs.take (k + 1)).map wt).sum = ((xs.take k).map wt).sum + wt x := by
  rw [List.take_add_one, hx]; simp
theorem sum_take {α : Type} {wt : α → Nat} (xs : List α) (k : Nat) : ((xs.take k).map wt).sum ≤ (xs.map wt).sum := by
  have h : (xs.map wt).sum = ((xs.take k).map wt).sum + ((xs.drop k).map wt).sum := by rw [← List.sum_append, ← List.map_append, List.take_append_drop]
  omega
theorem flat_step {α : Type} {e : α → Bytes} {xs : List α} {k : Nat} {x : α} (hx : xs[k]? = some x) : (xs.take (k + 1)).flatMap e = (xs.take k).flatMap e ++ e x := by
  rw [List.take_add_one, hx]; simp
/-- The list is written up to k. -/
abbrev AllRel {α : Type} (M : Nat) (ok : α → Bool) (e : α → Bytes) (wt : α → Nat) (xs : List α) (l : Bytes) (bad : Bool) (k : Nat) (l' : Bytes) (bad' : Bool) : Prop :=
  WrRel l bad l' bad' (decide (xs.length ≤ M) && (xs.take k).all ok) (byteOf xs.length :: (xs.take k).flatMap e) (1 + ((xs.take k).map wt).sum)
section
variable {α : Type} {M : Nat} {ok : α → Bool} {e : α → Bytes} {wt : α → Nat} {xs : List α} {l l' l2 : Bytes} {bad bad' bad2 : Bool} {k : Nat} {x : α}
theorem allRel_zero (h : WrRel l bad l' bad' (okNum ((M : Int) + 1) xs.length) (eNum xs.length) 1) : AllRel M ok e wt xs l bad 0 l' bad' :=
  h.of (by
    simp only [List.take_zero, List.all_nil, Bool.and_true, okNum]
    by_cases q : xs.length ≤ M
    · rw [decide_eq_true (by omega), decide_eq_true (by omega), decide_eq_true q]; rfl
    · rw [decide_eq_true (by omega), decide_eq_false (by omega), decide_eq_false q]; rfl) (fun _ => by simp [eNum]) (by simp)
theorem allRel_step (h : AllRel M ok e wt xs l bad k l' bad') (hx : xs[k]? = some x) (hs : WrRel l' bad' l2 bad2 (ok x) (e x) (wt x)) : AllRel M ok e wt xs l bad (k + 1) l2 bad2 :=
  (h.seq hs).of (by rw [all_step hx, Bool.and_assoc]) (fun _ => by rw [flat_step hx]; simp) (by rw [sum_step hx]; omega)
theorem allRel_end (h : AllRel M ok e wt xs l bad k l' bad') (hk : xs.length ≤ k) : WrRel l bad l' bad' (okMany M ok xs) (eMany e xs) (wMany wt xs) := by
  unfold AllRel at h
  rw [List.take_of_length_le hk] at h
  exact h
theorem allRel_bad (h : AllRel M ok e wt xs l bad k l' true) : WrRel l bad l' true (okMany M ok xs) (eMany e xs) (wMany wt xs) := by
  have hb := h.bad
  have hlen := h.len
  have hsum := sum_take (wt := wt) xs k
  refine ⟨?_, (fun q => by cases q), by unfold wMany; omega⟩
  unfold okMany
  cases bad with
  | true => rfl
  | false =>
    cases hd : decide (xs.length ≤ M) with
    | false => rfl
    | true =>
      rw [hd] at hb
      cases ha : xs.all ok with
      | false => rfl
      | true =>
        rw [show (xs.take k).all ok = true from List.all_eq_true.2 fun x hx => List.all_eq_true.1 ha x (List.mem_of_mem_take hx)] at hb
        exact hb
end

set_option maxHeartbeats 1000000 in
theorem allFile_calls (m : Int) (M : Nat) (hM : m = (M : Int)) (hm : m ≤ 1000) (A : Option Addr) (n k1 : Nat) (w : World) (F : Fp) (g : Nat) (v : Value) (l : Bytes) (bad : Bool) (xs : List PFile) (hn : n = xs.length) (hrd : (cSl cFile).rd w F [.slice A n k1] xs) (hF : ∀ b, F b → b < g) (hlen : n ≤ 4294967296)
    (h : IsWr w g v l bad) (hl : l.length + wMany (fun x : PFile => (1 + x.name.size) + (1 + x.content.size) + 1) xs ≤ 4294967296) :
    Calls Tryz.prog 64 #[.pointer (some ⟨g, 0, none⟩), .slice A n k1, .int .i64 m, .func (.func 65) #[] #[]] w (WrPost (okMany M okFile xs) (eMany eFile xs) (wMany (fun x : PFile => (1 + x.name.size) + (1 + x.content.size) + 1) xs) g v l bad w) := by
  have Hn := hidden hn
  have hg := h.lt
  have Hw := hidden h
  have Hx : Hid (∀ v' W, WrStep g v v' w W → (cSl cFile).rd W F [.slice A n k1] xs) := hidden fun v' W hs => (cSl cFile).keep hrd fun b hb hl => ⟨hs.keep h (hF b hb), hb⟩
  have hl1 : l.length + 1 ≤ 4294967296 := by unfold wMany at hl; omega
  have Hl := hidden hl
  have hby := wbyte_calls n (m + 1) w g v l bad h hl1
  have Hby := hidden hby
  have HM := hidden hM
  have h0m : 0 ≤ m := by omega
  clear hn hrd h hl hby hM
  go_enter Tryz.func64, Tryz.ntmps64
  go_wp2_with fail
  refine Hby.out.mono ?_
  rintro e1 w1 hp
  obtain ⟨rfl, A1, n1, k2, l1, bad1, hw1, hs1, hr1⟩ := WrRel.ofPost hp
  have Hw1 := hidden hw1
  have Hs1 := hidden hs1
  have Hr1 : Hid (AllRel M okFile eFile (fun x : PFile => (1 + x.name.size) + (1 + x.content.size) + 1) xs l bad 0 l1 bad1) := hidden (allRel_zero (by rw [HM.out, Hn.out] at hr1; exact hr1))
  clear hp hw1 hs1 hr1 Hby
  go_wp2_with fail
  go_loopw [18] (fun i wr => ∃ k A2 n2 k2 l' bad', k ≤ n ∧ i = .int .i64 (k : Nat) ∧ IsWr wr g (.slice A2 n2 k2) l' bad' ∧ WrStep g v (.slice A2 n2 k2) w wr ∧ AllRel M okFile eFile (fun x : PFile => (1 + x.name.size) + (1 + x.content.size) + 1) xs l bad k l' bad') (fun i _ => n - (intOf i).toNat)
  case atStart => exact ⟨0, _, _, _, _, _, Nat.zero_le _, rfl, Hw1.out, Hs1.out, Hr1.out⟩
  obtain ⟨k, A2, n2, k2, l2, bad2, hk, rfl, hw2, hs2, hr2⟩ := hrel
  by_cases hlt : k < n
  case pos =>
    have hkx : k < xs.length := by rw [← Hn.out]; exact hlt
    obtain ⟨x, hx⟩ : ∃ x, xs[k]? = some x := ⟨_, List.getElem?_eq_getElem hkx⟩
    have hrx := Hx.out _ _ hs2
    rw [Hn.out] at hrx
    obtain ⟨bx, offx, hA, _, hbx, hrx⟩ := cSl_at hrx (by intro q; rw [q] at hkx; simp at hkx)
    obtain ⟨cs, hcx', hcx⟩ := hrx.get k x hx
    have hknz : (k : Int) < n := by omega
    have h0k : (0 : Int) ≤ k := by omega
    have hsum := sum_step (wt := (fun x : PFile => (1 + x.name.size) + (1 + x.content.size) + 1)) hx
    have hsum2 := sum_take (wt := (fun x : PFile => (1 + x.name.size) + (1 + x.content.size) + 1)) xs (k + 1)
    have hlen2 := hr2.len
    have hL : l.length + (1 + (xs.map (fun x : PFile => (1 + x.name.size) + (1 + x.content.size) + 1)).sum) ≤ 4294967296 := Hl.out
    subst hA
    obtain ⟨x1, x2, x3⟩ := x
    obtain ⟨rfl, hox1, hox2, hox⟩ := cFile_iff.1 hcx'
    simp only at hcx hox
    have cx0 := hcx 0 (by decide)
    have cx1 := hcx 1 (by decide)
    have cx2 := hcx 2 (by decide)
    simp only [show cFile.size = 3 from rfl, Nat.add_zero, List.getElem?_cons_zero, List.getElem?_cons_succ] at cx0 cx1 cx2
    have Hx2 := hidden hx
    have Hr2 := hidden hr2
    have Hs2 := hidden hs2
    have Hw2 := hidden hw2
    have hg2 := hw2.lt
    have hgn : g ≠ wr.heap.size := by omega
    have w1 := cell_lit hw2.box (j := 1) rfl
    have hbl : l2.length + ((1 + x1.size) + (1 + x2.size) + 1) ≤ 4294967296 := by (try (simp only at hsum)); omega
    clear hrx hcx hx hcx' hr2 hs2 hw2
    cases bad2 with
    | true =>
      go_wp2_with fail
      refine bodyPost_ret (results_none rfl _ _ _) rfl ?_
      exact WrRel.post (Hw2.out.alloc _) (Hs2.out.trans ⟨(Mod.refl _ _).alloc _, .inl rfl⟩) (allRel_bad Hr2.out)
    | false =>
      go_wp2_with fail
      refine (writeFile_calls x1 x2 x3 (by omega) (by omega) hox.1 hox.2 _ g _ l2 false (Hw2.out.alloc _) (by omega)).mono ?_
      rintro e1 w3 hp
      obtain ⟨rfl, A3, n3, k3, l3, bad3, hw3, hs3, hr3⟩ := WrRel.ofPost hp
      have Hw3 := hidden hw3
      have Hs3 := hidden (Hs2.out.trans hs3.alloc)
      have Hr3 := hidden (allRel_step Hr2.out Hx2.out hr3)
      clear hp hw3 hs3 hr3
      go_wp2_with fail
      go_roundw
      case rel => exact ⟨k + 1, _, _, _, _, _, by omega, by go_num, Hw3.out, Hs3.out, Hr3.out⟩
      case measure => simp [intOf]; omega
  obtain rfl : k = n := by omega
  have hkn : ¬ (k : Int) < k := by omega
  have Hfin := hidden (WrRel.post hw2 hs2 (allRel_end hr2 (by rw [← Hn.out]; exact Nat.le_refl _)))
  clear hw2 hs2 hr2
  go_wp2_with fail
  go_end0
  exact Hfin.out
set_option maxHeartbeats 1000000 in
theorem allOutput_calls (m : Int) (M : Nat) (hM : m = (M : Int)) (hm : m ≤ 1000) (A : Option Addr) (n k1 : Nat) (w : World) (F : Fp) (g : Nat) (v : Value) (l : Bytes) (bad : Bool) (xs : List POut) (hn : n = xs.length) (hrd : (cSl cOut).rd w F [.slice A n k1] xs) (hF : ∀ b, F b → b < g) (hlen : n ≤ 4294967296)
    (h : IsWr w g v l bad) (hl : l.length + wMany (fun x : POut => (1 + x.command.size) + (1 + x.text.size)) xs ≤ 4294967296) :
    Calls Tryz.prog 68 #[.pointer (some ⟨g, 0, none⟩), .slice A n k1, .int .i64 m, .func (.func 69) #[] #[]] w (WrPost (okMany M okOut xs) (eMany eOut xs) (wMany (fun x : POut => (1 + x.command.size) + (1 + x.text.size)) xs) g v l bad w) := by
  have Hn := hidden hn
  have hg := h.lt
  have Hw := hidden h
  have Hx : Hid (∀ v' W, WrStep g v v' w W → (cSl cOut).rd W F [.slice A n k1] xs) := hidden fun v' W hs => (cSl cOut).keep hrd fun b hb hl => ⟨hs.keep h (hF b hb), hb⟩
  have hl1 : l.length + 1 ≤ 4294967296 := by unfold wMany at hl; omega
  have Hl := hidden hl
  have hby := wbyte_calls n (m + 1) w g v l bad h hl1
  have Hby := hidden hby
  have HM := hidden hM
  have h0m : 0 ≤ m := by omega
  clear hn hrd h hl hby hM
  go_enter Tryz.func68, Tryz.ntmps68
  go_wp2_with fail
  refine Hby.out.mono ?_
  rintro e1 w1 hp
  obtain ⟨rfl, A1, n1, k2, l1, bad1, hw1, hs1, hr1⟩ := WrRel.ofPost hp
  have Hw1 := hidden hw1
  have Hs1 := hidden hs1
  have Hr1 : Hid (AllRel M okOut eOut (fun x : POut => (1 + x.command.size) + (1 + x.text.size)) xs l bad 0 l1 bad1) := hidden (allRel_zero (by rw [HM.out, Hn.out] at hr1; exact hr1))
  clear hp hw1 hs1 hr1 Hby
  go_wp2_with fail
  go_loopw [18] (fun i wr => ∃ k A2 n2 k2 l' bad', k ≤ n ∧ i = .int .i64 (k : Nat) ∧ IsWr wr g (.slice A2 n2 k2) l' bad' ∧ WrStep g v (.slice A2 n2 k2) w wr ∧ AllRel M okOut eOut (fun x : POut => (1 + x.command.size) + (1 + x.text.size)) xs l bad k l' bad') (fun i _ => n - (intOf i).toNat)
  case atStart => exact ⟨0, _, _, _, _, _, Nat.zero_le _, rfl, Hw1.out, Hs1.out, Hr1.out⟩
  obtain ⟨k, A2, n2, k2, l2, bad2, hk, rfl, hw2, hs2, hr2⟩ := hrel
  by_cases hlt : k < n
  case pos =>
    have hkx : k < xs.length := by rw [← Hn.out]; exact hlt
    obtain ⟨x, hx⟩ : ∃ x, xs[k]? = some x := ⟨_, List.getElem?_eq_getElem hkx⟩
    have hrx := Hx.out _ _ hs2
    rw [Hn.out] at hrx
    obtain ⟨bx, offx, hA, _, hbx, hrx⟩ := cSl_at hrx (by intro q; rw [q] at hkx; simp at hkx)
    obtain ⟨cs, hcx', hcx⟩ := hrx.get k x hx
    have hknz : (k : Int) < n := by omega
    have h0k : (0 : Int) ≤ k := by omega
    have hsum := sum_step (wt := (fun x : POut => (1 + x.command.size) + (1 + x.text.size))) hx
    have hsum2 := sum_take (wt := (fun x : POut => (1 + x.command.size) + (1 + x.text.size))) xs (k + 1)
    have hlen2 := hr2.len
    have hL : l.length + (1 + (xs.map (fun x : POut => (1 + x.command.size) + (1 + x.text.size))).sum) ≤ 4294967296 := Hl.out
    subst hA
    obtain ⟨x1, x2⟩ := x
    obtain ⟨rfl, hox1, hox2⟩ := cOut_iff.1 hcx'
    simp only at hcx
    have cx0 := hcx 0 (by decide)
    have cx1 := hcx 1 (by decide)
    simp only [show cOut.size = 2 from rfl, Nat.add_zero, List.getElem?_cons_zero, List.getElem?_cons_succ] at cx0 cx1
    have Hx2 := hidden hx
    have Hr2 := hidden hr2
    have Hs2 := hidden hs2
    have Hw2 := hidden hw2
    have hg2 := hw2.lt
    have hgn : g ≠ wr.heap.size := by omega
    have w1 := cell_lit hw2.box (j := 1) rfl
    have hbl : l2.length + ((1 + x1.size) + (1 + x2.size)) ≤ 4294967296 := by (try (simp only at hsum)); omega
    clear hrx hcx hx hcx' hr2 hs2 hw2
    cases bad2 with
    | true =>
      go_wp2_with fail
      refine bodyPost_ret (results_none rfl _ _ _) rfl ?_
      exact WrRel.post (Hw2.out.alloc _) (Hs2.out.trans ⟨(Mod.refl _ _).alloc _, .inl rfl⟩) (allRel_bad Hr2.out)
    | false =>
      go_wp2_with fail
      refine (writeOutput_calls ⟨x1, x2⟩ ⟨by show x1.size ≤ _; omega, by show x2.size ≤ _; omega⟩ _ g _ l2 false (Hw2.out.alloc _) hbl).mono ?_
      rintro e1 w3 hp
      obtain ⟨rfl, A3, n3, k3, l3, bad3, hw3, hs3, hr3⟩ := WrRel.ofPost hp
      have Hw3 := hidden hw3
      have Hs3 := hidden (Hs2.out.trans hs3.alloc)
      have Hr3 := hidden (allRel_step Hr2.out Hx2.out hr3)
      clear hp hw3 hs3 hr3
      go_wp2_with fail
      go_roundw
      case rel => exact ⟨k + 1, _, _, _, _, _, by omega, by go_num, Hw3.out, Hs3.out, Hr3.out⟩
      case measure => simp [intOf]; omega
  obtain rfl : k = n := by omega
  have hkn : ¬ (k : Int) < k := by omega
  have Hfin := hidden (WrRel.post hw2 hs2 (allRel_end hr2 (by rw [← Hn.out]; exact Nat.le_refl _)))
  clear hw2 hs2 hr2
  go_wp2_with fail
  go_end0
  exact Hfin.out
set_option maxHeartbeats 1000000 in
theorem allEffect_calls (m : Int) (M : Nat) (hM : m = (M : Int)) (hm : m ≤ 1000) (A : Option Addr) (n k1 : Nat) (w : World) (F : Fp) (g : Nat) (v : Value) (l : Bytes) (bad : Bool) (xs : List PEff) (hn : n = xs.length) (hrd : (cSl cEff).rd w F [.slice A n k1] xs) (hF : ∀ b, F b → b < g) (hlen : n ≤ 4294967296)
    (h : IsWr w g v l bad) (hl : l.length + wMany (fun x : PEff => 1 + (1 + x.name.size) + (1 + x.text.size)) xs ≤ 4294967296) :
    Calls Tryz.prog 94 #[.pointer (some ⟨g, 0, none⟩), .slice A n k1, .int .i64 m, .func (.func 95) #[] #[]] w (WrPost (okMany M okEff xs) (eMany eEff xs) (wMany (fun x : PEff => 1 + (1 + x.name.size) + (1 + x.text.size)) xs) g v l bad w) := by
  have Hn := hidden hn
  have hg := h.lt
  have Hw := hidden h
  have Hx : Hid (∀ v' W, WrStep g v v' w W → (cSl cEff).rd W F [.slice A n k1] xs) := hidden fun v' W hs => (cSl cEff).keep hrd fun b hb hl => ⟨hs.keep h (hF b hb), hb⟩
  have hl1 : l.length + 1 ≤ 4294967296 := by unfold wMany at hl; omega
  have Hl := hidden hl
  have hby := wbyte_calls n (m + 1) w g v l bad h hl1
  have Hby := hidden hby
  have HM := hidden hM
  have h0m : 0 ≤ m := by omega
  clear hn hrd h hl hby hM
  go_enter Tryz.func94, Tryz.ntmps94
  go_wp2_with fail
  refine Hby.out.mono ?_
  rintro e1 w1 hp
  obtain ⟨rfl, A1, n1, k2, l1, bad1, hw1, hs1, hr1⟩ := WrRel.ofPost hp
  have Hw1 := hidden hw1
  have Hs1 := hidden hs1
  have Hr1 : Hid (AllRel M okEff eEff (fun x : PEff => 1 + (1 + x.name.size) + (1 + x.text.size)) xs l bad 0 l1 bad1) := hidden (allRel_zero (by rw [HM.out, Hn.out] at hr1; exact hr1))
  clear hp hw1 hs1 hr1 Hby
  go_wp2_with fail
  go_loopw [18] (fun i wr => ∃ k A2 n2 k2 l' bad', k ≤ n ∧ i = .int .i64 (k : Nat) ∧ IsWr wr g (.slice A2 n2 k2) l' bad' ∧ WrStep g v (.slice A2 n2 k2) w wr ∧ AllRel M okEff eEff (fun x : PEff => 1 + (1 + x.name.size) + (1 + x.text.size)) xs l bad k l' bad') (fun i _ => n - (intOf i).toNat)
  case atStart => exact ⟨0, _, _, _, _, _, Nat.zero_le _, rfl, Hw1.out, Hs1.out, Hr1.out⟩
  obtain ⟨k, A2, n2, k2, l2, bad2, hk, rfl, hw2, hs2, hr2⟩ := hrel
  by_cases hlt : k < n
  case pos =>
    have hkx : k < xs.length := by rw [← Hn.out]; exact hlt
    obtain ⟨x, hx⟩ : ∃ x, xs[k]? = some x := ⟨_, List.getElem?_eq_getElem hkx⟩
    have hrx := Hx.out _ _ hs2
    rw [Hn.out] at hrx
    obtain ⟨bx, offx, hA, _, hbx, hrx⟩ := cSl_at hrx (by intro q; rw [q] at hkx; simp at hkx)
    obtain ⟨cs, hcx', hcx⟩ := hrx.get k x hx
    have hknz : (k : Int) < n := by omega
    have h0k : (0 : Int) ≤ k := by omega
    have hsum := sum_step (wt := (fun x : PEff => 1 + (1 + x.name.size) + (1 + x.text.size))) hx
    have hsum2 := sum_take (wt := (fun x : PEff => 1 + (1 + x.name.size) + (1 + x.text.size))) xs (k + 1)
    have hlen2 := hr2.len
    have hL : l.length + (1 + (xs.map (fun x : PEff => 1 + (1 + x.name.size) + (1 + x.text.size))).sum) ≤ 4294967296 := Hl.out
    subst hA
    obtain ⟨x1, x2, x3⟩ := x
    obtain ⟨rfl, hox, hox2⟩ := cEff_iff.1 hcx'
    simp only at hcx hox
    have cx0 := hcx 0 (by decide)
    have cx1 := hcx 1 (by decide)
    have cx2 := hcx 2 (by decide)
    simp only [show cEff.size = 3 from rfl, Nat.add_zero, List.getElem?_cons_zero, List.getElem?_cons_succ] at cx0 cx1 cx2
    have Hx2 := hidden hx
    have Hr2 := hidden hr2
    have Hs2 := hidden hs2
    have Hw2 := hidden hw2
    have hg2 := hw2.lt
    have hgn : g ≠ wr.heap.size := by omega
    have w1 := cell_lit hw2.box (j := 1) rfl
    have hbl : l2.length + (1 + (1 + x2.size) + (1 + x3.size)) ≤ 4294967296 := by (try (simp only at hsum)); omega
    clear hrx hcx hx hcx' hr2 hs2 hw2
    cases bad2 with
    | true =>
      go_wp2_with fail
      refine bodyPost_ret (results_none rfl _ _ _) rfl ?_
      exact WrRel.post (Hw2.out.alloc _) (Hs2.out.trans ⟨(Mod.refl _ _).alloc _, .inl rfl⟩) (allRel_bad Hr2.out)
    | false =>
      go_wp2_with fail
      refine (writeEffect_calls x1 x2 x3 hox.1 hox.2 (by omega) (by omega) _ g _ l2 false (Hw2.out.alloc _) (by omega)).mono ?_
      rintro e1 w3 hp
      obtain ⟨rfl, A3, n3, k3, l3, bad3, hw3, hs3, hr3⟩ := WrRel.ofPost hp
      have Hw3 := hidden hw3
      have Hs3 := hidden (Hs2.out.trans hs3.alloc)
      have Hr3 := hidden (allRel_step Hr2.out Hx2.out hr3)
      clear hp hw3 hs3 hr3
      go_wp2_with fail
      go_roundw
      case rel => exact ⟨k + 1, _, _, _, _, _, by omega, by go_num, Hw3.out, Hs3.out, Hr3.out⟩
      case measure => simp [intOf]; omega
  obtain rfl : k = n := by omega
  have hkn : ¬ (k : Int) < k := by omega
  have Hfin := hidden (WrRel.post hw2 hs2 (allRel_end hr2 (by rw [← Hn.out]; exact Nat.le_refl _)))
  clear hw2 hs2 hr2
  go_wp2_with fail
  go_end0
  exact Hfin.out
set_option maxHeartbeats 1000000 in
theorem allArg_calls (m : Int) (M : Nat) (hM : m = (M : Int)) (hm : m ≤ 1000) (A : Option Addr) (n k1 : Nat) (w : World) (F : Fp) (g : Nat) (v : Value) (l : Bytes) (bad : Bool) (xs : List ByteArray) (hn : n = xs.length) (hrd : (cSl cStr).rd w F [.slice A n k1] xs) (hF : ∀ b, F b → b < g) (hlen : n ≤ 4294967296)
    (h : IsWr w g v l bad) (hl : l.length + wMany (fun x : ByteArray => 1 + x.size) xs ≤ 4294967296) :
    Calls Tryz.prog 74 #[.pointer (some ⟨g, 0, none⟩), .slice A n k1, .int .i64 m, .func (.func 75) #[] #[]] w (WrPost (okMany M (okText 20) xs) (eMany eText xs) (wMany (fun x : ByteArray => 1 + x.size) xs) g v l bad w) := by
  have Hn := hidden hn
  have hg := h.lt
  have Hw := hidden h
  have Hx : Hid (∀ v' W, WrStep g v v' w W → (cSl cStr).rd W F [.slice A n k1] xs) := hidden fun v' W hs => (cSl cStr).keep hrd fun b hb hl => ⟨hs.keep h (hF b hb), hb⟩
  have hl1 : l.length + 1 ≤ 4294967296 := by unfold wMany at hl; omega
  have Hl := hidden hl
  have hby := wbyte_calls n (m + 1) w g v l bad h hl1
  have Hby := hidden hby
  have HM := hidden hM
  have h0m : 0 ≤ m := by omega
  clear hn hrd h hl hby hM
  go_enter Tryz.func74, Tryz.ntmps74
  go_wp2_with fail
  refine Hby.out.mono ?_
  rintro e1 w1 hp
  obtain ⟨rfl, A1, n1, k2, l1, bad1, hw1, hs1, hr1⟩ := WrRel.ofPost hp
  have Hw1 := hidden hw1
  have Hs1 := hidden hs1
  have Hr1 : Hid (AllRel M (okText 20) eText (fun x : ByteArray => 1 + x.size) xs l bad 0 l1 bad1) := hidden (allRel_zero (by rw [HM.out, Hn.out] at hr1; exact hr1))
  clear hp hw1 hs1 hr1 Hby
  go_wp2_with fail
  go_loopw [18] (fun i wr => ∃ k A2 n2 k2 l' bad', k ≤ n ∧ i = .int .i64 (k : Nat) ∧ IsWr wr g (.slice A2 n2 k2) l' bad' ∧ WrStep g v (.slice A2 n2 k2) w wr ∧ AllRel M (okText 20) eText (fun x : ByteArray => 1 + x.size) xs l bad k l' bad') (fun i _ => n - (intOf i).toNat)
  case atStart => exact ⟨0, _, _, _, _, _, Nat.zero_le _, rfl, Hw1.out, Hs1.out, Hr1.out⟩
  obtain ⟨k, A2, n2, k2, l2, bad2, hk, rfl, hw2, hs2, hr2⟩ := hrel
  by_cases hlt : k < n
  case pos =>
    have hkx : k < xs.length := by rw [← Hn.out]; exact hlt
    obtain ⟨x, hx⟩ : ∃ x, xs[k]? = some x := ⟨_, List.getElem?_eq_getElem hkx⟩
    have hrx := Hx.out _ _ hs2
    rw [Hn.out] at hrx
    obtain ⟨bx, offx, hA, _, hbx, hrx⟩ := cSl_at hrx (by intro q; rw [q] at hkx; simp at hkx)
    obtain ⟨cs, hcx', hcx⟩ := hrx.get k x hx
    have hknz : (k : Int) < n := by omega
    have h0k : (0 : Int) ≤ k := by omega
    have hsum := sum_step (wt := (fun x : ByteArray => 1 + x.size)) hx
    have hsum2 := sum_take (wt := (fun x : ByteArray => 1 + x.size)) xs (k + 1)
    have hlen2 := hr2.len
    have hL : l.length + (1 + (xs.map (fun x : ByteArray => 1 + x.size)).sum) ≤ 4294967296 := Hl.out
    subst hA
    obtain ⟨rfl, hox⟩ := hcx'
    have cx0 := hcx 0 (by decide)
    simp only [show cStr.size = 1 from rfl, Nat.add_zero, Nat.mul_one, List.getElem?_cons_zero] at cx0
    have Hx2 := hidden hx
    have Hr2 := hidden hr2
    have Hs2 := hidden hs2
    have Hw2 := hidden hw2
    have hg2 := hw2.lt
    have hgn : g ≠ wr.heap.size := by omega
    have w1 := cell_lit hw2.box (j := 1) rfl
    have hbl : l2.length + (1 + x.size) ≤ 4294967296 := by (try (simp only at hsum)); omega
    clear hrx hcx hx hr2 hs2 hw2
    cases bad2 with
    | true =>
      go_wp2_with fail
      refine bodyPost_ret (results_none rfl _ _ _) rfl ?_
      exact WrRel.post Hw2.out Hs2.out (allRel_bad Hr2.out)
    | false =>
      go_wp2_with fail
      refine (writeArg_calls x (by omega) _ g _ l2 false (Hw2.out) (by omega)).mono ?_
      rintro e1 w3 hp
      obtain ⟨rfl, A3, n3, k3, l3, bad3, hw3, hs3, hr3⟩ := WrRel.ofPost hp
      have Hw3 := hidden hw3
      have Hs3 := hidden (Hs2.out.trans hs3)
      have Hr3 := hidden (allRel_step Hr2.out Hx2.out hr3)
      clear hp hw3 hs3 hr3
      go_wp2_with fail
      go_roundw
      case rel => exact ⟨k + 1, _, _, _, _, _, by omega, by go_num, Hw3.out, Hs3.out, Hr3.out⟩
      case measure => simp [intOf]; omega
  obtain rfl : k = n := by omega
  have hkn : ¬ (k : Int) < k := by omega
  have Hfin := hidden (WrRel.post hw2 hs2 (allRel_end hr2 (by rw [← Hn.out]; exact Nat.le_refl _)))
  clear hw2 hs2 hr2
  go_wp2_with fail
  go_end0
  exact Hfin.out
set_option maxHeartbeats 1000000 in
theorem allWord_calls (m : Int) (M : Nat) (hM : m = (M : Int)) (hm : m ≤ 1000) (A : Option Addr) (n k1 : Nat) (w : World) (F : Fp) (g : Nat) (v : Value) (l : Bytes) (bad : Bool) (xs : List ByteArray) (hn : n = xs.length) (hrd : (cSl cStr).rd w F [.slice A n k1] xs) (hF : ∀ b, F b → b < g) (hlen : n ≤ 4294967296)
    (h : IsWr w g v l bad) (hl : l.length + wMany (fun x : ByteArray => 1 + x.size) xs ≤ 4294967296) :
    Calls Tryz.prog 74 #[.pointer (some ⟨g, 0, none⟩), .slice A n k1, .int .i64 m, .func (.func 93) #[] #[]] w (WrPost (okMany M (okText 12) xs) (eMany eText xs) (wMany (fun x : ByteArray => 1 + x.size) xs) g v l bad w) := by
  have Hn := hidden hn
  have hg := h.lt
  have Hw := hidden h
  have Hx : Hid (∀ v' W, WrStep g v v' w W → (cSl cStr).rd W F [.slice A n k1] xs) := hidden fun v' W hs => (cSl cStr).keep hrd fun b hb hl => ⟨hs.keep h (hF b hb), hb⟩
  have hl1 : l.length + 1 ≤ 4294967296 := by unfold wMany at hl; omega
  have Hl := hidden hl
  have hby := wbyte_calls n (m + 1) w g v l bad h hl1
  have Hby := hidden hby
  have HM := hidden hM
  have h0m : 0 ≤ m := by omega
  clear hn hrd h hl hby hM
  go_enter Tryz.func74, Tryz.ntmps74
  go_wp2_with fail
  refine Hby.out.mono ?_
  rintro e1 w1 hp
  obtain ⟨rfl, A1, n1, k2, l1, bad1, hw1, hs1, hr1⟩ := WrRel.ofPost hp
  have Hw1 := hidden hw1
  have Hs1 := hidden hs1
  have Hr1 : Hid (AllRel M (okText 12) eText (fun x : ByteArray => 1 + x.size) xs l bad 0 l1 bad1) := hidden (allRel_zero (by rw [HM.out, Hn.out] at hr1; exact hr1))
  clear hp hw1 hs1 hr1 Hby
  go_wp2_with fail
  go_loopw [18] (fun i wr => ∃ k A2 n2 k2 l' bad', k ≤ n ∧ i = .int .i64 (k : Nat) ∧ IsWr wr g (.slice A2 n2 k2) l' bad' ∧ WrStep g v (.slice A2 n2 k2) w wr ∧ AllRel M (okText 12) eText (fun x : ByteArray => 1 + x.size) xs l bad k l' bad') (fun i _ => n - (intOf i).toNat)
  case atStart => exact ⟨0, _, _, _, _, _, Nat.zero_le _, rfl, Hw1.out, Hs1.out, Hr1.out⟩
  obtain ⟨k, A2, n2, k2, l2, bad2, hk, rfl, hw2, hs2, hr2⟩ := hrel
  by_cases hlt : k < n
  case pos =>
    have hkx : k < xs.length := by rw [← Hn.out]; exact hlt
    obtain ⟨x, hx⟩ : ∃ x, xs[k]? = some x := ⟨_, List.getElem?_eq_getElem hkx⟩
    have hrx := Hx.out _ _ hs2
    rw [Hn.out] at hrx
    obtain ⟨bx, offx, hA, _, hbx, hrx⟩ := cSl_at hrx (by intro q; rw [q] at hkx; simp at hkx)
    obtain ⟨cs, hcx', hcx⟩ := hrx.get k x hx
    have hknz : (k : Int) < n := by omega
    have h0k : (0 : Int) ≤ k := by omega
    have hsum := sum_step (wt := (fun x : ByteArray => 1 + x.size)) hx
    have hsum2 := sum_take (wt := (fun x : ByteArray => 1 + x.size)) xs (k + 1)
    have hlen2 := hr2.len
    have hL : l.length + (1 + (xs.map (fun x : ByteArray => 1 + x.size)).sum) ≤ 4294967296 := Hl.out
    subst hA
    obtain ⟨rfl, hox⟩ := hcx'
    have cx0 := hcx 0 (by decide)
    simp only [show cStr.size = 1 from rfl, Nat.add_zero, Nat.mul_one, List.getElem?_cons_zero] at cx0
    have Hx2 := hidden hx
    have Hr2 := hidden hr2
    have Hs2 := hidden hs2
    have Hw2 := hidden hw2
    have hg2 := hw2.lt
    have hgn : g ≠ wr.heap.size := by omega
    have w1 := cell_lit hw2.box (j := 1) rfl
    have hbl : l2.length + (1 + x.size) ≤ 4294967296 := by (try (simp only at hsum)); omega
    clear hrx hcx hx hr2 hs2 hw2
    cases bad2 with
    | true =>
      go_wp2_with fail
      refine bodyPost_ret (results_none rfl _ _ _) rfl ?_
      exact WrRel.post Hw2.out Hs2.out (allRel_bad Hr2.out)
    | false =>
      go_wp2_with fail
      refine (writeWord_calls x (by omega) _ g _ l2 false (Hw2.out) (by omega)).mono ?_
      rintro e1 w3 hp
      obtain ⟨rfl, A3, n3, k3, l3, bad3, hw3, hs3, hr3⟩ := WrRel.ofPost hp
      have Hw3 := hidden hw3
      have Hs3 := hidden (Hs2.out.trans hs3)
      have Hr3 := hidden (allRel_step Hr2.out Hx2.out hr3)
      clear hp hw3 hs3 hr3
      go_wp2_with fail
      go_roundw
      case rel => exact ⟨k + 1, _, _, _, _, _, by omega, by go_num, Hw3.out, Hs3.out, Hr3.out⟩
      case measure => simp [intOf]; omega
  obtain rfl : k = n := by omega
  have hkn : ¬ (k : Int) < k := by omega
  have Hfin := hidden (WrRel.post hw2 hs2 (allRel_end hr2 (by rw [← Hn.out]; exact Nat.le_refl _)))
  clear hw2 hs2 hr2
  go_wp2_with fail
  go_end0
  exact Hfin.out
set_option maxHeartbeats 1000000 in
theorem allPick_calls (m : Int) (M : Nat) (hM : m = (M : Int)) (hm : m ≤ 1000) (A : Option Addr) (n k1 : Nat) (w : World) (F : Fp) (g : Nat) (v : Value) (l : Bytes) (bad : Bool) (xs : List Int) (hn : n = xs.length) (hrd : (cSl cI64).rd w F [.slice A n k1] xs) (hF : ∀ b, F b → b < g) (hlen : n ≤ 4294967296)
    (h : IsWr w g v l bad) (hl : l.length + wMany (fun _ : Int => 1) xs ≤ 4294967296) :
    Calls Tryz.prog 76 #[.pointer (some ⟨g, 0, none⟩), .slice A n k1, .int .i64 m, .func (.func 77) #[] #[]] w (WrPost (okMany M (okNum 256) xs) (eMany eNum xs) (wMany (fun _ : Int => 1) xs) g v l bad w) := by
  have Hn := hidden hn
  have hg := h.lt
  have Hw := hidden h
  have Hx : Hid (∀ v' W, WrStep g v v' w W → (cSl cI64).rd W F [.slice A n k1] xs) := hidden fun v' W hs => (cSl cI64).keep hrd fun b hb hl => ⟨hs.keep h (hF b hb), hb⟩
  have hl1 : l.length + 1 ≤ 4294967296 := by unfold wMany at hl; omega
  have Hl := hidden hl
  have hby := wbyte_calls n (m + 1) w g v l bad h hl1
  have Hby := hidden hby
  have HM := hidden hM
  have h0m : 0 ≤ m := by omega
  clear hn hrd h hl hby hM
  go_enter Tryz.func76, Tryz.ntmps76
  go_wp2_with fail
  refine Hby.out.mono ?_
  rintro e1 w1 hp
  obtain ⟨rfl, A1, n1, k2, l1, bad1, hw1, hs1, hr1⟩ := WrRel.ofPost hp
  have Hw1 := hidden hw1
  have Hs1 := hidden hs1
  have Hr1 : Hid (AllRel M (okNum 256) eNum (fun _ : Int => 1) xs l bad 0 l1 bad1) := hidden (allRel_zero (by rw [HM.out, Hn.out] at hr1; exact hr1))
  clear hp hw1 hs1 hr1 Hby
  go_wp2_with fail
  go_loopw [18] (fun i wr => ∃ k A2 n2 k2 l' bad', k ≤ n ∧ i = .int .i64 (k : Nat) ∧ IsWr wr g (.slice A2 n2 k2) l' bad' ∧ WrStep g v (.slice A2 n2 k2) w wr ∧ AllRel M (okNum 256) eNum (fun _ : Int => 1) xs l bad k l' bad') (fun i _ => n - (intOf i).toNat)
  case atStart => exact ⟨0, _, _, _, _, _, Nat.zero_le _, rfl, Hw1.out, Hs1.out, Hr1.out⟩
  obtain ⟨k, A2, n2, k2, l2, bad2, hk, rfl, hw2, hs2, hr2⟩ := hrel
  by_cases hlt : k < n
  case pos =>
    have hkx : k < xs.length := by rw [← Hn.out]; exact hlt
    obtain ⟨x, hx⟩ : ∃ x, xs[k]? = some x := ⟨_, List.getElem?_eq_getElem hkx⟩
    have hrx := Hx.out _ _ hs2
    rw [Hn.out] at hrx
    obtain ⟨bx, offx, hA, _, hbx, hrx⟩ := cSl_at hrx (by intro q; rw [q] at hkx; simp at hkx)
    obtain ⟨cs, hcx', hcx⟩ := hrx.get k x hx
    have hknz : (k : Int) < n := by omega
    have h0k : (0 : Int) ≤ k := by omega
    have hsum := sum_step (wt := (fun _ : Int => 1)) hx
    have hsum2 := sum_take (wt := (fun _ : Int => 1)) xs (k + 1)
    have hlen2 := hr2.len
    have hL : l.length + (1 + (xs.map (fun _ : Int => 1)).sum) ≤ 4294967296 := Hl.out
    subst hA
    obtain ⟨rfl, hox⟩ := hcx'
    have cx0 := hcx 0 (by decide)
    simp only [show cI64.size = 1 from rfl, Nat.add_zero, Nat.mul_one, List.getElem?_cons_zero] at cx0
    have Hx2 := hidden hx
    have Hr2 := hidden hr2
    have Hs2 := hidden hs2
    have Hw2 := hidden hw2
    have hg2 := hw2.lt
    have hgn : g ≠ wr.heap.size := by omega
    have w1 := cell_lit hw2.box (j := 1) rfl
    have hbl : l2.length + 1 ≤ 4294967296 := by (try (simp only at hsum)); omega
    clear hrx hcx hx hr2 hs2 hw2
    cases bad2 with
    | true =>
      go_wp2_with fail
      refine bodyPost_ret (results_none rfl _ _ _) rfl ?_
      exact WrRel.post Hw2.out Hs2.out (allRel_bad Hr2.out)
    | false =>
      go_wp2_with fail
      refine (writePick_calls x _ g _ l2 false (Hw2.out) (by omega)).mono ?_
      rintro e1 w3 hp
      obtain ⟨rfl, A3, n3, k3, l3, bad3, hw3, hs3, hr3⟩ := WrRel.ofPost hp
      have Hw3 := hidden hw3
      have Hs3 := hidden (Hs2.out.trans hs3)
      have Hr3 := hidden (allRel_step Hr2.out Hx2.out hr3)
      clear hp hw3 hs3 hr3
      go_wp2_with fail
      go_roundw
      case rel => exact ⟨k + 1, _, _, _, _, _, by omega, by go_num, Hw3.out, Hs3.out, Hr3.out⟩
      case measure => simp [intOf]; omega
  obtain rfl : k = n := by omega
  have hkn : ¬ (k : Int) < k := by omega
  have Hfin := hidden (WrRel.post hw2 hs2 (allRel_end hr2 (by rw [← Hn.out]; exact Nat.le_refl _)))
  clear hw2 hs2 hr2
  go_wp2_with fail
  go_end0
  exact Hfin.out
set_option maxHeartbeats 1000000 in
theorem allVerdict_calls (m : Int) (M : Nat) (hM : m = (M : Int)) (hm : m ≤ 1000) (A : Option Addr) (n k1 : Nat) (w : World) (F : Fp) (g : Nat) (v : Value) (l : Bytes) (bad : Bool) (xs : List PVer) (hn : n = xs.length) (hrd : (cSl cVer).rd w F [.slice A n k1] xs) (hF : ∀ b, F b → b < g) (hlen : n ≤ 4294967296)
    (h : IsWr w g v l bad) (hl : l.length + wMany (fun x : PVer => (1 + x.prog.size) + (1 + x.target.size) + (1 + x.prereq.size) + 1) xs ≤ 4294967296) :
    Calls Tryz.prog 72 #[.pointer (some ⟨g, 0, none⟩), .slice A n k1, .int .i64 m, .func (.func 73) #[] #[]] w (WrPost (okMany M okVer xs) (eMany eVer xs) (wMany (fun x : PVer => (1 + x.prog.size) + (1 + x.target.size) + (1 + x.prereq.size) + 1) xs) g v l bad w) := by
  have Hn := hidden hn
  have hg := h.lt
  have Hw := hidden h
  have Hx : Hid (∀ v' W, WrStep g v v' w W → (cSl cVer).rd W F [.slice A n k1] xs) := hidden fun v' W hs => (cSl cVer).keep hrd fun b hb hl => ⟨hs.keep h (hF b hb), hb⟩
  have hl1 : l.length + 1 ≤ 4294967296 := by unfold wMany at hl; omega
  have Hl := hidden hl
  have hby := wbyte_calls n (m + 1) w g v l bad h hl1
  have Hby := hidden hby
  have HM := hidden hM
  have h0m : 0 ≤ m := by omega
  clear hn hrd h hl hby hM
  go_enter Tryz.func72, Tryz.ntmps72
  go_wp2_with fail
  refine Hby.out.mono ?_
  rintro e1 w1 hp
  obtain ⟨rfl, A1, n1, k2, l1, bad1, hw1, hs1, hr1⟩ := WrRel.ofPost hp
  have Hw1 := hidden hw1
  have Hs1 := hidden hs1
  have Hr1 : Hid (AllRel M okVer eVer (fun x : PVer => (1 + x.prog.size) + (1 + x.target.size) + (1 + x.prereq.size) + 1) xs l bad 0 l1 bad1) := hidden (allRel_zero (by rw [HM.out, Hn.out] at hr1; exact hr1))
  clear hp hw1 hs1 hr1 Hby
  go_wp2_with fail
  go_loopw [18] (fun i wr => ∃ k A2 n2 k2 l' bad', k ≤ n ∧ i = .int .i64 (k : Nat) ∧ IsWr wr g (.slice A2 n2 k2) l' bad' ∧ WrStep g v (.slice A2 n2 k2) w wr ∧ AllRel M okVer eVer (fun x : PVer => (1 + x.prog.size) + (1 + x.target.size) + (1 + x.prereq.size) + 1) xs l bad k l' bad') (fun i _ => n - (intOf i).toNat)
  case atStart => exact ⟨0, _, _, _, _, _, Nat.zero_le _, rfl, Hw1.out, Hs1.out, Hr1.out⟩
  obtain ⟨k, A2, n2, k2, l2, bad2, hk, rfl, hw2, hs2, hr2⟩ := hrel
  by_cases hlt : k < n
  case pos =>
    have hkx : k < xs.length := by rw [← Hn.out]; exact hlt
    obtain ⟨x, hx⟩ : ∃ x, xs[k]? = some x := ⟨_, List.getElem?_eq_getElem hkx⟩
    have hrx := Hx.out _ _ hs2
    rw [Hn.out] at hrx
    obtain ⟨bx, offx, hA, _, hbx, hrx⟩ := cSl_at hrx (by intro q; rw [q] at hkx; simp at hkx)
    obtain ⟨cs, hcx', hcx⟩ := hrx.get k x hx
    have hknz : (k : Int) < n := by omega
    have h0k : (0 : Int) ≤ k := by omega
    have hsum := sum_step (wt := (fun x : PVer => (1 + x.prog.size) + (1 + x.target.size) + (1 + x.prereq.size) + 1)) hx
    have hsum2 := sum_take (wt := (fun x : PVer => (1 + x.prog.size) + (1 + x.target.size) + (1 + x.prereq.size) + 1)) xs (k + 1)
    have hlen2 := hr2.len
    have hL : l.length + (1 + (xs.map (fun x : PVer => (1 + x.prog.size) + (1 + x.target.size) + (1 + x.prereq.size) + 1)).sum) ≤ 4294967296 := Hl.out
    subst hA
    obtain ⟨x1, x2, x3, x4⟩ := x
    obtain ⟨rfl, hox⟩ := cVer_iff.1 hcx'
    simp only at hcx
    have cx0 := hcx 0 (by decide)
    have cx1 := hcx 1 (by decide)
    have cx2 := hcx 2 (by decide)
    have cx3 := hcx 3 (by decide)
    simp only [show cVer.size = 4 from rfl, Nat.add_zero, List.getElem?_cons_zero, List.getElem?_cons_succ] at cx0 cx1 cx2 cx3
    have Hx2 := hidden hx
    have Hr2 := hidden hr2
    have Hs2 := hidden hs2
    have Hw2 := hidden hw2
    have hg2 := hw2.lt
    have hgn : g ≠ wr.heap.size := by omega
    have w1 := cell_lit hw2.box (j := 1) rfl
    have hbl : l2.length + ((1 + x1.size) + (1 + x2.size) + (1 + x3.size) + 1) ≤ 4294967296 := by (try (simp only at hsum)); omega
    clear hrx hcx hx hcx' hr2 hs2 hw2
    cases bad2 with
    | true =>
      go_wp2_with fail
      refine bodyPost_ret (results_none rfl _ _ _) rfl ?_
      exact WrRel.post (Hw2.out.alloc _) (Hs2.out.trans ⟨(Mod.refl _ _).alloc _, .inl rfl⟩) (allRel_bad Hr2.out)
    | false =>
      go_wp2_with fail
      refine (writeVerdict_calls x1 x2 x3 x4 (by omega) (by omega) (by omega) _ g _ l2 false (Hw2.out.alloc _) (by omega)).mono ?_
      rintro e1 w3 hp
      obtain ⟨rfl, A3, n3, k3, l3, bad3, hw3, hs3, hr3⟩ := WrRel.ofPost hp
      have Hw3 := hidden hw3
      have Hs3 := hidden (Hs2.out.trans hs3.alloc)
      have Hr3 := hidden (allRel_step Hr2.out Hx2.out hr3)
      clear hp hw3 hs3 hr3
      go_wp2_with fail
      go_roundw
      case rel => exact ⟨k + 1, _, _, _, _, _, by omega, by go_num, Hw3.out, Hs3.out, Hr3.out⟩
      case measure => simp [intOf]; omega
  obtain rfl : k = n := by omega
  have hkn : ¬ (k : Int) < k := by omega
  have Hfin := hidden (WrRel.post hw2 hs2 (allRel_end hr2 (by rw [← Hn.out]; exact Nat.le_refl _)))
  clear hw2 hs2 hr2
  go_wp2_with fail
  go_end0
  exact Hfin.out
end Go.Proofs.YthgibbekfcenhaaGreatDoor
