/- The walks of the document's num, text, texts (layer 35): places in the bytes, told by what is left. -/
import Derived.Test.YthgibbekfcenhaaGreatDoorReadVar
namespace Go.Proofs.YthgibbekfcenhaaGreatDoor
open Go.RowKit

/-- Place 'at' of l: r is what is left. -/
def Pos (l : Bytes) (at_ : Nat) (r : Bytes) : Prop := at_ ≤ l.length ∧ l.drop at_ = r
theorem Pos.len {l r : Bytes} {a : Nat} (h : Pos l a r) : a + r.length = l.length := by
  obtain ⟨h1, rfl⟩ := h
  simp; omega
theorem Pos.move {l r : Bytes} {a : Nat} (h : Pos l a r) (n : Nat) (hn : n ≤ r.length) : Pos l (a + n) (r.drop n) := by
  have := h.len
  obtain ⟨h1, rfl⟩ := h
  exact ⟨by omega, by rw [List.drop_drop]⟩

/-- What num, text answer: the thing, and the next place; nothing in memory turns. -/
def RefPost {α : Type} (val : α → Value) (l : Bytes) (p : Rdr α) (r : Bytes) (w : World) (e : Ending) (w' : World) : Prop :=
  ∃ a' : Nat, e = .returned (.tuple #[val (p r).1, .int .i64 (a' : Int)]) ∧ Pos l a' (p r).2 ∧ w = w'

set_option maxHeartbeats 400000 in
theorem num_calls (A : Option Addr) (cap n : Nat) (F : Fp) (w : World) (l r : Bytes) (hn : n = l.length) (h : cBytes.rd w F [.slice A n cap] l) (a : Int) (at_ : Nat) (ha : a = at_) (hp : Pos l at_ r)
    (m : Int) (M : Nat) (hM : m = M) (hm0 : 0 < M) (hm1 : M ≤ 256) :
    Calls Tryz.prog 28 #[.slice A n cap, .int .i64 a, .int .i64 m] w (RefPost (.int .i64) l (pNum M) r w) := by
  subst hn ha hM
  have hlen := hp.len
  have hcap := cSl_len h
  unfold maxLen at hcap
  cases r with
  | nil =>
    have hlt : ¬ at_ < l.length := by simp at hlen; omega
    have hd : (l.length : Int) ≤ at_ := by omega
    have hfin : RefPost (.int .i64) l (pNum M) [] w (.returned (.tuple #[.int .i64 0, .int .i64 at_])) w := ⟨at_, rfl, hp, rfl⟩
    have Hfin := hidden hfin
    clear hfin hlen hp h
    generalize l.length = n at *
    go_enter Tryz.func28, Tryz.ntmps28
    go_wp2
    go_ret2
    exact Hfin.out
  | cons x r =>
    have hlt : at_ < l.length := by simp at hlen; omega
    obtain ⟨b, off, rfl, _, _, hr⟩ := cSl_at h (by rintro rfl; simp at hlt)
    have hx : l[at_]? = some x := by rw [← List.head?_drop, hp.2]; rfl
    obtain ⟨cs, rfl, hc⟩ := hr.get at_ x hx
    have hc0 := hc 0 (by decide)
    simp only [cU8, Nat.mul_one, Nat.add_zero, List.getElem?_cons_zero] at hc0
    have hn0 : (0 : Int) ≤ (x.toNat : Int) := by omega
    have hn1 : (x.toNat : Int) ≤ 255 := by have := x.toNat_lt; omega
    have hfin : RefPost (.int .i64) l (pNum M) (x :: r) w (.returned (.tuple #[.int .i64 ((x.toNat : Int) % M), .int .i64 ((at_ : Int) + 1)])) w := by
      refine ⟨at_ + 1, ?_, hp.move 1 (by simp), rfl⟩
      simp only [pNum, Int.natCast_emod]
      rfl
    have Hfin := hidden hfin
    have hd : ¬ (l.length : Int) ≤ at_ := by omega
    have hM0 : (0 : Int) < (M : Int) := by omega
    have hM1 : (M : Int) ≤ 256 := by omega
    clear hfin hlen hp h hc hr hx hm0 hm1
    generalize l.length = n at *
    go_enter Tryz.func28, Tryz.ntmps28
    go_wp2
    go_ret2
    exact Hfin.out

theorem pNum_le {m : Nat} (_h : 0 < m) (l : Bytes) : (pNum m l).2.length ≤ l.length := by
  cases l <;> simp [pNum]

set_option maxHeartbeats 400000 in
theorem reftext_calls (A : Option Addr) (cap n : Nat) (F : Fp) (w : World) (l r : Bytes) (hn : n = l.length) (h : cBytes.rd w F [.slice A n cap] l) (a : Int) (at_ : Nat) (ha : a = at_) (hp : Pos l at_ r)
    (m : Int) (M : Nat) (hM : m = M) (hm1 : M ≤ 255) :
    Calls Tryz.prog 29 #[.slice A n cap, .int .i64 a, .int .i64 m] w (RefPost .string l (pText M) r w) := by
  subst ha hM
  have hnum := num_calls A cap n F w l r hn h at_ at_ rfl hp ((M : Int) + 1) (M + 1) (by omega) (by omega) (by omega)
  subst hn
  obtain ⟨x, r1, hx⟩ : ∃ x r1, pNum (M + 1) r = (x, r1) := ⟨_, _, rfl⟩
  have hrange := pNum_range (m := M + 1) (by omega) r
  have hcap := cSl_len h
  have hcap2 := hcap.2
  unfold maxLen at hcap2
  have hNle := hcap.1
  rw [hx] at hrange
  obtain ⟨k, rfl⟩ := Int.eq_ofNat_of_zero_le hrange.1
  have hk : k ≤ M := by have := hrange.2; simp only at this; omega
  have Hnum := hidden hnum
  clear hnum hrange hcap
  go_enter Tryz.func29, Tryz.ntmps29
  go_wp2_with fail
  refine Hnum.out.mono ?_
  rintro e w' ⟨a', rfl, hp', rfl⟩
  replace hp' : Pos l a' r1 := by rw [hx] at hp'; exact hp'
  rw [hx]
  have hlen := hp'.len
  obtain ⟨q, hq1, hq2, hq3, hq4⟩ : ∃ q : Nat, q ≤ r1.length ∧ (if (k : Int) > (l.length : Int) - a' then (l.length : Int) - a' else k) = q ∧ r1.take k = r1.take q ∧ r1.drop k = r1.drop q := by
    by_cases hle : (k : Int) > (l.length : Int) - a'
    · exact ⟨r1.length, Nat.le_refl _, by rw [if_pos hle]; omega, by rw [List.take_of_length_le (by omega), List.take_of_length_le (Nat.le_refl _)], by rw [List.drop_of_length_le (by omega), List.drop_of_length_le (Nat.le_refl _)]⟩
    · exact ⟨k, by omega, by rw [if_neg hle], rfl, rfl⟩
  obtain ⟨A', hcut, hrd⟩ := cut_mid (P := Tryz.prog) h u_bytes i_bytes (m := a') (n := q) (by omega)
  have hdr : l.drop a' = r1 := hp'.2
  rw [hdr] at hrd
  have hql : (r1.take q).length = q := by simp; omega
  have hconv := conv_bytes (P := Tryz.prog) (cap' := cap - a') hrd u_bytes Tryz.underlying5 (dst := 9) Tryz.underlying9 (n := q) (by omega)
  rw [List.take_of_length_le (by omega)] at hconv
  have hfin : RefPost .string l (pText M) r w (.returned (.tuple #[.string ⟨(r1.take q).toArray⟩, .int .i64 ((a' : Int) + q)])) w := by
    refine ⟨a' + q, ?_, ?_, rfl⟩
    · simp only [pText, hx, Int.toNat_natCast, hq3]
      rfl
    · simp only [pText, hx, Int.toNat_natCast, hq4]
      exact hp'.move q hq1
  have Hfin := hidden hfin
  have h0 : (0 : Int) ≤ (l.length : Int) - a' := by omega
  have h1 : (a' : Int) + q ≤ l.length := by omega
  have hn63 : (l.length : Int) ≤ 9223372036854775807 := by omega
  have ha0 : (0 : Int) ≤ a' := by omega
  clear hfin hrd hp' hdr hql h hp hx hlen hq3 hq4 hNle hcap2
  generalize l.length = n at *
  by_cases hle : (k : Int) > (n : Int) - a'
  · rw [if_pos hle] at hq2
    have hq5 : (a' : Int) + q = n := by omega
    have hcut2 := hcut
    rw [hq5] at hcut
    rw [← hq2] at hcut2
    have Hq5 := hidden hq5
    have Hq2 := hidden hq2
    have hd : decide ((n : Int) - a' < k) = true := decide_eq_true (by omega)
    clear hq5 hq2 hle
    go_wp2
    go_ret2
    have := Hfin.out
    first | exact this | (rw [Hq5.out] at this; exact this) | (rw [← Hq2.out] at this; exact this)
  · rw [if_neg hle] at hq2
    have hq5 : k = q := by omega
    subst hq5
    have hd : decide ((n : Int) - a' < k) = false := decide_eq_false (by omega)
    clear hq2 hle
    go_wp2
    go_ret2
    exact Hfin.out

/-- What texts answers: a new slice, and the next place. -/
def RefMany {α : Type} (c : Cd α) (l : Bytes) (p : Rdr (List α)) (r : Bytes) (w : World) (e : Ending) (w' : World) : Prop :=
  ∃ (v : Value) (a' : Nat), e = .returned (.tuple #[v, .int .i64 (a' : Int)]) ∧ (cSl c).rd w' (fun b => w.heap.size ≤ b) [v] (p r).1 ∧ Pos l a' (p r).2 ∧ Mod (fun _ => False) w w'

set_option maxHeartbeats 400000 in
theorem texts_calls (A : Option Addr) (cap n : Nat) (w : World) (l r : Bytes) (hn : n = l.length) (h : cBytes.rd w (fun b => b < w.heap.size) [.slice A n cap] l) (a : Int) (at_ : Nat) (ha : a = at_) (hp : Pos l at_ r)
    (m : Int) (M : Nat) (hM : m = M) (hm1 : M ≤ 255) (m2 : Int) (M2 : Nat) (hM2 : m2 = M2) (hm2 : M2 ≤ 255) :
    Calls Tryz.prog 30 #[.slice A n cap, .int .i64 a, .int .i64 m, .int .i64 m2] w (RefMany cStr l (pMany M (pText M2)) r w) := by
  subst ha hM hM2
  obtain ⟨x, r1, hx⟩ : ∃ x r1, pNum (M + 1) r = (x, r1) := ⟨_, _, rfl⟩
  have hrange := pNum_range (m := M + 1) (by omega) r
  rw [hx] at hrange
  obtain ⟨N, rfl⟩ := Int.eq_ofNat_of_zero_le hrange.1
  have hN : N ≤ M := by have := hrange.2; simp only at this; omega
  have Hx := hidden hx
  have Hh := hidden h
  have Hn := hidden hn
  have Hp := hidden hp
  have hT : SlT Tryz.prog 29 9 cStr.size := slT_of (by kernel_rfl)
  have Hmod : Hid (∀ W, Mod (fun _ => False) w W → cBytes.rd W (fun b => b < w.heap.size) [.slice A n cap] l) := hidden fun W hW => cBytes.mod h hW fun _ _ _ q => q
  clear hrange hx h hn hp
  go_enter Tryz.func30, Tryz.ntmps30
  go_wp2_with fail
  refine (num_calls _ _ _ (fun b => b < w.heap.size) _ l r Hn.out (Hmod.out _ ((Mod.refl _ _).alloc _)) _ at_ rfl Hp.out _ (M + 1) (by omega) (by omega) (by omega)).mono ?_
  rintro e w' ⟨a1, rfl, hp1, rfl⟩
  replace hp1 : Pos l a1 r1 := by rw [Hx.out] at hp1; exact hp1
  rw [Hx.out]
  have Hp1 := hidden hp1
  clear hp1
  go_wp2_with fail
  go_loopw [10, 1, 12] (fun out at_ i wr => ∃ k a2 : Nat, k ≤ N ∧ i = .int .i64 k ∧ at_ = .int .i64 a2 ∧ Own cStr 9 wr w.heap.size (fun b => w.heap.size ≤ b) out (pRep (pText M2) k r1).1 ∧ Pos l a2 (pRep (pText M2) k r1).2 ∧ Mod (fun _ => False) w wr) (fun _ _ i _ => N - (intOf i).toNat)
  case atStart => exact ⟨0, a1, Nat.zero_le _, rfl, rfl, Own.empty _ _ _ _ _ (Nat.le_refl _), Hp1.out, (Mod.refl _ _).alloc _⟩
  case round =>
    obtain ⟨k, a2, hk, rfl, rfl, hO, hp2, hm⟩ := hrel
    have Hlen := hidden (pRep_length (pText M2) k r1)
    by_cases hlt : k < N
    · have HO := hidden hO
      have Hp2 := hidden hp2
      have Hm := hidden hm
      have Hsz := hm.size
      clear hO hp2 hm
      go_wp2_with fail
      refine (reftext_calls _ _ _ (fun b => b < w.heap.size) _ l _ Hn.out (Hmod.out _ Hm.out) _ a2 rfl Hp2.out _ M2 rfl (by omega)).mono ?_
      rintro e w' ⟨a3, rfl, hp3, rfl⟩
      have Hp3 := hidden hp3
      clear hp3
      have Hv : Hid (cStr.rd wr (fun _ => False) (Value.cells (.string (pText M2 (pRep (pText M2) k r1).2).1)).toList (pText M2 (pRep (pText M2) k r1).2).1) := hidden ⟨rfl, text_ok (by omega) _⟩
      go_wp2_with (refine wpList_app1 (c := cStr) (v := u10) hT rfl rfl 38 (.tmp 36) (.tmp 37) rfl rfl rfl rfl Hv.out rfl rfl HO.out (fun _ q => q.elim) (by omega) (by rw [Hlen.out]; omega) ?_; intro v1 w3 hO3 hm3 hat)
      have hblk := HO.out.blk
      go_roundw
      case rel => exact ⟨k + 1, a3, hlt, by go_num, rfl, by rw [pRep_succ]; exact hO3, by rw [pRep_succ]; exact Hp3.out, Hm.out.trans' hm3 fun x hx q => by have := hblk x q.symm; omega⟩
      case measure => simp [intOf]; omega
    · obtain rfl : k = N := by omega
      have hfin : RefMany cStr l (pMany M (pText M2)) r w (.returned (.tuple #[u10, .int .i64 (a2 : Int)])) wr := by
        refine ⟨u10, a2, rfl, ?_, ?_, hm⟩
        · simp only [pMany, Hx.out, Int.toNat_natCast]
          exact hO.read (F' := fun b => w.heap.size ≤ b) (fun _ q => q) (fun _ q => q)
        · simp only [pMany, Hx.out, Int.toNat_natCast]
          exact hp2
      have Hfin := hidden hfin
      clear hO hp2 hm hfin
      go_wp2
      go_ret2
      exact Hfin.out
end Go.Proofs.YthgibbekfcenhaaGreatDoor
