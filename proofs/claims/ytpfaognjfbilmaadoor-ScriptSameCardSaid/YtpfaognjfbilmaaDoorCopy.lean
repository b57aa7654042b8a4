/- The walks of the laws' copies of lists: the copy reads as the list did. -/
import Derived.Test.YtpfaognjfbilmaaDoorDecode
namespace Go.Proofs.YtpfaognjfbilmaaDoor
open Go.RowKit

/-- Where a copy lies: new memory, and what was there. -/
abbrev CopyF (w : World) (F : Fp) : Fp := fun b => w.heap.size ≤ b ∨ (F b ∧ b < w.heap.size)
/-- What a copy answers: a slice that reads as xs. -/
def CopyPost {α : Type} (c : Cd α) (F : Fp) (xs : List α) (w : World) (e : Ending) (w' : World) : Prop :=
  ∃ v : Value, e = .returned v ∧ (cSl c).rd w' (CopyF w F) [v] xs ∧ Mod (fun _ => False) w w'

set_option maxHeartbeats 1000000 in
theorem copyFile_calls (A : Option Addr) (cap n : Nat) (w : World) (xs : List PFile) (F : Fp) (hn : n = xs.length) (h : (cSl cFile).rd w F [.slice A n cap] xs) (hlen : n ≤ 1000000) :
    Calls Tryd.prog 59 #[.slice A n cap] w (CopyPost cFile F xs w) := by
  have hT : SlT Tryd.prog 36 87 cFile.size := slT_of (by kernel_rfl)
  have Hn := hidden hn
  have Hh : Hid (∀ W, Mod (fun _ => False) w W → (cSl cFile).rd W (fun b => F b ∧ b < w.heap.size) [.slice A n cap] xs) := hidden fun W hW => (cSl cFile).mod ((cSl cFile).bound h) hW fun _ _ _ q => q
  clear hn h
  go_enter Tryd.func59, Tryd.ntmps59
  go_wp2_with fail
  go_loopw [3, 9] (fun out i wr => ∃ k : Nat, k ≤ n ∧ i = .int .i64 k ∧ Own cFile 87 wr w.heap.size (CopyF w F) out (xs.take k) ∧ Mod (fun _ => False) w wr) (fun _ i _ => n - (intOf i).toNat)
  case atStart => exact ⟨0, Nat.zero_le _, rfl, Own.empty _ _ _ _ _ (Nat.le_refl _), (Mod.refl _ _).alloc _⟩
  case round =>
    obtain ⟨k, hk, rfl, hO, hm⟩ := hrel
    have hz := hm.size
    by_cases hlt : k < n
    · have hkx : k < xs.length := by rw [← Hn.out]; exact hlt
      obtain ⟨x, hx⟩ : ∃ x, xs[k]? = some x := ⟨_, List.getElem?_eq_getElem hkx⟩
      have hrd := Hh.out wr hm
      rw [Hn.out] at hrd
      obtain ⟨b, off, hA, hF, hbl, hr⟩ := cSl_at hrd (by rintro rfl; simp at hkx)
      have Htk : Hid (xs.take (k + 1) = xs.take k ++ [x]) := hidden (by rw [List.take_add_one, hx]; rfl)
      have Hlen : Hid ((xs.take k).length = k) := hidden (by simp; omega)
      obtain ⟨cs, hcs, hc⟩ := hr.get k x hx
      have hcs' := cFile_iff.1 hcs
      obtain ⟨rfl, hok⟩ := hcs'
      have Hy := hidden hcs
      have c0 := hc 0 (by decide)
      have c1 := hc 1 (by decide)
      have c2 := hc 2 (by decide)
      simp only [show cFile.size = 3 from rfl, Nat.add_zero, List.getElem?_cons_zero, List.getElem?_cons_succ] at c0 c1 c2
      subst hA
      have hne : b ≠ wr.heap.size := by omega
      have hblt : b < wr.heap.size := by omega
      have hkn : (k : Int) < n := by omega
      have HO := hidden hO
      have hblk := hidden hO.blk
      have Hm := hidden hm
      clear hO hm hrd hr hc hcs hok hx hF
      go_wp2_with ((with_reducible refine wpList_app1s (o := ⟨some 15, _, _, _, _, _⟩) (c := cFile) (d := 15) (s := .tmp 13) (x := .tmp 14) (v := u3) (y := .agg #[.string x.name, .string x.content, .int .i64 x.time]) hT (cFile.alloc (cFile.bound Hy.out) _) (own_alloc HO.out _) (fun b hb _ => ⟨.inr hb.1, fun q => by have := hblk.out b q.symm; have := hb.1.2; omega⟩) ?_ ?_ ?_ ?_); (simp; omega); (rw [Hlen.out]; omega); exact ⟨⟨rfl, rfl, rfl, rfl, rfl⟩, rfl, rfl, rfl⟩; intro v1 w3 hO3 hm3 hat; have HO3 := hidden hO3; have Hm3 := hidden hm3; clear hO3 hm3 hat)
      go_roundw
      case rel => exact ⟨k + 1, by omega, by go_num, by rw [Htk.out]; exact HO3.out, (Hm.out.alloc _).trans' Hm3.out fun x hx q => by have := hblk.out x q.symm; omega⟩
      case measure => simp [intOf]; omega
    · obtain rfl : k = n := by omega
      rw [List.take_of_length_le (by rw [Hn.out]; exact Nat.le_refl _)] at hO
      have Hfin : Hid (CopyPost cFile F xs w (.returned u3) wr) := hidden ⟨u3, rfl, hO.read (fun _ q => q) (fun _ q => .inl q), hm⟩
      clear hO hm
      go_wp2
      go_ret
      exact Hfin.out

set_option maxHeartbeats 1000000 in
theorem copyOut_calls (A : Option Addr) (cap n : Nat) (w : World) (xs : List POut) (F : Fp) (hn : n = xs.length) (h : (cSl cOut).rd w F [.slice A n cap] xs) (hlen : n ≤ 1000000) :
    Calls Tryd.prog 60 #[.slice A n cap] w (CopyPost cOut F xs w) := by
  have hT : SlT Tryd.prog 38 93 cOut.size := slT_of (by kernel_rfl)
  have Hn := hidden hn
  have Hh : Hid (∀ W, Mod (fun _ => False) w W → (cSl cOut).rd W (fun b => F b ∧ b < w.heap.size) [.slice A n cap] xs) := hidden fun W hW => (cSl cOut).mod ((cSl cOut).bound h) hW fun _ _ _ q => q
  clear hn h
  go_enter Tryd.func60, Tryd.ntmps60
  go_wp2_with fail
  go_loopw [3, 9] (fun out i wr => ∃ k : Nat, k ≤ n ∧ i = .int .i64 k ∧ Own cOut 93 wr w.heap.size (CopyF w F) out (xs.take k) ∧ Mod (fun _ => False) w wr) (fun _ i _ => n - (intOf i).toNat)
  case atStart => exact ⟨0, Nat.zero_le _, rfl, Own.empty _ _ _ _ _ (Nat.le_refl _), (Mod.refl _ _).alloc _⟩
  case round =>
    obtain ⟨k, hk, rfl, hO, hm⟩ := hrel
    have hz := hm.size
    by_cases hlt : k < n
    · have hkx : k < xs.length := by rw [← Hn.out]; exact hlt
      obtain ⟨x, hx⟩ : ∃ x, xs[k]? = some x := ⟨_, List.getElem?_eq_getElem hkx⟩
      have hrd := Hh.out wr hm
      rw [Hn.out] at hrd
      obtain ⟨b, off, hA, hF, hbl, hr⟩ := cSl_at hrd (by rintro rfl; simp at hkx)
      have Htk : Hid (xs.take (k + 1) = xs.take k ++ [x]) := hidden (by rw [List.take_add_one, hx]; rfl)
      have Hlen : Hid ((xs.take k).length = k) := hidden (by simp; omega)
      obtain ⟨cs, hcs, hc⟩ := hr.get k x hx
      have hcs' := cOut_iff.1 hcs
      obtain ⟨rfl, hok⟩ := hcs'
      have Hy := hidden hcs
      have c0 := hc 0 (by decide)
      have c1 := hc 1 (by decide)
      simp only [show cOut.size = 2 from rfl, Nat.add_zero, List.getElem?_cons_zero, List.getElem?_cons_succ] at c0 c1
      subst hA
      have hne : b ≠ wr.heap.size := by omega
      have hblt : b < wr.heap.size := by omega
      have hkn : (k : Int) < n := by omega
      have HO := hidden hO
      have hblk := hidden hO.blk
      have Hm := hidden hm
      clear hO hm hrd hr hc hcs hok hx hF
      go_wp2_with ((with_reducible refine wpList_app1s (o := ⟨some 15, _, _, _, _, _⟩) (c := cOut) (d := 15) (s := .tmp 13) (x := .tmp 14) (v := u3) (y := .agg #[.string x.command, .string x.text]) hT (cOut.alloc (cOut.bound Hy.out) _) (own_alloc HO.out _) (fun b hb _ => ⟨.inr hb.1, fun q => by have := hblk.out b q.symm; have := hb.1.2; omega⟩) ?_ ?_ ?_ ?_); (simp; omega); (rw [Hlen.out]; omega); exact ⟨⟨rfl, rfl, rfl, rfl, rfl⟩, rfl, rfl, rfl⟩; intro v1 w3 hO3 hm3 hat; have HO3 := hidden hO3; have Hm3 := hidden hm3; clear hO3 hm3 hat)
      go_roundw
      case rel => exact ⟨k + 1, by omega, by go_num, by rw [Htk.out]; exact HO3.out, (Hm.out.alloc _).trans' Hm3.out fun x hx q => by have := hblk.out x q.symm; omega⟩
      case measure => simp [intOf]; omega
    · obtain rfl : k = n := by omega
      rw [List.take_of_length_le (by rw [Hn.out]; exact Nat.le_refl _)] at hO
      have Hfin : Hid (CopyPost cOut F xs w (.returned u3) wr) := hidden ⟨u3, rfl, hO.read (fun _ q => q) (fun _ q => .inl q), hm⟩
      clear hO hm
      go_wp2
      go_ret
      exact Hfin.out

set_option maxHeartbeats 1000000 in
theorem copyEff_calls (A : Option Addr) (cap n : Nat) (w : World) (xs : List PEff) (F : Fp) (hn : n = xs.length) (h : (cSl cEff).rd w F [.slice A n cap] xs) (hlen : n ≤ 1000000) :
    Calls Tryd.prog 82 #[.slice A n cap] w (CopyPost cEff F xs w) := by
  have hT : SlT Tryd.prog 94 98 cEff.size := slT_of (by kernel_rfl)
  have Hn := hidden hn
  have Hh : Hid (∀ W, Mod (fun _ => False) w W → (cSl cEff).rd W (fun b => F b ∧ b < w.heap.size) [.slice A n cap] xs) := hidden fun W hW => (cSl cEff).mod ((cSl cEff).bound h) hW fun _ _ _ q => q
  clear hn h
  go_enter Tryd.func82, Tryd.ntmps82
  go_wp2_with fail
  go_loopw [3, 9] (fun out i wr => ∃ k : Nat, k ≤ n ∧ i = .int .i64 k ∧ Own cEff 98 wr w.heap.size (CopyF w F) out (xs.take k) ∧ Mod (fun _ => False) w wr) (fun _ i _ => n - (intOf i).toNat)
  case atStart => exact ⟨0, Nat.zero_le _, rfl, Own.empty _ _ _ _ _ (Nat.le_refl _), (Mod.refl _ _).alloc _⟩
  case round =>
    obtain ⟨k, hk, rfl, hO, hm⟩ := hrel
    have hz := hm.size
    by_cases hlt : k < n
    · have hkx : k < xs.length := by rw [← Hn.out]; exact hlt
      obtain ⟨x, hx⟩ : ∃ x, xs[k]? = some x := ⟨_, List.getElem?_eq_getElem hkx⟩
      have hrd := Hh.out wr hm
      rw [Hn.out] at hrd
      obtain ⟨b, off, hA, hF, hbl, hr⟩ := cSl_at hrd (by rintro rfl; simp at hkx)
      have Htk : Hid (xs.take (k + 1) = xs.take k ++ [x]) := hidden (by rw [List.take_add_one, hx]; rfl)
      have Hlen : Hid ((xs.take k).length = k) := hidden (by simp; omega)
      obtain ⟨cs, hcs, hc⟩ := hr.get k x hx
      have hcs' := cEff_iff.1 hcs
      obtain ⟨rfl, hok⟩ := hcs'
      have Hy := hidden hcs
      have c0 := hc 0 (by decide)
      have c1 := hc 1 (by decide)
      have c2 := hc 2 (by decide)
      simp only [show cEff.size = 3 from rfl, Nat.add_zero, List.getElem?_cons_zero, List.getElem?_cons_succ] at c0 c1 c2
      subst hA
      have hne : b ≠ wr.heap.size := by omega
      have hblt : b < wr.heap.size := by omega
      have hkn : (k : Int) < n := by omega
      have HO := hidden hO
      have hblk := hidden hO.blk
      have Hm := hidden hm
      clear hO hm hrd hr hc hcs hok hx hF
      go_wp2_with ((with_reducible refine wpList_app1s (o := ⟨some 15, _, _, _, _, _⟩) (c := cEff) (d := 15) (s := .tmp 13) (x := .tmp 14) (v := u3) (y := .agg #[.int .i64 x.op, .string x.name, .string x.text]) hT (cEff.alloc (cEff.bound Hy.out) _) (own_alloc HO.out _) (fun b hb _ => ⟨.inr hb.1, fun q => by have := hblk.out b q.symm; have := hb.1.2; omega⟩) ?_ ?_ ?_ ?_); (simp; omega); (rw [Hlen.out]; omega); exact ⟨⟨rfl, rfl, rfl, rfl, rfl⟩, rfl, rfl, rfl⟩; intro v1 w3 hO3 hm3 hat; have HO3 := hidden hO3; have Hm3 := hidden hm3; clear hO3 hm3 hat)
      go_roundw
      case rel => exact ⟨k + 1, by omega, by go_num, by rw [Htk.out]; exact HO3.out, (Hm.out.alloc _).trans' Hm3.out fun x hx q => by have := hblk.out x q.symm; omega⟩
      case measure => simp [intOf]; omega
    · obtain rfl : k = n := by omega
      rw [List.take_of_length_le (by rw [Hn.out]; exact Nat.le_refl _)] at hO
      have Hfin : Hid (CopyPost cEff F xs w (.returned u3) wr) := hidden ⟨u3, rfl, hO.read (fun _ q => q) (fun _ q => .inl q), hm⟩
      clear hO hm
      go_wp2
      go_ret
      exact Hfin.out
end Go.Proofs.YtpfaognjfbilmaaDoor
