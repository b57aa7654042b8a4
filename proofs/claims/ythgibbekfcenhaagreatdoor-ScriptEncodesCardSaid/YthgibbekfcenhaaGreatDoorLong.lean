/- The walk of num.Long: a list of texts that is too long. -/
import Derived.Test.YthgibbekfcenhaaGreatDoorSameC
namespace Go.Proofs.YthgibbekfcenhaaGreatDoor
open Go.RowKit

theorem all_step {α : Type} {ok : α → Bool} {xs : List α} {k : Nat} {x : α} (hx : xs[k]? = some x) : (xs.take (k + 1)).all ok = ((xs.take k).all ok && ok x) := by
  rw [List.take_add_one, hx]
  simp [List.all_append]
theorem all_not {α : Type} {ok : α → Bool} {xs : List α} {k : Nat} {x : α} (hx : xs[k]? = some x) (h : ok x = false) : xs.all ok = false := by
  rw [List.all_eq_false]
  exact ⟨x, List.mem_of_getElem? hx, by simp [h]⟩
theorem all_full {α : Type} {ok : α → Bool} {xs : List α} {n : Nat} (hn : n = xs.length) (h : (xs.take n).all ok = true) : xs.all ok = true := by
  rwa [List.take_of_length_le (by omega)] at h

set_option maxHeartbeats 1000000 in
theorem long_calls (A : Option Addr) (n k1 : Nat) (a b : Int) (M m : Nat) (ha : a = (M : Int)) (hb : b = (m : Int)) (w : World) (F : Fp) (xs : List ByteArray) (hn : n = xs.length) (h : (cSl cStr).rd w F [.slice A n k1] xs) (hlen : n ≤ 1000000) (_hM : M ≤ 1000000) (_hm : m ≤ 1000000) :
    Calls Tryz.prog 20 #[.slice A n k1, .int .i64 a, .int .i64 b] w (BoolPost (!okMany M (okText m) xs) w) := by
  have Hn := hidden hn
  have Hx : Hid (∀ W, Mod (fun _ => False) w W → (cSl cStr).rd W F [.slice A n k1] xs) := hidden fun W hW => (cSl cStr).mod h hW fun _ _ _ q => q
  clear hn h
  by_cases hnM : n ≤ M
  · have hd : decide (a < (n : Int)) = false := decide_eq_false (by omega)
    go_enter Tryz.func20, Tryz.ntmps20
    go_wp2_with fail
    go_loopw [15] (fun i wr => ∃ k : Nat, k ≤ n ∧ i = .int .i64 k ∧ (xs.take k).all (okText m) = true ∧ Mod (fun _ => False) w wr) (fun i _ => n - (intOf i).toNat)
    case atStart => exact ⟨0, Nat.zero_le _, rfl, rfl, Mod.refl _ _⟩
    obtain ⟨k, hk, rfl, htk, hmod⟩ := hrel
    have Htk := hidden htk
    have Hmod := hidden hmod
    clear htk hmod
    by_cases hlt : k < n
    case pos =>
      have hkx : k < xs.length := by rw [← Hn.out]; exact hlt
      obtain ⟨x, hx⟩ : ∃ x, xs[k]? = some x := ⟨_, List.getElem?_eq_getElem hkx⟩
      have hrx := Hx.out wr Hmod.out
      rw [Hn.out] at hrx
      obtain ⟨bx, offx, hA, _, _, hrx⟩ := cSl_at hrx (by rintro rfl; simp at hkx)
      obtain ⟨cs, ⟨rfl, hxs⟩, hcx⟩ := hrx.get k x hx
      have c0 := hcx 0 (by decide)
      simp only [show cStr.size = 1 from rfl, Nat.mul_one, Nat.add_zero, List.getElem?_cons_zero] at c0
      subst hA
      have hkn : (k : Int) < n := by omega
      have h0k : (0 : Int) ≤ k := by omega
      have Hst := hidden (all_step (ok := okText m) hx)
      have Hno := hidden (all_not (ok := okText m) hx)
      clear hrx hcx hx
      by_cases hxy : x.size ≤ m
      · have hc : decide (b < (x.size : Int)) = false := decide_eq_false (by omega)
        have Hok : Hid (okText m x = true) := hidden (decide_eq_true hxy)
        go_wp2_with fail
        go_roundw
        case rel => exact ⟨k + 1, by omega, by go_num, by rw [Hst.out, Htk.out, Hok.out]; rfl, Hmod.out⟩
        case measure => simp [intOf]; omega
      · have hc : decide (b < (x.size : Int)) = true := decide_eq_true (by omega)
        have Hok := hidden (Hno.out (decide_eq_false hxy))
        go_wp2_with fail
        go_ret
        exact ⟨by unfold okMany; rw [Hok.out, Bool.and_false]; rfl, Hmod.out⟩
    obtain rfl : k = n := by omega
    have Hall := hidden (all_full Hn.out Htk.out)
    have hkn : ¬ (k : Int) < k := by omega
    go_wp2_with fail
    go_ret
    exact ⟨by unfold okMany; rw [Hall.out, show decide (xs.length ≤ M) = true from decide_eq_true (by rw [← Hn.out]; exact hnM)]; rfl, Hmod.out⟩
  · have hd : decide (a < (n : Int)) = true := decide_eq_true (by omega)
    go_enter Tryz.func20, Tryz.ntmps20
    go_wp2_with fail
    go_ret
    exact ⟨by unfold okMany; rw [show decide (xs.length ≤ M) = false from decide_eq_false (by rw [← Hn.out]; exact hnM)]; rfl, Mod.refl _ _⟩
end Go.Proofs.YthgibbekfcenhaaGreatDoor
