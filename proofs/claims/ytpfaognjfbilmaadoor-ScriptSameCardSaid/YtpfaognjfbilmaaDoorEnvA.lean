/- The walks of the letters and names of layer 13: they answer. -/
import Derived.Test.YtpfaognjfbilmaaDoorLongs
namespace Go.Proofs.YtpfaognjfbilmaaDoor
open Go.RowKit

/-- Some bool. -/
def SomeB (w : World) (e : Ending) (w' : World) : Prop := ∃ b : Bool, e = .returned (.bool b) ∧ w = w'

set_option maxHeartbeats 1000000 in
theorem letterL_calls (n : Int) (w : World) (h0 : 0 ≤ n) (h1 : n ≤ 255) : Calls Tryd.prog 98 #[.int .u8 n] w (SomeB w) := by
  rcases (by omega : n < 48 ∨ (48 ≤ n ∧ n ≤ 57) ∨ (57 < n ∧ n < 65) ∨ (65 ≤ n ∧ n ≤ 90) ∨ (90 < n ∧ n < 95) ∨ n = 95 ∨ n = 96 ∨ (97 ≤ n ∧ n ≤ 122) ∨ 122 < n) with h | h | h | h | h | h | h | h | h
  all_goals
    (first | have d1 : decide (97 ≤ n) = true := decide_eq_true (by omega) | have d1 : decide (97 ≤ n) = false := decide_eq_false (by omega))
    (first | have d2 : decide (n ≤ 122) = true := decide_eq_true (by omega) | have d2 : decide (n ≤ 122) = false := decide_eq_false (by omega))
    (first | have d3 : decide (65 ≤ n) = true := decide_eq_true (by omega) | have d3 : decide (65 ≤ n) = false := decide_eq_false (by omega))
    (first | have d4 : decide (n ≤ 90) = true := decide_eq_true (by omega) | have d4 : decide (n ≤ 90) = false := decide_eq_false (by omega))
    (first | have d5 : decide (48 ≤ n) = true := decide_eq_true (by omega) | have d5 : decide (48 ≤ n) = false := decide_eq_false (by omega))
    (first | have d6 : decide (n ≤ 57) = true := decide_eq_true (by omega) | have d6 : decide (n ≤ 57) = false := decide_eq_false (by omega))
    clear h
    go_enter Tryd.func98, Tryd.ntmps98
    go_wp2_with fail
    go_ret
    exact ⟨_, rfl, rfl⟩
set_option maxHeartbeats 1000000 in
theorem letterR_calls (n : Int) (w : World) (h0 : 0 ≤ n) (h1 : n ≤ 255) : Calls Tryd.prog 100 #[.int .u8 n] w (SomeB w) := by
  rcases (by omega : n < 48 ∨ (48 ≤ n ∧ n ≤ 57) ∨ (57 < n ∧ n < 65) ∨ (65 ≤ n ∧ n ≤ 90) ∨ (90 < n ∧ n < 95) ∨ n = 95 ∨ n = 96 ∨ (97 ≤ n ∧ n ≤ 122) ∨ 122 < n) with h | h | h | h | h | h | h | h | h
  all_goals
    (first | have d1 : decide (97 ≤ n) = true := decide_eq_true (by omega) | have d1 : decide (97 ≤ n) = false := decide_eq_false (by omega))
    (first | have d2 : decide (n ≤ 122) = true := decide_eq_true (by omega) | have d2 : decide (n ≤ 122) = false := decide_eq_false (by omega))
    (first | have d3 : decide (65 ≤ n) = true := decide_eq_true (by omega) | have d3 : decide (65 ≤ n) = false := decide_eq_false (by omega))
    (first | have d4 : decide (n ≤ 90) = true := decide_eq_true (by omega) | have d4 : decide (n ≤ 90) = false := decide_eq_false (by omega))
    (first | have d5 : decide (48 ≤ n) = true := decide_eq_true (by omega) | have d5 : decide (48 ≤ n) = false := decide_eq_false (by omega))
    (first | have d6 : decide (n ≤ 57) = true := decide_eq_true (by omega) | have d6 : decide (n ≤ 57) = false := decide_eq_false (by omega))
    (first | have d7 : (n == 95) = true := (by simp; omega) | have d7 : (n == 95) = false := (by simp; omega))
    clear h
    go_enter Tryd.func100, Tryd.ntmps100
    go_wp2_with fail
    go_ret
    exact ⟨_, rfl, rfl⟩
set_option maxHeartbeats 1000000 in
theorem run_calls (s : ByteArray) (w : World) (hs : s.size ≤ maxLen) : Calls Tryd.prog 97 #[.string s, .int .i64 0, .func (.func 98) #[] #[]] w (fun e w' => (∃ k : Nat, k ≤ s.size ∧ e = .returned (.int .i64 k)) ∧ w = w') := by
  unfold maxLen at hs
  go_enter Tryd.func97, Tryd.ntmps97
  go_wp2_with fail
  go_loop [7] (fun i => ∃ k : Nat, k ≤ s.size ∧ i = .int .i64 k) (fun i => s.size - (intOf i).toNat)
  case atStart => exact ⟨0, Nat.zero_le _, rfl⟩
  obtain ⟨k, hk, rfl⟩ := hrel
  by_cases hlt : k < s.size
  · have hkn : (k : Int) < s.size := by omega
    have h0k : (0 : Int) ≤ k := by omega
    have hb := s[k].toNat_lt
    go_wp2_with fail
    refine (letterL_calls _ _ (by omega) (by omega)).mono ?_
    rintro e w1 ⟨b, rfl, rfl⟩
    cases b
    · go_wp2_with fail
      go_ret
      exact ⟨⟨_, hk, rfl⟩, rfl⟩
    · go_wp2_with fail
      go_round
      case rel => exact ⟨k + 1, by omega, by go_num⟩
      case measure => simp [intOf]; omega
  · obtain rfl : k = s.size := by omega
    have hkn : ¬ (s.size : Int) < s.size := by omega
    go_wp2_with fail
    go_ret
    exact ⟨⟨_, Nat.le_refl _, rfl⟩, rfl⟩
set_option maxHeartbeats 1000000 in
theorem nameL_calls (s : ByteArray) (w : World) (hs : s.size ≤ maxLen) : Calls Tryd.prog 93 #[.string s] w (SomeB w) := by
  have Hs := hidden hs
  unfold maxLen at hs
  go_enter Tryd.func93, Tryd.ntmps93
  go_wp2_with (go_at_call 97; (with_reducible refine (run_calls s _ Hs.out).mono ?_); rintro e w1 ⟨⟨k, hk, rfl⟩, rfl⟩)
  all_goals
    go_ret
    exact ⟨_, rfl, rfl⟩
set_option maxHeartbeats 1000000 in
theorem checkLong_calls (s : ByteArray) (w : World) : Calls Tryd.prog 92 #[.string s] w (SomeB w) := by
  go_enter Tryd.func92, Tryd.ntmps92
  go_wp2_with fail
  go_ret
  exact ⟨_, rfl, rfl⟩
set_option maxHeartbeats 1000000 in
theorem indexF_calls (A : Option Addr) (n k1 : Nat) (w : World) (F : Fp) (xs : List ByteArray) (hn : n = xs.length) (h : (cSl cStr).rd w F [.slice A n k1] xs) (hlen : n ≤ 1000000) :
    Calls Tryd.prog 99 #[.slice A n k1, .func (.func 92) #[] #[]] w (fun e w' => (∃ z : Int, e = .returned (.int .i64 z)) ∧ w = w') := by
  have Hn := hidden hn
  have Hx := hidden h
  clear hn h
  go_enter Tryd.func99, Tryd.ntmps99
  go_wp2_with fail
  go_loop [8] (fun i => ∃ k : Nat, k ≤ n ∧ i = .int .i64 k) (fun i => n - (intOf i).toNat)
  case atStart => exact ⟨0, Nat.zero_le _, rfl⟩
  obtain ⟨k, hk, rfl⟩ := hrel
  by_cases hlt : k < n
  case pos =>
    have hkx : k < xs.length := by rw [← Hn.out]; exact hlt
    obtain ⟨x, hx⟩ : ∃ x, xs[k]? = some x := ⟨_, List.getElem?_eq_getElem hkx⟩
    have hrx := Hx.out
    rw [Hn.out] at hrx
    obtain ⟨bx, offx, hA, _, _, hrx⟩ := cSl_at hrx (by rintro rfl; simp at hkx)
    obtain ⟨cs, ⟨rfl, hxs⟩, hcx⟩ := hrx.get k x hx
    have c0 := hcx 0 (by decide)
    simp only [show cStr.size = 1 from rfl, Nat.mul_one, Nat.add_zero, List.getElem?_cons_zero] at c0
    subst hA
    have hkn : (k : Int) < n := by omega
    have h0k : (0 : Int) ≤ k := by omega
    clear hrx hcx hx
    go_wp2_with fail
    refine (checkLong_calls x _).mono ?_
    rintro e w1 ⟨b, rfl, rfl⟩
    cases b
    · go_wp2_with fail
      go_round
      case rel => exact ⟨k + 1, by omega, by go_num⟩
      case measure => simp [intOf]; omega
    · go_wp2_with fail
      go_ret
      exact ⟨⟨_, rfl⟩, rfl⟩
  obtain rfl : k = n := by omega
  have hkn : ¬ (k : Int) < k := by omega
  go_wp2_with fail
  go_ret
  exact ⟨⟨_, rfl⟩, rfl⟩
set_option maxHeartbeats 1000000 in
theorem containsF_calls (A : Option Addr) (n k1 : Nat) (w : World) (F : Fp) (xs : List ByteArray) (hn : n = xs.length) (h : (cSl cStr).rd w F [.slice A n k1] xs) (hlen : n ≤ 1000000) :
    Calls Tryd.prog 94 #[.slice A n k1, .func (.func 92) #[] #[]] w (SomeB w) := by
  have Hc := hidden (indexF_calls A n k1 w F xs hn h hlen)
  clear hn h
  go_enter Tryd.func94, Tryd.ntmps94
  go_wp2_with fail
  refine Hc.out.mono ?_
  rintro e w1 ⟨⟨z, rfl⟩, rfl⟩
  go_wp2_with fail
  go_ret
  exact ⟨_, rfl, rfl⟩
set_option maxHeartbeats 1000000 in
theorem nameR_calls (s : ByteArray) (w : World) (hs : s.size ≤ maxLen) : Calls Tryd.prog 96 #[.string s] w (SomeB w) := by
  unfold maxLen at hs
  go_enter Tryd.func96, Tryd.ntmps96
  go_wp2_with fail
  go_loop [3] (fun i => ∃ k : Nat, k ≤ s.size ∧ i = .int .i64 k) (fun i => s.size - (intOf i).toNat)
  case atStart => exact ⟨0, Nat.zero_le _, rfl⟩
  obtain ⟨k, hk, rfl⟩ := hrel
  by_cases hlt : k < s.size
  · have hkn : (k : Int) < s.size := by omega
    have h0k : (0 : Int) ≤ k := by omega
    have hb := s[k].toNat_lt
    go_wp2_with fail
    refine (letterR_calls _ _ (by omega) (by omega)).mono ?_
    rintro e w1 ⟨b, rfl, rfl⟩
    cases b
    · go_wp2_with fail
      go_ret
      exact ⟨_, rfl, rfl⟩
    · go_wp2_with fail
      go_round
      case rel => exact ⟨k + 1, by omega, by go_num⟩
      case measure => simp [intOf]; omega
  · obtain rfl : k = s.size := by omega
    have hkn : ¬ (s.size : Int) < s.size := by omega
    by_cases h1 : (0 : Int) < s.size
    · go_wp2_with fail
      go_ret
      exact ⟨_, rfl, rfl⟩
    · go_wp2_with fail
      go_ret
      exact ⟨_, rfl, rfl⟩
end Go.Proofs.YtpfaognjfbilmaaDoor
