/- The walks of the letters and names of layer 13: they answer. -/
import Derived.Test.YthgibbekfcenhaaGreatDoorLongs
import Derived.MapKept
import Derived.MapFrom
namespace Go.Proofs.YthgibbekfcenhaaGreatDoor
open Go.RowKit

/-- Some bool. -/
def SomeB (w : World) (e : Ending) (w' : World) : Prop := ∃ b : Bool, e = .returned (.bool b) ∧ w = w'

set_option maxHeartbeats 1000000 in
theorem letterL_calls (n : Int) (w : World) (h0 : 0 ≤ n) (h1 : n ≤ 255) : Calls Tryz.prog 102 #[.int .u8 n] w (SomeB w) := by
  rcases (by omega : n < 48 ∨ (48 ≤ n ∧ n ≤ 57) ∨ (57 < n ∧ n < 65) ∨ (65 ≤ n ∧ n ≤ 90) ∨ (90 < n ∧ n < 95) ∨ n = 95 ∨ n = 96 ∨ (97 ≤ n ∧ n ≤ 122) ∨ 122 < n) with h | h | h | h | h | h | h | h | h
  all_goals
    (first | have d1 : decide (97 ≤ n) = true := decide_eq_true (by omega) | have d1 : decide (97 ≤ n) = false := decide_eq_false (by omega))
    (first | have d2 : decide (n ≤ 122) = true := decide_eq_true (by omega) | have d2 : decide (n ≤ 122) = false := decide_eq_false (by omega))
    (first | have d3 : decide (65 ≤ n) = true := decide_eq_true (by omega) | have d3 : decide (65 ≤ n) = false := decide_eq_false (by omega))
    (first | have d4 : decide (n ≤ 90) = true := decide_eq_true (by omega) | have d4 : decide (n ≤ 90) = false := decide_eq_false (by omega))
    (first | have d5 : decide (48 ≤ n) = true := decide_eq_true (by omega) | have d5 : decide (48 ≤ n) = false := decide_eq_false (by omega))
    (first | have d6 : decide (n ≤ 57) = true := decide_eq_true (by omega) | have d6 : decide (n ≤ 57) = false := decide_eq_false (by omega))
    clear h
    go_enter Tryz.func102, Tryz.ntmps102
    go_wp2_with fail
    go_ret
    exact ⟨_, rfl, rfl⟩
set_option maxHeartbeats 1000000 in
theorem letterR_calls (n : Int) (w : World) (h0 : 0 ≤ n) (h1 : n ≤ 255) : Calls Tryz.prog 104 #[.int .u8 n] w (SomeB w) := by
  rcases (by omega : n < 48 ∨ (48 ≤ n ∧ n ≤ 57) ∨ (57 < n ∧ n < 65) ∨ (65 ≤ n ∧ n ≤ 90) ∨ (90 < n ∧ n < 95) ∨ n = 95 ∨ n = 96 ∨ (97 ≤ n ∧ n ≤ 122) ∨ 122 < n) with h | h | h | h | h | h | h | h | h
  all_goals
    (first | have d1 : decide (97 ≤ n) = true := decide_eq_true (by omega) | have d1 : decide (97 ≤ n) = false := decide_eq_false (by omega))
    (first | have d2 : decide (n ≤ 122) = true := decide_eq_true (by omega) | have d2 : decide (n ≤ 122) = false := decide_eq_false (by omega))
    (first | have d3 : decide (65 ≤ n) = true := decide_eq_true (by omega) | have d3 : decide (65 ≤ n) = false := decide_eq_false (by omega))
    (first | have d4 : decide (n ≤ 90) = true := decide_eq_true (by omega) | have d4 : decide (n ≤ 90) = false := decide_eq_false (by omega))
    (first | have d5 : decide (48 ≤ n) = true := decide_eq_true (by omega) | have d5 : decide (48 ≤ n) = false := decide_eq_false (by omega))
    (first | have d6 : decide (n ≤ 57) = true := decide_eq_true (by omega) | have d6 : decide (n ≤ 57) = false := decide_eq_false (by omega))
    (first | have d7 : (n == 95) = true := (by simp; omega) | have d7 : (n == 95) = false := (by simp; omega))
    clear h
    go_enter Tryz.func104, Tryz.ntmps104
    go_wp2_with fail
    go_ret
    exact ⟨_, rfl, rfl⟩
set_option maxHeartbeats 1000000 in
theorem run_calls (s : ByteArray) (w : World) (hs : s.size ≤ maxLen) : Calls Tryz.prog 101 #[.string s, .int .i64 0, .func (.func 102) #[] #[]] w (fun e w' => (∃ k : Nat, k ≤ s.size ∧ e = .returned (.int .i64 k)) ∧ w = w') := by
  unfold maxLen at hs
  go_enter Tryz.func101, Tryz.ntmps101
  go_wp2_with fail
  go_loop [7] (fun i => ∃ k : Nat, k ≤ s.size ∧ i = .int .i64 k) (fun i => s.size - (intOf i).toNat)
  case atStart => exact ⟨0, Nat.zero_le _, rfl⟩
  obtain ⟨k, hk, rfl⟩ := hrel
  by_cases hlt : k < s.size
  · have hkn : (k : Int) < s.size := by omega
    have h0k : (0 : Int) ≤ k := by omega
    have hb := s[k].toNat_lt
    go_wp2_with fail
    refine (letterL_calls _ _ (by omega) (by omega)).mono ?_
    rintro e w1 ⟨b, rfl, rfl⟩
    cases b
    · go_wp2_with fail
      go_ret
      exact ⟨⟨_, hk, rfl⟩, rfl⟩
    · go_wp2_with fail
      go_round
      case rel => exact ⟨k + 1, by omega, by go_num⟩
      case measure => simp [intOf]; omega
  · obtain rfl : k = s.size := by omega
    have hkn : ¬ (s.size : Int) < s.size := by omega
    go_wp2_with fail
    go_ret
    exact ⟨⟨_, Nat.le_refl _, rfl⟩, rfl⟩
set_option maxHeartbeats 1000000 in
theorem nameL_calls (s : ByteArray) (w : World) (hs : s.size ≤ maxLen) : Calls Tryz.prog 97 #[.string s] w (SomeB w) := by
  have Hs := hidden hs
  unfold maxLen at hs
  go_enter Tryz.func97, Tryz.ntmps97
  go_wp2_with (go_at_call 101; (with_reducible refine (run_calls s _ Hs.out).mono ?_); rintro e w1 ⟨⟨k, hk, rfl⟩, rfl⟩)
  all_goals
    go_ret
    exact ⟨_, rfl, rfl⟩
set_option maxHeartbeats 1000000 in
theorem checkLong_calls (s : ByteArray) (w : World) : Calls Tryz.prog 96 #[.string s] w (SomeB w) := by
  go_enter Tryz.func96, Tryz.ntmps96
  go_wp2_with fail
  go_ret
  exact ⟨_, rfl, rfl⟩
set_option maxHeartbeats 1000000 in
theorem indexF_calls (A : Option Addr) (n k1 : Nat) (w : World) (F : Fp) (xs : List ByteArray) (hn : n = xs.length) (h : (cSl cStr).rd w F [.slice A n k1] xs) (hlen : n ≤ 1000000) :
    Calls Tryz.prog 103 #[.slice A n k1, .func (.func 96) #[] #[]] w (fun e w' => (∃ z : Int, e = .returned (.int .i64 z)) ∧ w = w') := by
  have Hn := hidden hn
  have Hx := hidden h
  clear hn h
  go_enter Tryz.func103, Tryz.ntmps103
  go_wp2_with fail
  go_loop [8] (fun i => ∃ k : Nat, k ≤ n ∧ i = .int .i64 k) (fun i => n - (intOf i).toNat)
  case atStart => exact ⟨0, Nat.zero_le _, rfl⟩
  obtain ⟨k, hk, rfl⟩ := hrel
  by_cases hlt : k < n
  case pos =>
    have hkx : k < xs.length := by rw [← Hn.out]; exact hlt
    obtain ⟨x, hx⟩ : ∃ x, xs[k]? = some x := ⟨_, List.getElem?_eq_getElem hkx⟩
    have hrx := Hx.out
    rw [Hn.out] at hrx
    obtain ⟨bx, offx, hA, _, _, hrx⟩ := cSl_at hrx (by rintro rfl; simp at hkx)
    obtain ⟨cs, ⟨rfl, hxs⟩, hcx⟩ := hrx.get k x hx
    have c0 := hcx 0 (by decide)
    simp only [show cStr.size = 1 from rfl, Nat.mul_one, Nat.add_zero, List.getElem?_cons_zero] at c0
    subst hA
    have hkn : (k : Int) < n := by omega
    have h0k : (0 : Int) ≤ k := by omega
    clear hrx hcx hx
    go_wp2_with fail
    refine (checkLong_calls x _).mono ?_
    rintro e w1 ⟨b, rfl, rfl⟩
    cases b
    · go_wp2_with fail
      go_round
      case rel => exact ⟨k + 1, by omega, by go_num⟩
      case measure => simp [intOf]; omega
    · go_wp2_with fail
      go_ret
      exact ⟨⟨_, rfl⟩, rfl⟩
  obtain rfl : k = n := by omega
  have hkn : ¬ (k : Int) < k := by omega
  go_wp2_with fail
  go_ret
  exact ⟨⟨_, rfl⟩, rfl⟩
set_option maxHeartbeats 1000000 in
theorem containsF_calls (A : Option Addr) (n k1 : Nat) (w : World) (F : Fp) (xs : List ByteArray) (hn : n = xs.length) (h : (cSl cStr).rd w F [.slice A n k1] xs) (hlen : n ≤ 1000000) :
    Calls Tryz.prog 98 #[.slice A n k1, .func (.func 96) #[] #[]] w (SomeB w) := by
  have Hc := hidden (indexF_calls A n k1 w F xs hn h hlen)
  clear hn h
  go_enter Tryz.func98, Tryz.ntmps98
  go_wp2_with fail
  refine Hc.out.mono ?_
  rintro e w1 ⟨⟨z, rfl⟩, rfl⟩
  go_wp2_with fail
  go_ret
  exact ⟨_, rfl, rfl⟩
set_option maxHeartbeats 1000000 in
theorem nameR_calls (s : ByteArray) (w : World) (hs : s.size ≤ maxLen) : Calls Tryz.prog 100 #[.string s] w (SomeB w) := by
  unfold maxLen at hs
  go_enter Tryz.func100, Tryz.ntmps100
  go_wp2_with fail
  go_loop [3] (fun i => ∃ k : Nat, k ≤ s.size ∧ i = .int .i64 k) (fun i => s.size - (intOf i).toNat)
  case atStart => exact ⟨0, Nat.zero_le _, rfl⟩
  obtain ⟨k, hk, rfl⟩ := hrel
  by_cases hlt : k < s.size
  · have hkn : (k : Int) < s.size := by omega
    have h0k : (0 : Int) ≤ k := by omega
    have hb := s[k].toNat_lt
    go_wp2_with fail
    refine (letterR_calls _ _ (by omega) (by omega)).mono ?_
    rintro e w1 ⟨b, rfl, rfl⟩
    cases b
    · go_wp2_with fail
      go_ret
      exact ⟨_, rfl, rfl⟩
    · go_wp2_with fail
      go_round
      case rel => exact ⟨k + 1, by omega, by go_num⟩
      case measure => simp [intOf]; omega
  · obtain rfl : k = s.size := by omega
    have hkn : ¬ (s.size : Int) < s.size := by omega
    by_cases h1 : (0 : Int) < s.size
    · go_wp2_with fail
      go_ret
      exact ⟨_, rfl, rfl⟩
    · go_wp2_with fail
      go_ret
      exact ⟨_, rfl, rfl⟩
end Go.Proofs.YthgibbekfcenhaaGreatDoor
namespace Go.Proofs.YthgibbekfcenhaaGreatDoor
open Go.RowKit

/-- The errors that stand in variables. -/
def ErrAt (W : World) (g : Nat) : Prop := ∃ t x, W.cell? ⟨g, 0, none⟩ = some (.iface t x)
structure Errs (W : World) : Prop where
  form : ErrAt W 0
  full : ErrAt W 9
  name : ErrAt W 3
  range : ErrAt W 1
  long : ErrAt W 2
theorem ErrAt.lt {W : World} {g : Nat} (h : ErrAt W g) : g < W.heap.size := by
  obtain ⟨t, x, h⟩ := h
  rcases Nat.lt_or_ge g W.heap.size with h1 | h1
  · exact h1
  · simp [World.cell?, Array.getElem?_eq_none h1] at h
theorem ErrAt.mod {S : Fp} {W W' : World} {g : Nat} (h : ErrAt W g) (hm : Mod S W W') (hg : ¬ S g) : ErrAt W' g := by
  have hl := h.lt
  obtain ⟨t, x, h⟩ := h
  exact ⟨t, x, (World.cell?_of_block (a := ⟨g, 0, none⟩) (hm.block g hl hg)).trans h⟩
/-- Some error. -/
def IsErr (u : Value) : Prop := u = .nilIface ∨ ∃ t x, u = .iface t x
def SomeErr (w : World) (e : Ending) (w' : World) : Prop := ∃ u, e = .returned u ∧ IsErr u ∧ Mod (fun _ => False) w w'

/-- Block b is a map of variables. -/
def VarEntry (x : MapEntry) : Prop := (∃ s : ByteArray, x.key = .string s) ∧ ∃ (n : ByteArray) (A : Option Addr) (k c : Nat) (l : Int) (h : Bool), x.val = .agg #[.string n, .slice A k c, .int .i64 l, .bool h]
def IsVars (W : World) (b : Nat) : Prop := ∃ es clock, W.heap[b]? = some (.map es clock) ∧ ∀ x ∈ es.toList, VarEntry x
theorem isVars_mod {S : Fp} {W W' : World} {b : Nat} (h : IsVars W b) (hm : Mod S W W') (hb : ¬ S b) : IsVars W' b := by
  obtain ⟨es, clock, h1, h2⟩ := h
  exact ⟨es, clock, hm.heap h1 hb, h2⟩
theorem zeroVar (W : World) : (zeroValue 98).run Tryz.prog W = .ok (.agg #[.string ⟨#[]⟩, .slice none 0 0, .int .i64 0, .bool false]) W := by kernel_rfl
theorem keyed {es : Array MapEntry} (h : ∀ x ∈ es.toList, VarEntry x) : ∀ x ∈ es.toList, MapKept.IsKey .string x.key := fun x hx => by
  obtain ⟨⟨s, hs⟩, _⟩ := h x hx
  rw [hs]; trivial
theorem vars_lookup {W : World} {b : Nat} (h : IsVars W b) (s : ByteArray) : ∃ (n : ByteArray) (A : Option Addr) (k c : Nat) (l : Int) (hd there : Bool), ∀ W' : World, W'.heap[b]? = W.heap[b]? →
    (Instr.lookup 170 (.map (some b)) (.string s) true).run Tryz.prog W' = .ok (.tuple #[.agg #[.string n, .slice A k c, .int .i64 l, .bool hd], .bool there]) W' := by
  obtain ⟨es, clock, hb, hes⟩ := h
  have hk : MapKept.IsKey .string (.string s) := trivial
  rcases MapKept.findNow_spec hk es.toList 0 (keyed hes) with ⟨h1, _⟩ | ⟨j, e, h1, h2, _⟩
  · refine ⟨⟨#[]⟩, none, 0, 0, 0, false, false, fun W' hW => ?_⟩
    rw [hb] at hW
    simp [Instr.lookup, run_underlying Tryz.underlying170, MapKept.run_getObj_map hW, MapKept.run_checkKey Tryz.underlying9 hk, MapKept.run_findKey Tryz.underlying9 h1, Result.andThen]
  · obtain ⟨_, n, A, k, c, l, hd, hv⟩ := hes e (List.mem_of_getElem? h2)
    refine ⟨n, A, k, c, l, hd, true, fun W' hW => ?_⟩
    rw [hb] at hW
    simp [Instr.lookup, run_underlying Tryz.underlying170, MapKept.run_getObj_map hW, MapKept.run_checkKey Tryz.underlying9 hk, MapKept.run_findKey Tryz.underlying9 h1, Result.andThen, hv]
theorem mod_set {W : World} {b : Nat} (o : Obj) : Mod (· = b) W { W with heap := W.heap.setIfInBounds b o } :=
  ⟨rfl, rfl, rfl, by simp, fun k _ hn => by simp [Ne.symm hn]⟩
theorem vars_update {W : World} {b : Nat} (h : IsVars W b) (s n : ByteArray) (A : Option Addr) (k c : Nat) (l : Int) (hd : Bool) : ∃ W',
    (Instr.mapUpdate 170 (.map (some b)) (.string s) (.agg #[.string n, .slice A k c, .int .i64 l, .bool hd])).run Tryz.prog W = .ok () W' ∧ IsVars W' b ∧ Mod (· = b) W W' := by
  obtain ⟨es, clock, hb, hes⟩ := h
  have hk : MapKept.IsKey .string (.string s) := trivial
  rcases MapKept.findNow_spec hk es.toList 0 (keyed hes) with ⟨h1, _⟩ | ⟨j, e, h1, h2, h3⟩
  · refine ⟨_, ?_, ⟨_, _, (MapKept.heap_set hb).1, ?_⟩, mod_set (.map (es.push { key := .string s, val := .agg #[.string n, .slice A k c, .int .i64 l, .bool hd], born := clock }) (clock + 1))⟩
    · simp [Instr.mapUpdate, run_underlying Tryz.underlying170, MapKept.run_getObj_map hb, MapKept.run_checkKey Tryz.underlying9 hk, MapKept.run_findKey Tryz.underlying9 h1, MapKept.run_setObj_map _ hb, Result.andThen]
    · intro x hx
      rw [Array.toList_push, List.mem_append] at hx
      rcases hx with hx | hx
      · exact hes x hx
      · simp at hx
        subst hx
        exact ⟨⟨s, rfl⟩, n, A, k, c, l, hd, rfl⟩
  · have hj : es[j]? = some e := by simpa using h2
    refine ⟨_, ?_, ⟨_, _, (MapKept.heap_set hb).1, ?_⟩, mod_set (.map (es.modify j fun e => { e with key := .string s, val := .agg #[.string n, .slice A k c, .int .i64 l, .bool hd] }) clock)⟩
    · simp [Instr.mapUpdate, run_underlying Tryz.underlying170, MapKept.run_getObj_map hb, MapKept.run_checkKey Tryz.underlying9 hk, MapKept.run_findKey Tryz.underlying9 h1, hj, h3, MapKept.run_keyThatStays hk, MapKept.run_setObj_map _ hb, Result.andThen]
    · intro x hx
      have hp : MapFrom.Passes (fun q => ∃ s : ByteArray, q = .string s) (fun q => ∃ (n : ByteArray) (A : Option Addr) (k c : Nat) (l : Int) (h : Bool), q = .agg #[.string n, .slice A k c, .int .i64 l, .bool h]) es := hes
      exact MapFrom.passes_modify hp j (fun e => { e with key := .string s, val := .agg #[.string n, .slice A k c, .int .i64 l, .bool hd] }) (fun _ _ => ⟨⟨s, rfl⟩, n, A, k, c, l, hd, rfl⟩) x hx

/-- Block g is an Env over the map in block b. -/
def EnvAt (W : World) (g b : Nat) : Prop := W.heap[g]? = some (.cells #[.map (some b)] 172 (0, 0)) ∧ IsVars W b

set_option maxHeartbeats 1000000 in
theorem envNew_calls (w : World) : Calls Tryz.prog 55 #[] w (fun e w' => ∃ g b, e = .returned (.pointer (some ⟨g, 0, none⟩)) ∧ EnvAt w' g b ∧ w.heap.size ≤ g ∧ w.heap.size ≤ b ∧ Mod (fun _ => False) w w') := by
  have hmm := @run_makeMap Tryz.prog
  go_enter Tryz.func55, Tryz.ntmps55
  go_wp2_with fail
  go_ret
  have h2 := heap_alloc_new (w.alloc (.map #[] 0)) (.cells #[.map (some w.heap.size)] 172)
  rw [World.size_alloc] at h2
  refine ⟨w.heap.size + 1, w.heap.size, rfl, ⟨h2, #[], 0, hmx (heap_alloc_new w (.map #[] 0)) _, by simp⟩, by omega, Nat.le_refl _, ((Mod.refl _ _).alloc _).alloc _⟩
end Go.Proofs.YthgibbekfcenhaaGreatDoor
