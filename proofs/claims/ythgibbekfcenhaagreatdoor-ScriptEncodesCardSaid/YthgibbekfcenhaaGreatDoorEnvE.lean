/- The walks of the document's Env: Check, At: they answer. -/
import Derived.Test.YthgibbekfcenhaaGreatDoorEnvD
namespace Go.Proofs.YthgibbekfcenhaaGreatDoor
open Go.RowKit

/-- A variable by its cells alone. -/
structure PHdr where
  name : ByteArray
  base : Option Addr
  len : Nat
  cap : Nat
  level : Int
  hidden : Bool
def cHdr : Cd PHdr where
  size := 4
  rd _ _ cs x := cs = [.string x.name, .slice x.base x.len x.cap, .int .i64 x.level, .bool x.hidden]
  len h := by rw [h]; rfl
  one h := by rw [h]; simp [Value.oneCell']
  keep h _ := h
/-- Some int. -/
def SomeI (w : World) (e : Ending) (w' : World) : Prop := (∃ z : Int, e = .returned (.int .i64 z)) ∧ Mod (fun _ => False) w w'

set_option maxRecDepth 10000 in
set_option maxHeartbeats 1000000 in
theorem refCheck_calls (w : World) (F : Fp) (v : PVar) (a1 a2 a3 a4 : Value) (h : cVar.rd w F [a1, a2, a3, a4] v) (hlen : v.words.length ≤ 1000) :
    Calls Tryz.prog 88 #[.agg #[a1, a2, a3, a4]] w (SomeI w) := by
  obtain ⟨A, k1, rfl, rfl, rfl, rfl, hx⟩ := var_cells h
  have hsz : v.name.size ≤ maxLen := by
    obtain ⟨p, q, he, ⟨rfl, hs⟩, _⟩ := h
    exact hs
  obtain ⟨vn, vw, vl, vh⟩ := v
  simp only at *
  have Hx : Hid (∀ o, (cSl cStr).rd (w.alloc o) F [.slice A vw.length k1] vw) := hidden fun o => (cSl cStr).alloc hx o
  have Hm : Hid (∀ o, Mod (fun _ => False) w (w.alloc o)) := hidden fun o => (Mod.refl _ _).alloc _
  clear h hx
  generalize hn : vw.length = n at *
  have Hn := hidden hn.symm
  have Hsz := hidden hsz
  clear hn hsz
  go_enter Tryz.func88, Tryz.ntmps88
  go_wp2_with fail
  refine (nameR_calls vn _ Hsz.out).mono ?_
  rintro e w1 ⟨b, rfl, rfl⟩
  cases b
  · go_wp2_with fail
    go_ret
    exact ⟨⟨_, rfl⟩, Hm.out _⟩
  by_cases hl : vl = 0 ∨ vl = 1 ∨ vl = 2
  case neg =>
    have d0 : (vl != 0) = true := by simp; omega
    have d1 : (vl != 1) = true := by simp; omega
    have d2 : (vl != 2) = true := by simp; omega
    clear hl
    go_wp2_with fail
    go_ret
    exact ⟨⟨_, rfl⟩, Hm.out _⟩
  rcases hl with hl | hl | hl
  all_goals
    (first | have d0 : (vl != 0) = true := by (simp; omega) | have d0 : (vl != 0) = false := by (simp; omega))
    (first | have d1 : (vl != 1) = true := by (simp; omega) | have d1 : (vl != 1) = false := by (simp; omega))
    (first | have d2 : (vl != 2) = true := by (simp; omega) | have d2 : (vl != 2) = false := by (simp; omega))
    clear hl
    by_cases h3 : (40 : Int) < n
    case pos =>
      go_wp2_with fail
      go_ret
      exact ⟨⟨_, rfl⟩, Hm.out _⟩
    go_wp2_with fail
    go_loop [29] (fun i => ∃ k : Nat, k ≤ n ∧ i = .int .i64 k) (fun i => n - (intOf i).toNat)
    case atStart => exact ⟨0, Nat.zero_le _, rfl⟩
    obtain ⟨k, hk, rfl⟩ := hrel
    by_cases hlt : k < n
    case pos =>
      have hkx : k < vw.length := by rw [← Hn.out]; exact hlt
      obtain ⟨x, hx⟩ : ∃ x, vw[k]? = some x := ⟨_, List.getElem?_eq_getElem hkx⟩
      have hrx := Hx.out (.cells #[.string vn, .slice A n k1, .int .i64 vl, .bool vh] 72)
      rw [Hn.out] at hrx
      obtain ⟨bx, offx, hA, _, _, hrx⟩ := cSl_at hrx (by rintro rfl; simp at hkx)
      obtain ⟨cs, ⟨rfl, hxs⟩, hcx⟩ := hrx.get k x hx
      have c0 := hcx 0 (by decide)
      simp only [show cStr.size = 1 from rfl, Nat.mul_one, Nat.add_zero, List.getElem?_cons_zero] at c0
      subst hA
      have hkn : (k : Int) < n := by omega
      have h0k : (0 : Int) ≤ k := by omega
      rw [← Hn.out] at c0
      clear hrx hcx hx
      by_cases h4 : (120 : Int) < (x.size : Int)
      · go_wp2_with fail
        go_ret
        exact ⟨⟨_, rfl⟩, Hm.out _⟩
      · go_wp2_with fail
        go_round
        case rel => exact ⟨k + 1, by omega, by go_num⟩
        case measure => simp [intOf]; omega
    obtain rfl : k = n := by omega
    have hkn : ¬ (k : Int) < k := by omega
    go_wp2_with fail
    go_ret
    exact ⟨⟨_, rfl⟩, Hm.out _⟩

set_option maxHeartbeats 1000000 in
theorem refAt_calls (w : World) (F : Fp) (g : Nat) (A : Option Addr) (n k1 : Nat) (xs : List PHdr) (s : ByteArray) (hg : w.heap[g]? = some (.cells #[.slice A n k1] 133 (0, 0))) (hn : n = xs.length) (h : (cSl cHdr).rd w F [.slice A n k1] xs) (hlen : n ≤ 4294967296) :
    Calls Tryz.prog 89 #[.pointer (some ⟨g, 0, none⟩), .string s] w (fun e w' => (∃ z : Int, e = .returned (.int .i64 z) ∧ z < n ∧ -1 ≤ z) ∧ Mod (fun _ => False) w w') := by
  have Hn := hidden hn
  have Hx : Hid (∀ W, Mod (fun _ => False) w W → (cSl cHdr).rd W F [.slice A n k1] xs) := hidden fun W hW => (cSl cHdr).mod h hW fun _ _ _ q => q
  have g0 := cell_lit hg (j := 0) rfl
  clear hn h hg
  go_enter Tryz.func89, Tryz.ntmps89
  go_wp2_with fail
  clear g0
  go_loopw [12] (fun i wr => ∃ k : Nat, k ≤ n ∧ i = .int .i64 k ∧ Mod (fun _ => False) w wr) (fun i _ => n - (intOf i).toNat)
  case atStart => exact ⟨0, Nat.zero_le _, rfl, Mod.refl _ _⟩
  obtain ⟨k, hk, rfl, hmod⟩ := hrel
  have Hmod := hidden hmod
  clear hmod
  by_cases hlt : k < n
  case pos =>
    have hkx : k < xs.length := by rw [← Hn.out]; exact hlt
    obtain ⟨x, hx⟩ : ∃ x, xs[k]? = some x := ⟨_, List.getElem?_eq_getElem hkx⟩
    have hrx := Hx.out wr Hmod.out
    rw [Hn.out] at hrx
    obtain ⟨bx, offx, hA, _, _, hrx⟩ := cSl_at hrx (by rintro rfl; simp at hkx)
    obtain ⟨cs, rfl, hcx⟩ := hrx.get k x hx
    have c0 := hcx 0 (by decide)
    have c1 := hcx 1 (by decide)
    have c2 := hcx 2 (by decide)
    have c3 := hcx 3 (by decide)
    simp only [show cHdr.size = 4 from rfl, Nat.add_zero, List.getElem?_cons_zero, List.getElem?_cons_succ] at c0 c1 c2 c3
    subst hA
    have hkn : (k : Int) < n := by omega
    have h0k : (0 : Int) ≤ k := by omega
    have Hlt := hidden hlt
    clear hrx hcx hx
    cases hq : (x.name.toList == s.toList)
    · go_wp2_with fail
      go_roundw
      case rel => exact ⟨k + 1, by omega, by go_num, Hmod.out.alloc _⟩
      case measure => simp [intOf]; omega
    · go_wp2_with fail
      go_ret
      exact ⟨⟨_, rfl, by omega, by omega⟩, Hmod.out.alloc _⟩
  obtain rfl : k = n := by omega
  have hkn : ¬ (k : Int) < k := by omega
  go_wp2_with fail
  go_ret
  exact ⟨⟨_, rfl, by omega, by omega⟩, Hmod.out⟩
end Go.Proofs.YthgibbekfcenhaaGreatDoor
