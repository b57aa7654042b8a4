/- The walk of the laws' copy of verdicts (within a question). -/
import Derived.Test.YtpfaognjfbilmaaDoorCopyB
namespace Go.Proofs.YtpfaognjfbilmaaDoor
open Go.RowKit

/-- .. without the copy's own boxes. -/
abbrev CopyG (w : World) (F : Fp) : Fp := fun b => w.heap.size + 3 ≤ b ∨ (F b ∧ b < w.heap.size)
/-- The copied question: nothing but verdicts. -/
def AskPost (F : Fp) (xs : List PVer) (w : World) (e : Ending) (w' : World) : Prop :=
  ∃ A n cap, e = .returned (.agg #[.bool false, nilS, .slice A n cap]) ∧ n = xs.length ∧ (cSl cVer).rd w' (CopyF w F) [.slice A n cap] xs ∧ Mod (fun _ => False) w w'

set_option maxHeartbeats 1000000 in
theorem copyVer_calls (A : Option Addr) (cap n : Nat) (w : World) (xs : List PVer) (F : Fp) (hn : n = xs.length) (h : (cSl cVer).rd w F [.slice A n cap] xs) (hlen : n ≤ 1000000) :
    Calls Tryd.prog 62 #[.agg #[.bool false, .slice none 0 0, .slice A n cap]] w (AskPost F xs w) := by
  have hT : SlT Tryd.prog 40 99 cVer.size := slT_of (by kernel_rfl)
  have Hn := hidden hn
  have Hh : Hid (∀ W, Mod (fun _ => False) w W → (cSl cVer).rd W (fun b => F b ∧ b < w.heap.size) [.slice A n cap] xs) := hidden fun W hW => (cSl cVer).mod ((cSl cVer).bound h) hW fun _ _ _ q => q
  clear hn h
  go_enter Tryd.func62, Tryd.ntmps62
  go_wp2_with fail
  have hm0 : Mod (fun _ => False) w (((w.alloc (.cells #[.bool false, nilS, .slice A n cap] 127)).alloc (.cells #[.bool false, nilS, nilS] 137)).alloc (.cells #[.bool false, nilS, nilS] 137)) := (((Mod.refl _ _).alloc _).alloc _).alloc _
  have hr0 : (((w.alloc (.cells #[.bool false, nilS, .slice A n cap] 127)).alloc (.cells #[.bool false, nilS, nilS] 137)).alloc (.cells #[.bool false, nilS, nilS] 137)).heap[w.heap.size + 1]? = some (.cells #[.bool false, nilS, nilS] 137 (0, 0)) := by
    have := heap_alloc_new (w.alloc (.cells #[.bool false, nilS, .slice A n cap] 127)) (.cells #[.bool false, nilS, nilS] 137)
    rw [World.size_alloc] at this
    exact hmx this _
  have hb0 : (((w.alloc (.cells #[.bool false, nilS, .slice A n cap] 127)).alloc (.cells #[.bool false, nilS, nilS] 137)).alloc (.cells #[.bool false, nilS, nilS] 137)).heap[w.heap.size + 1 + 1]? = some (.cells #[.bool false, nilS, nilS] 137 (0, 0)) := by
    have := heap_alloc_new ((w.alloc (.cells #[.bool false, nilS, .slice A n cap] 127)).alloc (.cells #[.bool false, nilS, nilS] 137)) (.cells #[.bool false, nilS, nilS] 137)
    rw [World.size_alloc, World.size_alloc] at this
    exact this
  generalize ((w.alloc (.cells #[.bool false, nilS, .slice A n cap] 127)).alloc (.cells #[.bool false, nilS, nilS] 137)).alloc (.cells #[.bool false, nilS, nilS] 137) = W0 at *
  have Hm0 := hidden hm0
  have Hr0 := hidden hr0
  have Hb0 := hidden hb0
  clear hm0 hr0 hb0
  go_loopw [14] (fun i wr => ∃ (k : Nat) (v : Value), k ≤ n ∧ i = .int .i64 k ∧ wr.heap[w.heap.size + 1 + 1]? = some (.cells #[.bool false, nilS, v] 137 (0, 0)) ∧ wr.heap[w.heap.size + 1]? = some (.cells #[.bool false, nilS, nilS] 137 (0, 0)) ∧ Own cVer 99 wr (w.heap.size + 3) (CopyG w F) v (xs.take k) ∧ Mod (fun _ => False) w wr) (fun i _ => n - (intOf i).toNat)
  case atStart => exact ⟨0, nilS, Nat.zero_le _, rfl, Hb0.out, Hr0.out, Own.nil _ _ _ _ _, Hm0.out⟩
  case round =>
    obtain ⟨k, v, hk, rfl, hb, hr0, hO, hm⟩ := hrel
    have hz := hm.size
    have hlb : w.heap.size + 1 + 1 < wr.heap.size := (Array.getElem?_eq_some_iff.1 hb).1
    by_cases hlt : k < n
    · have hkx : k < xs.length := by rw [← Hn.out]; exact hlt
      obtain ⟨x, hx⟩ : ∃ x, xs[k]? = some x := ⟨_, List.getElem?_eq_getElem hkx⟩
      have hrd := Hh.out wr hm
      rw [Hn.out] at hrd
      obtain ⟨b, off, hA, hF, hbl, hr⟩ := cSl_at hrd (by rintro rfl; simp at hkx)
      have Htk : Hid (xs.take (k + 1) = xs.take k ++ [x]) := hidden (by rw [List.take_add_one, hx]; rfl)
      have Hlen : Hid ((xs.take k).length = k) := hidden (by simp; omega)
      obtain ⟨cs, hcs, hc⟩ := hr.get k x hx
      obtain ⟨rfl, hok⟩ := cVer_iff.1 hcs
      have Hy := hidden hcs
      have c0 := hc 0 (by decide)
      have c1 := hc 1 (by decide)
      have c2 := hc 2 (by decide)
      have c3 := hc 3 (by decide)
      simp only [show cVer.size = 4 from rfl, Nat.add_zero, List.getElem?_cons_zero, List.getElem?_cons_succ] at c0 c1 c2 c3
      subst hA
      have hne : b ≠ wr.heap.size := by omega
      have hblt : b < wr.heap.size := by omega
      have hkn : (k : Int) < n := by omega
      have d2 := cell_lit hb (j := 2) rfl
      have hne2 : w.heap.size + 1 + 1 ≠ wr.heap.size := by omega
      have HO := hidden hO
      have hblk := hidden hO.blk
      have Hm := hidden hm
      have Hb := hidden hb
      have Hr := hidden hr0
      clear hO hm hrd hr hc hcs hok hx hF hb hr0
      go_wp2_with ((with_reducible refine wpList_app1s (o := ⟨some 21, _, _, _, _, _⟩) (c := cVer) (d := 21) (s := .tmp 19) (x := .tmp 20) (v := v) (y := .agg #[.string x.prog, .string x.target, .string x.prereq, .bool x.old]) hT (cVer.alloc (cVer.bound Hy.out) _) (own_alloc HO.out _) (fun b hb _ => ⟨.inr hb.1, fun q => by have := hblk.out b q.symm; have := hb.1.2; omega⟩) ?_ ?_ ?_ ?_); (simp; omega); (rw [Hlen.out]; omega); exact ⟨⟨rfl, rfl, rfl, rfl, rfl⟩, rfl, rfl, rfl⟩; intro v1 w3 hO3 hm3 hat; obtain ⟨Av, nv, kv, rfl⟩ := hO3.shape'; have hb3 := hm3.heap (hmx Hb.out _) (fun q => by have := hblk.out _ q.symm; omega); have hr3 := hm3.heap (hmx Hr.out _) (fun q => by have := hblk.out _ q.symm; omega); have e2 := cell_lit hb3 (j := 2) rfl; have f2 := free_lit hb3 2; have Hb3 := hidden hb3; have Hr3 := hidden hr3; have HO3 := hidden hO3; have Hm3 := hidden hm3; clear hb3 hr3 hO3 hm3 hat)
      have hset : Mod (· = w.heap.size + 1 + 1) w3 (w3.setCell ⟨w.heap.size + 1 + 1, 2, none⟩ (.slice Av nv kv)) := (Mod.refl _ _).set1 _ _
      have Hset := hidden hset
      clear hset
      go_roundw
      case rel =>
        refine ⟨k + 1, _, by omega, by go_num, set_lit Hb3.out 2 _, Hset.out.heap Hr3.out (by omega), ?_, ?_⟩
        · rw [Htk.out]
          exact HO3.out.mod Hset.out (fun k hk => by have := HO3.out.blk k hk; omega) (fun b hb _ q => by rcases hb with hb | hb <;> omega)
        · exact ((Hm.out.alloc _).trans' Hm3.out fun x hx q => by have := hblk.out x q.symm; omega).trans' Hset.out fun x hx q => by omega
      case measure => simp [intOf]; omega
    · obtain rfl : k = n := by omega
      rw [List.take_of_length_le (by rw [Hn.out]; exact Nat.le_refl _)] at hO
      obtain ⟨Av, kv, rfl, _⟩ := hO.shape
      have Hrd := hidden (hO.read (F' := CopyG w F) (fun _ q => q) (fun _ q => .inl q))
      rw [← Hn.out] at Hrd
      have b0 := cell_lit hb (j := 0) rfl
      have b1 := cell_lit hb (j := 1) rfl
      have b2 := cell_lit hb (j := 2) rfl
      have r0 := cell_lit hr0 (j := 0) rfl
      have r1 := cell_lit hr0 (j := 1) rfl
      have r2 := cell_lit hr0 (j := 2) rfl
      have s0 := free_lit hr0 0
      have s1 := free_lit hr0 1
      have s2 := free_lit hr0 2
      have Hm := hidden hm
      have Hxl := Hn.out
      rw [← Hxl] at b2
      clear hO hm hb hr0 Hxl
      go_wp2_with fail
      have h8 : Mod (· = w.heap.size + 1) wr (((wr.setCell ⟨w.heap.size + 1, 0, none⟩ (.bool false)).setCell ⟨w.heap.size + 1, 1, none⟩ (.slice none 0 0)).setCell ⟨w.heap.size + 1, 2, none⟩ (.slice Av k kv)) := (((Mod.refl _ _).set1 _ _).set1 _ _).set1 _ _
      refine bodyPost_ret (v := .agg #[.bool false, .slice none 0 0, .slice Av k kv]) (by simp [results, Tryd.results62, go_sem, r0, r1, r2]) rfl ⟨_, _, _, rfl, Hn.out, ?_, Hm.out.trans' h8 fun x hx q => by omega⟩
      exact (cSl cVer).keep Hrd fun b hb hl => ⟨h8.block b hl (by rcases hb with hb | hb <;> omega), by rcases hb with hb | hb; exact .inl (by omega); exact .inr hb⟩
end Go.Proofs.YtpfaognjfbilmaaDoor
