/- The walks of the laws' copies of lists: the copy reads as the list did. -/
import Derived.Test.YthgibbekfcenhaaGreatDoorDecode
import Derived.Deep.RegionHeld3
namespace Go.Proofs.YthgibbekfcenhaaGreatDoor
open Go.RowKit

/-- Where a copy lies: new memory, and what was there. -/
abbrev CopyF (w : World) (F : Fp) : Fp := fun b => w.heap.size ≤ b ∨ (F b ∧ b < w.heap.size)
/-- What a copy answers: a slice that reads as xs. -/
def CopyPost {α : Type} (c : Cd α) (F : Fp) (xs : List α) (w : World) (e : Ending) (w' : World) : Prop :=
  ∃ v : Value, e = .returned v ∧ (cSl c).rd w' (CopyF w F) [v] xs ∧ Mod (fun _ => False) w w'

set_option maxHeartbeats 1000000 in
theorem copyFile_calls (A : Option Addr) (cap n : Nat) (w : World) (xs : List PFile) (F : Fp) (hn : n = xs.length) (h : (cSl cFile).rd w F [.slice A n cap] xs) (hlen : n ≤ 1000000) :
    Calls Tryz.prog 60 #[.slice A n cap] w (CopyPost cFile F xs w) := by
  have hT : SlT Tryz.prog 35 70 cFile.size := slT_of (by kernel_rfl)
  have Hn := hidden hn
  have Hh : Hid (∀ W, Mod (fun _ => False) w W → (cSl cFile).rd W (fun b => F b ∧ b < w.heap.size) [.slice A n cap] xs) := hidden fun W hW => (cSl cFile).mod ((cSl cFile).bound h) hW fun _ _ _ q => q
  clear hn h
  go_enter Tryz.func60, Tryz.ntmps60
  go_wp2_with fail
  go_loopw [3, 9] (fun out i wr => ∃ k : Nat, k ≤ n ∧ i = .int .i64 k ∧ Own cFile 70 wr w.heap.size (CopyF w F) out (xs.take k) ∧ Mod (fun _ => False) w wr) (fun _ i _ => n - (intOf i).toNat)
  case atStart => exact ⟨0, Nat.zero_le _, rfl, Own.empty _ _ _ _ _ (Nat.le_refl _), (Mod.refl _ _).alloc _⟩
  case round =>
    obtain ⟨k, hk, rfl, hO, hm⟩ := hrel
    have hz := hm.size
    by_cases hlt : k < n
    · have hkx : k < xs.length := by rw [← Hn.out]; exact hlt
      obtain ⟨x, hx⟩ : ∃ x, xs[k]? = some x := ⟨_, List.getElem?_eq_getElem hkx⟩
      have hrd := Hh.out wr hm
      rw [Hn.out] at hrd
      obtain ⟨b, off, hA, hF, hbl, hr⟩ := cSl_at hrd (by rintro rfl; simp at hkx)
      have Htk : Hid (xs.take (k + 1) = xs.take k ++ [x]) := hidden (by rw [List.take_add_one, hx]; rfl)
      have Hlen : Hid ((xs.take k).length = k) := hidden (by simp; omega)
      obtain ⟨cs, hcs, hc⟩ := hr.get k x hx
      have hcs' := cFile_iff.1 hcs
      obtain ⟨rfl, hok⟩ := hcs'
      have Hy := hidden hcs
      have c0 := hc 0 (by decide)
      have c1 := hc 1 (by decide)
      have c2 := hc 2 (by decide)
      simp only [show cFile.size = 3 from rfl, Nat.add_zero, List.getElem?_cons_zero, List.getElem?_cons_succ] at c0 c1 c2
      subst hA
      have hne : b ≠ wr.heap.size := by omega
      have hblt : b < wr.heap.size := by omega
      have hkn : (k : Int) < n := by omega
      have HO := hidden hO
      have hblk := hidden hO.blk
      have Hm := hidden hm
      clear hO hm hrd hr hc hcs hok hx hF
      go_wp2_with ((with_reducible refine wpList_app1s (o := ⟨some 15, _, _, _, _, _⟩) (c := cFile) (d := 15) (s := .tmp 13) (x := .tmp 14) (v := u3) (y := .agg #[.string x.name, .string x.content, .int .i64 x.time]) hT (cFile.alloc (cFile.bound Hy.out) _) (own_alloc HO.out _) (fun b hb _ => ⟨.inr hb.1, fun q => by have := hblk.out b q.symm; have := hb.1.2; omega⟩) ?_ ?_ ?_ ?_); (simp; omega); (rw [Hlen.out]; omega); exact ⟨⟨rfl, rfl, rfl, rfl, rfl⟩, rfl, rfl, rfl⟩; intro v1 w3 hO3 hm3 hat; have HO3 := hidden hO3; have Hm3 := hidden hm3; clear hO3 hm3 hat)
      go_roundw
      case rel => exact ⟨k + 1, by omega, by go_num, by rw [Htk.out]; exact HO3.out, (Hm.out.alloc _).trans' Hm3.out fun x hx q => by have := hblk.out x q.symm; omega⟩
      case measure => simp [intOf]; omega
    · obtain rfl : k = n := by omega
      rw [List.take_of_length_le (by rw [Hn.out]; exact Nat.le_refl _)] at hO
      have Hfin : Hid (CopyPost cFile F xs w (.returned u3) wr) := hidden ⟨u3, rfl, hO.read (fun _ q => q) (fun _ q => .inl q), hm⟩
      clear hO hm
      go_wp2
      go_ret
      exact Hfin.out

set_option maxHeartbeats 1000000 in
theorem copyOut_calls (A : Option Addr) (cap n : Nat) (w : World) (xs : List POut) (F : Fp) (hn : n = xs.length) (h : (cSl cOut).rd w F [.slice A n cap] xs) (hlen : n ≤ 1000000) :
    Calls Tryz.prog 61 #[.slice A n cap] w (CopyPost cOut F xs w) := by
  have hT : SlT Tryz.prog 37 74 cOut.size := slT_of (by kernel_rfl)
  have Hn := hidden hn
  have Hh : Hid (∀ W, Mod (fun _ => False) w W → (cSl cOut).rd W (fun b => F b ∧ b < w.heap.size) [.slice A n cap] xs) := hidden fun W hW => (cSl cOut).mod ((cSl cOut).bound h) hW fun _ _ _ q => q
  clear hn h
  go_enter Tryz.func61, Tryz.ntmps61
  go_wp2_with fail
  go_loopw [3, 9] (fun out i wr => ∃ k : Nat, k ≤ n ∧ i = .int .i64 k ∧ Own cOut 74 wr w.heap.size (CopyF w F) out (xs.take k) ∧ Mod (fun _ => False) w wr) (fun _ i _ => n - (intOf i).toNat)
  case atStart => exact ⟨0, Nat.zero_le _, rfl, Own.empty _ _ _ _ _ (Nat.le_refl _), (Mod.refl _ _).alloc _⟩
  case round =>
    obtain ⟨k, hk, rfl, hO, hm⟩ := hrel
    have hz := hm.size
    by_cases hlt : k < n
    · have hkx : k < xs.length := by rw [← Hn.out]; exact hlt
      obtain ⟨x, hx⟩ : ∃ x, xs[k]? = some x := ⟨_, List.getElem?_eq_getElem hkx⟩
      have hrd := Hh.out wr hm
      rw [Hn.out] at hrd
      obtain ⟨b, off, hA, hF, hbl, hr⟩ := cSl_at hrd (by rintro rfl; simp at hkx)
      have Htk : Hid (xs.take (k + 1) = xs.take k ++ [x]) := hidden (by rw [List.take_add_one, hx]; rfl)
      have Hlen : Hid ((xs.take k).length = k) := hidden (by simp; omega)
      obtain ⟨cs, hcs, hc⟩ := hr.get k x hx
      have hcs' := cOut_iff.1 hcs
      obtain ⟨rfl, hok⟩ := hcs'
      have Hy := hidden hcs
      have c0 := hc 0 (by decide)
      have c1 := hc 1 (by decide)
      simp only [show cOut.size = 2 from rfl, Nat.add_zero, List.getElem?_cons_zero, List.getElem?_cons_succ] at c0 c1
      subst hA
      have hne : b ≠ wr.heap.size := by omega
      have hblt : b < wr.heap.size := by omega
      have hkn : (k : Int) < n := by omega
      have HO := hidden hO
      have hblk := hidden hO.blk
      have Hm := hidden hm
      clear hO hm hrd hr hc hcs hok hx hF
      go_wp2_with ((with_reducible refine wpList_app1s (o := ⟨some 15, _, _, _, _, _⟩) (c := cOut) (d := 15) (s := .tmp 13) (x := .tmp 14) (v := u3) (y := .agg #[.string x.command, .string x.text]) hT (cOut.alloc (cOut.bound Hy.out) _) (own_alloc HO.out _) (fun b hb _ => ⟨.inr hb.1, fun q => by have := hblk.out b q.symm; have := hb.1.2; omega⟩) ?_ ?_ ?_ ?_); (simp; omega); (rw [Hlen.out]; omega); exact ⟨⟨rfl, rfl, rfl, rfl, rfl⟩, rfl, rfl, rfl⟩; intro v1 w3 hO3 hm3 hat; have HO3 := hidden hO3; have Hm3 := hidden hm3; clear hO3 hm3 hat)
      go_roundw
      case rel => exact ⟨k + 1, by omega, by go_num, by rw [Htk.out]; exact HO3.out, (Hm.out.alloc _).trans' Hm3.out fun x hx q => by have := hblk.out x q.symm; omega⟩
      case measure => simp [intOf]; omega
    · obtain rfl : k = n := by omega
      rw [List.take_of_length_le (by rw [Hn.out]; exact Nat.le_refl _)] at hO
      have Hfin : Hid (CopyPost cOut F xs w (.returned u3) wr) := hidden ⟨u3, rfl, hO.read (fun _ q => q) (fun _ q => .inl q), hm⟩
      clear hO hm
      go_wp2
      go_ret
      exact Hfin.out

set_option maxHeartbeats 1000000 in
theorem copyEff_calls (A : Option Addr) (cap n : Nat) (w : World) (xs : List PEff) (F : Fp) (hn : n = xs.length) (h : (cSl cEff).rd w F [.slice A n cap] xs) (hlen : n ≤ 1000000) :
    Calls Tryz.prog 90 #[.slice A n cap] w (CopyPost cEff F xs w) := by
  have hT : SlT Tryz.prog 75 79 cEff.size := slT_of (by kernel_rfl)
  have Hn := hidden hn
  have Hh : Hid (∀ W, Mod (fun _ => False) w W → (cSl cEff).rd W (fun b => F b ∧ b < w.heap.size) [.slice A n cap] xs) := hidden fun W hW => (cSl cEff).mod ((cSl cEff).bound h) hW fun _ _ _ q => q
  clear hn h
  go_enter Tryz.func90, Tryz.ntmps90
  go_wp2_with fail
  go_loopw [3, 9] (fun out i wr => ∃ k : Nat, k ≤ n ∧ i = .int .i64 k ∧ Own cEff 79 wr w.heap.size (CopyF w F) out (xs.take k) ∧ Mod (fun _ => False) w wr) (fun _ i _ => n - (intOf i).toNat)
  case atStart => exact ⟨0, Nat.zero_le _, rfl, Own.empty _ _ _ _ _ (Nat.le_refl _), (Mod.refl _ _).alloc _⟩
  case round =>
    obtain ⟨k, hk, rfl, hO, hm⟩ := hrel
    have hz := hm.size
    by_cases hlt : k < n
    · have hkx : k < xs.length := by rw [← Hn.out]; exact hlt
      obtain ⟨x, hx⟩ : ∃ x, xs[k]? = some x := ⟨_, List.getElem?_eq_getElem hkx⟩
      have hrd := Hh.out wr hm
      rw [Hn.out] at hrd
      obtain ⟨b, off, hA, hF, hbl, hr⟩ := cSl_at hrd (by rintro rfl; simp at hkx)
      have Htk : Hid (xs.take (k + 1) = xs.take k ++ [x]) := hidden (by rw [List.take_add_one, hx]; rfl)
      have Hlen : Hid ((xs.take k).length = k) := hidden (by simp; omega)
      obtain ⟨cs, hcs, hc⟩ := hr.get k x hx
      have hcs' := cEff_iff.1 hcs
      obtain ⟨rfl, hok⟩ := hcs'
      have Hy := hidden hcs
      have c0 := hc 0 (by decide)
      have c1 := hc 1 (by decide)
      have c2 := hc 2 (by decide)
      simp only [show cEff.size = 3 from rfl, Nat.add_zero, List.getElem?_cons_zero, List.getElem?_cons_succ] at c0 c1 c2
      subst hA
      have hne : b ≠ wr.heap.size := by omega
      have hblt : b < wr.heap.size := by omega
      have hkn : (k : Int) < n := by omega
      have HO := hidden hO
      have hblk := hidden hO.blk
      have Hm := hidden hm
      clear hO hm hrd hr hc hcs hok hx hF
      go_wp2_with ((with_reducible refine wpList_app1s (o := ⟨some 15, _, _, _, _, _⟩) (c := cEff) (d := 15) (s := .tmp 13) (x := .tmp 14) (v := u3) (y := .agg #[.int .i64 x.op, .string x.name, .string x.text]) hT (cEff.alloc (cEff.bound Hy.out) _) (own_alloc HO.out _) (fun b hb _ => ⟨.inr hb.1, fun q => by have := hblk.out b q.symm; have := hb.1.2; omega⟩) ?_ ?_ ?_ ?_); (simp; omega); (rw [Hlen.out]; omega); exact ⟨⟨rfl, rfl, rfl, rfl, rfl⟩, rfl, rfl, rfl⟩; intro v1 w3 hO3 hm3 hat; have HO3 := hidden hO3; have Hm3 := hidden hm3; clear hO3 hm3 hat)
      go_roundw
      case rel => exact ⟨k + 1, by omega, by go_num, by rw [Htk.out]; exact HO3.out, (Hm.out.alloc _).trans' Hm3.out fun x hx q => by have := hblk.out x q.symm; omega⟩
      case measure => simp [intOf]; omega
    · obtain rfl : k = n := by omega
      rw [List.take_of_length_le (by rw [Hn.out]; exact Nat.le_refl _)] at hO
      have Hfin : Hid (CopyPost cEff F xs w (.returned u3) wr) := hidden ⟨u3, rfl, hO.read (fun _ q => q) (fun _ q => .inl q), hm⟩
      clear hO hm
      go_wp2
      go_ret
      exact Hfin.out
end Go.Proofs.YthgibbekfcenhaaGreatDoor
namespace Go.Proofs.YthgibbekfcenhaaGreatDoor
open Go.RowKit

theorem cOutc_iff {w : World} {F : Fp} {cs : List Value} {o : POutc} : cOutc.rd w F cs o ↔ ∃ A n cap, cs = [.string o.target, .int .i64 o.exit, .slice A n cap] ∧ n = o.effects.length ∧ o.target.size ≤ maxLen ∧ (-9223372036854775808 ≤ o.exit ∧ o.exit ≤ 9223372036854775807) ∧ (cSl cEff).rd w F [.slice A n cap] o.effects := by
  constructor
  · rintro ⟨p, q, rfl, ⟨rfl, h1⟩, p', q', rfl, ⟨rfl, h2⟩, A, cap, rfl, h3⟩
    exact ⟨A, _, cap, rfl, rfl, h1, h2, A, cap, rfl, h3⟩
  · rintro ⟨A, n, cap, rfl, rfl, h1, h2, h3⟩
    exact ⟨_, _, rfl, ⟨rfl, h1⟩, _, _, rfl, ⟨rfl, h2⟩, h3⟩

theorem held3 {W : World} {g : Nat} {a b c : Value} {t : TypeId} (h : W.heap[g]? = some (.cells #[a, b, c] t (0, 0))) : W.cell? ⟨g, 0, none⟩ = some a ∧ W.cell? ⟨g, 1, none⟩ = some b ∧ W.cell? ⟨g, 2, none⟩ = some c :=
  ⟨cell_lit h rfl, cell_lit h rfl, cell_lit h rfl⟩

set_option maxHeartbeats 1000000 in
theorem copyOutc_calls (A : Option Addr) (cap n : Nat) (w : World) (xs : List POutc) (F : Fp) (hn : n = xs.length) (h : (cSl cOutc).rd w F [.slice A n cap] xs) (hlen : n ≤ 1000000) (hef : ∀ o ∈ xs, o.effects.length ≤ 1000000) :
    Calls Tryz.prog 62 #[.slice A n cap] w (CopyPost cOutc F xs w) := by
  have hT : SlT Tryz.prog 38 77 cOutc.size := slT_of (by kernel_rfl)
  have Hn := hidden hn
  have Hef := hidden hef
  have Hh : Hid (∀ W, Mod (fun _ => False) w W → (cSl cOutc).rd W (fun b => F b ∧ b < w.heap.size) [.slice A n cap] xs) := hidden fun W hW => (cSl cOutc).mod ((cSl cOutc).bound h) hW fun _ _ _ q => q
  clear hn h hef
  go_enter Tryz.func62, Tryz.ntmps62
  go_wp2_with fail
  go_loopw [3, 9] (fun out i wr => ∃ k : Nat, k ≤ n ∧ i = .int .i64 k ∧ Own cOutc 77 wr w.heap.size (CopyF w F) out (xs.take k) ∧ Mod (fun _ => False) w wr) (fun _ i _ => n - (intOf i).toNat)
  case atStart => exact ⟨0, Nat.zero_le _, rfl, Own.empty _ _ _ _ _ (Nat.le_refl _), (Mod.refl _ _).alloc _⟩
  case round =>
    obtain ⟨k, hk, rfl, hO, hm⟩ := hrel
    have hz := hm.size
    by_cases hlt : k < n
    · have hkx : k < xs.length := by rw [← Hn.out]; exact hlt
      obtain ⟨x, hx⟩ : ∃ x, xs[k]? = some x := ⟨_, List.getElem?_eq_getElem hkx⟩
      have hrd := Hh.out wr hm
      rw [Hn.out] at hrd
      obtain ⟨b, off, hA, hF, hbl, hr⟩ := cSl_at hrd (by rintro rfl; simp at hkx)
      have Htk : Hid (xs.take (k + 1) = xs.take k ++ [x]) := hidden (by rw [List.take_add_one, hx]; rfl)
      have Hlen : Hid ((xs.take k).length = k) := hidden (by simp; omega)
      have Hel := Hef.out x (List.mem_of_getElem? hx)
      obtain ⟨cs, hcs, hc⟩ := hr.get k x hx
      obtain ⟨A', n', cap', rfl, hn', hok1, hok2, hrd'⟩ := cOutc_iff.1 hcs
      have Hn' := hidden hn'
      have Hrd' := hidden hrd'
      have Hok : Hid (x.target.size ≤ maxLen ∧ (-9223372036854775808 ≤ x.exit ∧ x.exit ≤ 9223372036854775807)) := hidden ⟨hok1, hok2⟩
      have hel : n' ≤ 1000000 := by omega
      have c0 := hc 0 (by decide)
      have c1 := hc 1 (by decide)
      have c2 := hc 2 (by decide)
      simp only [show cOutc.size = 3 from rfl, Nat.add_zero, List.getElem?_cons_zero, List.getElem?_cons_succ] at c0 c1 c2
      subst hA
      have hne : b ≠ wr.heap.size := by omega
      have hblt : b < wr.heap.size := by omega
      have hkn : (k : Int) < n := by omega
      have HO := hidden hO
      have hblk := hidden hO.blk
      have Hm := hidden hm
      clear hO hm hrd hr hc hcs hx hF hn' hrd' hok1 hok2 Hel
      go_wp2_with fail
      have hbx := heap_alloc_new wr (.cells #[.string x.target, .int .i64 x.exit, .slice A' n' cap'] 102)
      have hm0 : Mod (fun _ => False) wr (wr.alloc (.cells #[.string x.target, .int .i64 x.exit, .slice A' n' cap'] 102)) := (Mod.refl _ _).alloc _
      generalize wr.alloc (.cells #[.string x.target, .int .i64 x.exit, .slice A' n' cap'] 102) = W0 at *
      have zW := hm0.size
      have hB0 : wr.heap.size < W0.heap.size := (Array.getElem?_eq_some_iff.1 hbx).1
      have hh0 := held3 hbx
      have Hh0 := hidden hh0
      have Hh0d : Hid (W0.drew.cell? ⟨wr.heap.size, 0, none⟩ = some (.string x.target) ∧ W0.drew.cell? ⟨wr.heap.size, 1, none⟩ = some (.int .i64 x.exit) ∧ W0.drew.cell? ⟨wr.heap.size, 2, none⟩ = some (.slice A' n' cap')) := hidden hh0
      have Hm0 : Hid (Mod (fun _ => False) wr W0.drew) := hidden hm0.drew
      have Hbx : Hid (W0.drew.heap[wr.heap.size]? = some (.cells #[.string x.target, .int .i64 x.exit, .slice A' n' cap'] 102 (0, 0))) := hidden hbx
      have Hrw : Hid ((cSl cEff).rd W0.drew (fun b => F b ∧ b < w.heap.size) [.slice A' n' cap'] x.effects) := hidden ((cSl cEff).mod Hrd'.out Hm0.out fun _ _ _ q => q)
      have Hlt0 : Hid (wr.heap.size < W0.drew.heap.size) := hidden hB0
      clear hbx hm0 c0 c1 c2
      go_region_held3 (fun W' => W'.cell? ⟨wr.heap.size, 0, none⟩ = some (.string x.target) ∧ W'.cell? ⟨wr.heap.size, 1, none⟩ = some (.int .i64 x.exit) ∧ W'.cell? ⟨wr.heap.size, 2, none⟩ = some (.slice A' n' cap'))
        (first | (with_reducible exact Hh0.out) | (with_reducible exact Hh0d.out) | (with_reducible exact Hh2.out) | (with_reducible exact Hh2a.out) | (with_reducible exact Hh3.out))
        (first
          | (go_at_call 90; refine (copyEff_calls _ _ _ _ _ (fun b => F b ∧ b < w.heap.size) Hn'.out Hrw.out hel).mono ?_; rintro e w2 ⟨v2, rfl, hv2, hm2⟩; obtain ⟨A2, k2, rfl⟩ := rd_slice hv2; have hmw := Hm0.out.trans hm2; have hb2 := hm2.heap Hbx.out (fun q => q); have Hh2 := hidden (held3 hb2); have Hh2a := hidden (held3 (hmx hb2 (.cells #[.string x.target, .int .i64 x.exit, .slice A2 x.effects.length k2] 77))); have hy2 : cOutc.rd w2 (CopyF W0.drew (fun b => F b ∧ b < w.heap.size)) [.string x.target, .int .i64 x.exit, .slice A2 x.effects.length k2] x := cOutc_iff.2 ⟨_, _, _, rfl, rfl, Hok.out.1, Hok.out.2, hv2⟩; have HY := hidden (rdAt_new hy2 77); have HO2 := hidden (own_alloc (HO.out.mod hmw (fun _ _ q => q) (fun _ _ _ q => q)) (.cells #[.string x.target, .int .i64 x.exit, .slice A2 x.effects.length k2] 77)); have z2 := hm2.size; have Hmw := hidden hmw; have Hb2 := hidden hb2; clear hv2 hm2 hmw hb2 hy2)
          | ((with_reducible refine step_app (c := cOutc) (v := u3) (s := .tmp 13) (x := .tmp 22) (ys := [x]) (off := 0) (cap := 1) hT HO2.out HY.out ?_ ?_ ?_ ?_ ?_); exact fun b hb _ => ⟨hb.elim (fun q => .inl (Nat.le_trans (Nat.le_trans hz (Nat.le_of_lt Hlt0.out)) q)) (fun q => .inr q.1), fun q => hb.elim (fun e => by have := hblk.out b q.symm; have := Hlt0.out; omega) (fun e => by have := hblk.out b q.symm; have := e.1.2; omega)⟩; (simp; have := Hmw.out.size; omega); (rw [Hlen.out]; show k + 1 ≤ _; omega); exact ⟨⟨rfl, rfl⟩, rfl, rfl⟩; intro v1 w3 hO3 hm3 hat; have Hh3 := hidden (held3 (hm3.heap (hmx Hb2.out _) (fun q => by have := hblk.out _ q.symm; omega))); have HO3 := hidden hO3; have Hm3 := hidden hm3; clear hO3 hm3 hat))
      go_wp2_with fail
      go_roundw
      case rel => exact ⟨k + 1, by omega, by go_num, by rw [Htk.out]; exact HO3.out, ((Hm.out.trans Hmw.out).alloc _).trans' Hm3.out fun x hx q => by have := hblk.out x q.symm; omega⟩
      case measure => simp [intOf]; omega
    · obtain rfl : k = n := by omega
      rw [List.take_of_length_le (by rw [Hn.out]; exact Nat.le_refl _)] at hO
      have Hfin : Hid (CopyPost cOutc F xs w (.returned u3) wr) := hidden ⟨u3, rfl, hO.read (fun _ q => q) (fun _ q => .inl q), hm⟩
      clear hO hm
      go_wp2
      go_ret
      exact Hfin.out
end Go.Proofs.YthgibbekfcenhaaGreatDoor
namespace Go.Proofs.YthgibbekfcenhaaGreatDoor
open Go.RowKit

/-- .. without the copy's own boxes. -/
abbrev CopyG (w : World) (F : Fp) : Fp := fun b => w.heap.size + 3 ≤ b ∨ (F b ∧ b < w.heap.size)
/-- The copied question: nothing but verdicts. -/
def AskPost (F : Fp) (xs : List PVer) (w : World) (e : Ending) (w' : World) : Prop :=
  ∃ A n cap, e = .returned (.agg #[.bool false, nilS, .slice A n cap]) ∧ n = xs.length ∧ (cSl cVer).rd w' (CopyF w F) [.slice A n cap] xs ∧ Mod (fun _ => False) w w'

set_option maxHeartbeats 1000000 in
theorem copyVer_calls (A : Option Addr) (cap n : Nat) (w : World) (xs : List PVer) (F : Fp) (hn : n = xs.length) (h : (cSl cVer).rd w F [.slice A n cap] xs) (hlen : n ≤ 1000000) :
    Calls Tryz.prog 63 #[.agg #[.bool false, .slice none 0 0, .slice A n cap]] w (AskPost F xs w) := by
  have hT : SlT Tryz.prog 39 81 cVer.size := slT_of (by kernel_rfl)
  have Hn := hidden hn
  have Hh : Hid (∀ W, Mod (fun _ => False) w W → (cSl cVer).rd W (fun b => F b ∧ b < w.heap.size) [.slice A n cap] xs) := hidden fun W hW => (cSl cVer).mod ((cSl cVer).bound h) hW fun _ _ _ q => q
  clear hn h
  go_enter Tryz.func63, Tryz.ntmps63
  go_wp2_with fail
  have hm0 : Mod (fun _ => False) w (((w.alloc (.cells #[.bool false, nilS, .slice A n cap] 66)).alloc (.cells #[.bool false, nilS, nilS] 145)).alloc (.cells #[.bool false, nilS, nilS] 145)) := (((Mod.refl _ _).alloc _).alloc _).alloc _
  have hr0 : (((w.alloc (.cells #[.bool false, nilS, .slice A n cap] 66)).alloc (.cells #[.bool false, nilS, nilS] 145)).alloc (.cells #[.bool false, nilS, nilS] 145)).heap[w.heap.size + 1]? = some (.cells #[.bool false, nilS, nilS] 145 (0, 0)) := by
    have := heap_alloc_new (w.alloc (.cells #[.bool false, nilS, .slice A n cap] 66)) (.cells #[.bool false, nilS, nilS] 145)
    rw [World.size_alloc] at this
    exact hmx this _
  have hb0 : (((w.alloc (.cells #[.bool false, nilS, .slice A n cap] 66)).alloc (.cells #[.bool false, nilS, nilS] 145)).alloc (.cells #[.bool false, nilS, nilS] 145)).heap[w.heap.size + 1 + 1]? = some (.cells #[.bool false, nilS, nilS] 145 (0, 0)) := by
    have := heap_alloc_new ((w.alloc (.cells #[.bool false, nilS, .slice A n cap] 66)).alloc (.cells #[.bool false, nilS, nilS] 145)) (.cells #[.bool false, nilS, nilS] 145)
    rw [World.size_alloc, World.size_alloc] at this
    exact this
  generalize ((w.alloc (.cells #[.bool false, nilS, .slice A n cap] 66)).alloc (.cells #[.bool false, nilS, nilS] 145)).alloc (.cells #[.bool false, nilS, nilS] 145) = W0 at *
  have Hm0 := hidden hm0
  have Hr0 := hidden hr0
  have Hb0 := hidden hb0
  clear hm0 hr0 hb0
  go_loopw [14] (fun i wr => ∃ (k : Nat) (v : Value), k ≤ n ∧ i = .int .i64 k ∧ wr.heap[w.heap.size + 1 + 1]? = some (.cells #[.bool false, nilS, v] 145 (0, 0)) ∧ wr.heap[w.heap.size + 1]? = some (.cells #[.bool false, nilS, nilS] 145 (0, 0)) ∧ Own cVer 81 wr (w.heap.size + 3) (CopyG w F) v (xs.take k) ∧ Mod (fun _ => False) w wr) (fun i _ => n - (intOf i).toNat)
  case atStart => exact ⟨0, nilS, Nat.zero_le _, rfl, Hb0.out, Hr0.out, Own.nil _ _ _ _ _, Hm0.out⟩
  case round =>
    obtain ⟨k, v, hk, rfl, hb, hr0, hO, hm⟩ := hrel
    have hz := hm.size
    have hlb : w.heap.size + 1 + 1 < wr.heap.size := (Array.getElem?_eq_some_iff.1 hb).1
    by_cases hlt : k < n
    · have hkx : k < xs.length := by rw [← Hn.out]; exact hlt
      obtain ⟨x, hx⟩ : ∃ x, xs[k]? = some x := ⟨_, List.getElem?_eq_getElem hkx⟩
      have hrd := Hh.out wr hm
      rw [Hn.out] at hrd
      obtain ⟨b, off, hA, hF, hbl, hr⟩ := cSl_at hrd (by rintro rfl; simp at hkx)
      have Htk : Hid (xs.take (k + 1) = xs.take k ++ [x]) := hidden (by rw [List.take_add_one, hx]; rfl)
      have Hlen : Hid ((xs.take k).length = k) := hidden (by simp; omega)
      obtain ⟨cs, hcs, hc⟩ := hr.get k x hx
      obtain ⟨rfl, hok⟩ := cVer_iff.1 hcs
      have Hy := hidden hcs
      have c0 := hc 0 (by decide)
      have c1 := hc 1 (by decide)
      have c2 := hc 2 (by decide)
      have c3 := hc 3 (by decide)
      simp only [show cVer.size = 4 from rfl, Nat.add_zero, List.getElem?_cons_zero, List.getElem?_cons_succ] at c0 c1 c2 c3
      subst hA
      have hne : b ≠ wr.heap.size := by omega
      have hblt : b < wr.heap.size := by omega
      have hkn : (k : Int) < n := by omega
      have d2 := cell_lit hb (j := 2) rfl
      have hne2 : w.heap.size + 1 + 1 ≠ wr.heap.size := by omega
      have HO := hidden hO
      have hblk := hidden hO.blk
      have Hm := hidden hm
      have Hb := hidden hb
      have Hr := hidden hr0
      clear hO hm hrd hr hc hcs hok hx hF hb hr0
      go_wp2_with ((with_reducible refine wpList_app1s (o := ⟨some 21, _, _, _, _, _⟩) (c := cVer) (d := 21) (s := .tmp 19) (x := .tmp 20) (v := v) (y := .agg #[.string x.prog, .string x.target, .string x.prereq, .bool x.old]) hT (cVer.alloc (cVer.bound Hy.out) _) (own_alloc HO.out _) (fun b hb _ => ⟨.inr hb.1, fun q => by have := hblk.out b q.symm; have := hb.1.2; omega⟩) ?_ ?_ ?_ ?_); (simp; omega); (rw [Hlen.out]; omega); exact ⟨⟨rfl, rfl, rfl, rfl, rfl⟩, rfl, rfl, rfl⟩; intro v1 w3 hO3 hm3 hat; obtain ⟨Av, nv, kv, rfl⟩ := hO3.shape'; have hb3 := hm3.heap (hmx Hb.out _) (fun q => by have := hblk.out _ q.symm; omega); have hr3 := hm3.heap (hmx Hr.out _) (fun q => by have := hblk.out _ q.symm; omega); have e2 := cell_lit hb3 (j := 2) rfl; have f2 := free_lit hb3 2; have Hb3 := hidden hb3; have Hr3 := hidden hr3; have HO3 := hidden hO3; have Hm3 := hidden hm3; clear hb3 hr3 hO3 hm3 hat)
      have hset : Mod (· = w.heap.size + 1 + 1) w3 (w3.setCell ⟨w.heap.size + 1 + 1, 2, none⟩ (.slice Av nv kv)) := (Mod.refl _ _).set1 _ _
      have Hset := hidden hset
      clear hset
      go_roundw
      case rel =>
        refine ⟨k + 1, _, by omega, by go_num, set_lit Hb3.out 2 _, Hset.out.heap Hr3.out (by omega), ?_, ?_⟩
        · rw [Htk.out]
          exact HO3.out.mod Hset.out (fun k hk => by have := HO3.out.blk k hk; omega) (fun b hb _ q => by rcases hb with hb | hb <;> omega)
        · exact ((Hm.out.alloc _).trans' Hm3.out fun x hx q => by have := hblk.out x q.symm; omega).trans' Hset.out fun x hx q => by omega
      case measure => simp [intOf]; omega
    · obtain rfl : k = n := by omega
      rw [List.take_of_length_le (by rw [Hn.out]; exact Nat.le_refl _)] at hO
      obtain ⟨Av, kv, rfl, _⟩ := hO.shape
      have Hrd := hidden (hO.read (F' := CopyG w F) (fun _ q => q) (fun _ q => .inl q))
      rw [← Hn.out] at Hrd
      have b0 := cell_lit hb (j := 0) rfl
      have b1 := cell_lit hb (j := 1) rfl
      have b2 := cell_lit hb (j := 2) rfl
      have r0 := cell_lit hr0 (j := 0) rfl
      have r1 := cell_lit hr0 (j := 1) rfl
      have r2 := cell_lit hr0 (j := 2) rfl
      have s0 := free_lit hr0 0
      have s1 := free_lit hr0 1
      have s2 := free_lit hr0 2
      have Hm := hidden hm
      have Hxl := Hn.out
      rw [← Hxl] at b2
      clear hO hm hb hr0 Hxl
      go_wp2_with fail
      have h8 : Mod (· = w.heap.size + 1) wr (((wr.setCell ⟨w.heap.size + 1, 0, none⟩ (.bool false)).setCell ⟨w.heap.size + 1, 1, none⟩ (.slice none 0 0)).setCell ⟨w.heap.size + 1, 2, none⟩ (.slice Av k kv)) := (((Mod.refl _ _).set1 _ _).set1 _ _).set1 _ _
      refine bodyPost_ret (v := .agg #[.bool false, .slice none 0 0, .slice Av k kv]) (by simp [results, Tryz.results63, go_sem, r0, r1, r2]) rfl ⟨_, _, _, rfl, Hn.out, ?_, Hm.out.trans' h8 fun x hx q => by omega⟩
      exact (cSl cVer).keep Hrd fun b hb hl => ⟨h8.block b hl (by rcases hb with hb | hb <;> omega), by rcases hb with hb | hb; exact .inl (by omega); exact .inr hb⟩
end Go.Proofs.YthgibbekfcenhaaGreatDoor
