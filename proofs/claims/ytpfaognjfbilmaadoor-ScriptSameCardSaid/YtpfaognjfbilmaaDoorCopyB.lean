/- The walk of the laws' copy of outcomes. -/
import Derived.Test.YtpfaognjfbilmaaDoorCopy
import Derived.Deep.RegionHeld3
namespace Go.Proofs.YtpfaognjfbilmaaDoor
open Go.RowKit

theorem cOutc_iff {w : World} {F : Fp} {cs : List Value} {o : POutc} : cOutc.rd w F cs o ↔ ∃ A n cap, cs = [.string o.target, .int .i64 o.exit, .slice A n cap] ∧ n = o.effects.length ∧ o.target.size ≤ maxLen ∧ (-9223372036854775808 ≤ o.exit ∧ o.exit ≤ 9223372036854775807) ∧ (cSl cEff).rd w F [.slice A n cap] o.effects := by
  constructor
  · rintro ⟨p, q, rfl, ⟨rfl, h1⟩, p', q', rfl, ⟨rfl, h2⟩, A, cap, rfl, h3⟩
    exact ⟨A, _, cap, rfl, rfl, h1, h2, A, cap, rfl, h3⟩
  · rintro ⟨A, n, cap, rfl, rfl, h1, h2, h3⟩
    exact ⟨_, _, rfl, ⟨rfl, h1⟩, _, _, rfl, ⟨rfl, h2⟩, h3⟩

theorem held3 {W : World} {g : Nat} {a b c : Value} {t : TypeId} (h : W.heap[g]? = some (.cells #[a, b, c] t (0, 0))) : W.cell? ⟨g, 0, none⟩ = some a ∧ W.cell? ⟨g, 1, none⟩ = some b ∧ W.cell? ⟨g, 2, none⟩ = some c :=
  ⟨cell_lit h rfl, cell_lit h rfl, cell_lit h rfl⟩

set_option maxHeartbeats 1000000 in
theorem copyOutc_calls (A : Option Addr) (cap n : Nat) (w : World) (xs : List POutc) (F : Fp) (hn : n = xs.length) (h : (cSl cOutc).rd w F [.slice A n cap] xs) (hlen : n ≤ 1000000) (hef : ∀ o ∈ xs, o.effects.length ≤ 1000000) :
    Calls Tryd.prog 61 #[.slice A n cap] w (CopyPost cOutc F xs w) := by
  have hT : SlT Tryd.prog 39 96 cOutc.size := slT_of (by kernel_rfl)
  have Hn := hidden hn
  have Hef := hidden hef
  have Hh : Hid (∀ W, Mod (fun _ => False) w W → (cSl cOutc).rd W (fun b => F b ∧ b < w.heap.size) [.slice A n cap] xs) := hidden fun W hW => (cSl cOutc).mod ((cSl cOutc).bound h) hW fun _ _ _ q => q
  clear hn h hef
  go_enter Tryd.func61, Tryd.ntmps61
  go_wp2_with fail
  go_loopw [3, 9] (fun out i wr => ∃ k : Nat, k ≤ n ∧ i = .int .i64 k ∧ Own cOutc 96 wr w.heap.size (CopyF w F) out (xs.take k) ∧ Mod (fun _ => False) w wr) (fun _ i _ => n - (intOf i).toNat)
  case atStart => exact ⟨0, Nat.zero_le _, rfl, Own.empty _ _ _ _ _ (Nat.le_refl _), (Mod.refl _ _).alloc _⟩
  case round =>
    obtain ⟨k, hk, rfl, hO, hm⟩ := hrel
    have hz := hm.size
    by_cases hlt : k < n
    · have hkx : k < xs.length := by rw [← Hn.out]; exact hlt
      obtain ⟨x, hx⟩ : ∃ x, xs[k]? = some x := ⟨_, List.getElem?_eq_getElem hkx⟩
      have hrd := Hh.out wr hm
      rw [Hn.out] at hrd
      obtain ⟨b, off, hA, hF, hbl, hr⟩ := cSl_at hrd (by rintro rfl; simp at hkx)
      have Htk : Hid (xs.take (k + 1) = xs.take k ++ [x]) := hidden (by rw [List.take_add_one, hx]; rfl)
      have Hlen : Hid ((xs.take k).length = k) := hidden (by simp; omega)
      have Hel := Hef.out x (List.mem_of_getElem? hx)
      obtain ⟨cs, hcs, hc⟩ := hr.get k x hx
      obtain ⟨A', n', cap', rfl, hn', hok1, hok2, hrd'⟩ := cOutc_iff.1 hcs
      have Hn' := hidden hn'
      have Hrd' := hidden hrd'
      have Hok : Hid (x.target.size ≤ maxLen ∧ (-9223372036854775808 ≤ x.exit ∧ x.exit ≤ 9223372036854775807)) := hidden ⟨hok1, hok2⟩
      have hel : n' ≤ 1000000 := by omega
      have c0 := hc 0 (by decide)
      have c1 := hc 1 (by decide)
      have c2 := hc 2 (by decide)
      simp only [show cOutc.size = 3 from rfl, Nat.add_zero, List.getElem?_cons_zero, List.getElem?_cons_succ] at c0 c1 c2
      subst hA
      have hne : b ≠ wr.heap.size := by omega
      have hblt : b < wr.heap.size := by omega
      have hkn : (k : Int) < n := by omega
      have HO := hidden hO
      have hblk := hidden hO.blk
      have Hm := hidden hm
      clear hO hm hrd hr hc hcs hx hF hn' hrd' hok1 hok2 Hel
      go_wp2_with fail
      have hbx := heap_alloc_new wr (.cells #[.string x.target, .int .i64 x.exit, .slice A' n' cap'] 75)
      have hm0 : Mod (fun _ => False) wr (wr.alloc (.cells #[.string x.target, .int .i64 x.exit, .slice A' n' cap'] 75)) := (Mod.refl _ _).alloc _
      generalize wr.alloc (.cells #[.string x.target, .int .i64 x.exit, .slice A' n' cap'] 75) = W0 at *
      have zW := hm0.size
      have hB0 : wr.heap.size < W0.heap.size := (Array.getElem?_eq_some_iff.1 hbx).1
      have hh0 := held3 hbx
      have Hh0 := hidden hh0
      have Hh0d : Hid (W0.drew.cell? ⟨wr.heap.size, 0, none⟩ = some (.string x.target) ∧ W0.drew.cell? ⟨wr.heap.size, 1, none⟩ = some (.int .i64 x.exit) ∧ W0.drew.cell? ⟨wr.heap.size, 2, none⟩ = some (.slice A' n' cap')) := hidden hh0
      have Hm0 : Hid (Mod (fun _ => False) wr W0.drew) := hidden hm0.drew
      have Hbx : Hid (W0.drew.heap[wr.heap.size]? = some (.cells #[.string x.target, .int .i64 x.exit, .slice A' n' cap'] 75 (0, 0))) := hidden hbx
      have Hrw : Hid ((cSl cEff).rd W0.drew (fun b => F b ∧ b < w.heap.size) [.slice A' n' cap'] x.effects) := hidden ((cSl cEff).mod Hrd'.out Hm0.out fun _ _ _ q => q)
      have Hlt0 : Hid (wr.heap.size < W0.drew.heap.size) := hidden hB0
      clear hbx hm0 c0 c1 c2
      go_region_held3 (fun W' => W'.cell? ⟨wr.heap.size, 0, none⟩ = some (.string x.target) ∧ W'.cell? ⟨wr.heap.size, 1, none⟩ = some (.int .i64 x.exit) ∧ W'.cell? ⟨wr.heap.size, 2, none⟩ = some (.slice A' n' cap'))
        (first | (with_reducible exact Hh0.out) | (with_reducible exact Hh0d.out) | (with_reducible exact Hh2.out) | (with_reducible exact Hh2a.out) | (with_reducible exact Hh3.out))
        (first
          | (go_at_call 82; refine (copyEff_calls _ _ _ _ _ (fun b => F b ∧ b < w.heap.size) Hn'.out Hrw.out hel).mono ?_; rintro e w2 ⟨v2, rfl, hv2, hm2⟩; obtain ⟨A2, k2, rfl⟩ := rd_slice hv2; have hmw := Hm0.out.trans hm2; have hb2 := hm2.heap Hbx.out (fun q => q); have Hh2 := hidden (held3 hb2); have Hh2a := hidden (held3 (hmx hb2 (.cells #[.string x.target, .int .i64 x.exit, .slice A2 x.effects.length k2] 96))); have hy2 : cOutc.rd w2 (CopyF W0.drew (fun b => F b ∧ b < w.heap.size)) [.string x.target, .int .i64 x.exit, .slice A2 x.effects.length k2] x := cOutc_iff.2 ⟨_, _, _, rfl, rfl, Hok.out.1, Hok.out.2, hv2⟩; have HY := hidden (rdAt_new hy2 96); have HO2 := hidden (own_alloc (HO.out.mod hmw (fun _ _ q => q) (fun _ _ _ q => q)) (.cells #[.string x.target, .int .i64 x.exit, .slice A2 x.effects.length k2] 96)); have z2 := hm2.size; have Hmw := hidden hmw; have Hb2 := hidden hb2; clear hv2 hm2 hmw hb2 hy2)
          | ((with_reducible refine step_app (c := cOutc) (v := u3) (s := .tmp 13) (x := .tmp 22) (ys := [x]) (off := 0) (cap := 1) hT HO2.out HY.out ?_ ?_ ?_ ?_ ?_); exact fun b hb _ => ⟨hb.elim (fun q => .inl (Nat.le_trans (Nat.le_trans hz (Nat.le_of_lt Hlt0.out)) q)) (fun q => .inr q.1), fun q => hb.elim (fun e => by have := hblk.out b q.symm; have := Hlt0.out; omega) (fun e => by have := hblk.out b q.symm; have := e.1.2; omega)⟩; (simp; have := Hmw.out.size; omega); (rw [Hlen.out]; show k + 1 ≤ _; omega); exact ⟨⟨rfl, rfl⟩, rfl, rfl⟩; intro v1 w3 hO3 hm3 hat; have Hh3 := hidden (held3 (hm3.heap (hmx Hb2.out _) (fun q => by have := hblk.out _ q.symm; omega))); have HO3 := hidden hO3; have Hm3 := hidden hm3; clear hO3 hm3 hat))
      go_wp2_with fail
      go_roundw
      case rel => exact ⟨k + 1, by omega, by go_num, by rw [Htk.out]; exact HO3.out, ((Hm.out.trans Hmw.out).alloc _).trans' Hm3.out fun x hx q => by have := hblk.out x q.symm; omega⟩
      case measure => simp [intOf]; omega
    · obtain rfl : k = n := by omega
      rw [List.take_of_length_le (by rw [Hn.out]; exact Nat.le_refl _)] at hO
      have Hfin : Hid (CopyPost cOutc F xs w (.returned u3) wr) := hidden ⟨u3, rfl, hO.read (fun _ q => q) (fun _ q => .inl q), hm⟩
      clear hO hm
      go_wp2
      go_ret
      exact Hfin.out
end Go.Proofs.YtpfaognjfbilmaaDoor
