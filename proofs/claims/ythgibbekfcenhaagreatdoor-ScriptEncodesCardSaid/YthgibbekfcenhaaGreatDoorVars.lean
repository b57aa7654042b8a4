/- The walk of law17.Vars: two Envs of variables. -/
import Derived.Test.YthgibbekfcenhaaGreatDoorBig
import Derived.Test.YthgibbekfcenhaaGreatDoorOk
namespace Go.Proofs.YthgibbekfcenhaaGreatDoor
open Go.RowKit

/-- Two pointers and whether there are no more variables than are asked. -/
def VarsPost (xs : List PVar) (w : World) (e : Ending) (w' : World) : Prop := ∃ (p q : Value) (b : Bool), e = .returned (.tuple #[p, q, .bool b]) ∧ (b = true → okMany 30 lgVar xs = true) ∧ Mod (fun _ => False) w w'
theorem act_rd {W : World} {F : Fp} {v : PVar} {A : Option Addr} {n c : Nat} (h : cVar.rd W F [.string v.name, .slice A n c, .int .i64 v.level, .bool v.hidden] v) :
    cAct.rd W F (Value.agg #[.int .i64 0, .string v.name, .slice A n c, .int .i64 v.level, .bool v.hidden]).cells.toList v :=
  ⟨[.int .i64 0], _, rfl, ⟨rfl, (show (-9223372036854775808 : Int) ≤ 0 ∧ (0 : Int) ≤ 9223372036854775807 from by decide)⟩, h⟩

set_option maxRecDepth 10000 in
set_option maxHeartbeats 4000000 in
theorem vars_calls (A : Option Addr) (n k1 : Nat) (w : World) (F : Fp) (xs : List PVar) (hn : n = xs.length) (h : (cSl cVar).rd w F [.slice A n k1] xs) (hbig : n ≤ 2600000000000) (hE : Errs w) :
    Calls Tryz.prog 15 #[.slice A n k1] w (VarsPost xs w) := by
  have Hn := hidden hn
  have Hx : Hid (∀ W, Mod (fun _ => False) w W → (cSl cVar).rd W (fun b => F b ∧ b < w.heap.size) [.slice A n k1] xs) := hidden fun W hW => (cSl cVar).mod ((cSl cVar).bound h) hW fun _ _ _ q => q
  have HE : Hid (∀ W, Mod (fun _ => False) w W → Errs W) := hidden fun W hm => hE.mod hm fun _ _ q => q
  have hT : SlT Tryz.prog 134 136 cAct.size := slT_of (by kernel_rfl)
  have h64 : (Tryz.prog.info? 136).map (·.bytes) = some 64 := by kernel_rfl
  have H64 := hidden h64
  clear hn h hE h64
  go_enter Tryz.func15, Tryz.ntmps15
  go_wp2_with fail
  refine (envNew_calls _).mono ?_
  rintro e w1 ⟨g, b, rfl, henv, hg, hb, hm1⟩
  have Hm1 := hidden hm1
  have Henv := hidden henv
  clear henv hm1
  go_upto_region 2 with fail
  have hr := heap_alloc_new w1 (.cells #[.slice none 0 0] 133)
  have hm2 : Mod (fun _ => False) w1 (w1.alloc (.cells #[.slice none 0 0] 133)) := (Mod.refl _ _).alloc _
  have hz2 : w1.heap.size < (World.heap (w1.alloc (.cells #[.slice none 0 0] 133))).size := by simp
  generalize hg2 : w1.heap.size = g2 at *
  generalize w1.alloc (.cells #[.slice none 0 0] 133) = w2 at *
  have hbl : b < g2 := by obtain ⟨es, clock, hb, _⟩ := Henv.out.2; rw [← hg2]; exact (Array.getElem?_eq_some_iff.1 hb).1
  have hgl : g < g2 := by rw [← hg2]; exact (Array.getElem?_eq_some_iff.1 Henv.out.1).1
  have hwl : w.heap.size ≤ g2 := by rw [← hg2]; exact Hm1.out.size
  have HR0 : Hid (EnvR w2 g2 b 0) := hidden ⟨none, 0, 0, [], hr, rfl, ⟨none, 0, rfl, Nat.le_refl _, Nat.zero_le _, fun h => absurd rfl h⟩, Nat.le_refl _⟩
  have Henv2 : Hid (EnvAt w2 g b) := hidden ⟨hm2.heapF Henv.out.1, isVars_mod Henv.out.2 hm2 fun q => q⟩
  have Hm2 := hidden (Hm1.out.trans hm2)
  have Hbl := hidden hbl
  have Hgl := hidden hgl
  have Hwl := hidden hwl
  have Hz2 := hidden hz2
  have Hb0 := hidden hb
  clear hr hm2 hg2 Henv hz2 hbl hgl hwl hg hb
  go_cut [7] (fun s7 wx => Own cAct 136 wx w2.heap.size (fun b => F b ∧ b < w.heap.size) s7 [] ∧ Mod (fun _ => False) w2 wx)
  case first =>
    go_wp2_with fail
    go_meet
    exact ⟨Own.empty _ _ _ _ _ (Nat.le_refl _), (Mod.refl _ _).alloc _⟩
  case rest =>
    obtain ⟨hO0, hmc⟩ := hcut
    obtain ⟨Av0, nv0, kv0, rfl⟩ := hO0.shape'
    have HO0 := hidden hO0
    have Hmc := hidden hmc
    clear hO0 hmc
    go_wp2_with fail
    go_loopw [18, 7] (fun i v wr => ∃ k : Nat, k ≤ n ∧ i = .int .i64 k ∧ Own cAct 136 wr w2.heap.size (fun b => F b ∧ b < w.heap.size) v (xs.take k) ∧ Mod (fun _ => False) w2 wr) (fun i _ _ => n - (intOf i).toNat)
    case atStart => exact ⟨0, Nat.zero_le _, rfl, HO0.out, Hmc.out⟩
    obtain ⟨k, hk, rfl, hO, hmod⟩ := hrel
    obtain ⟨Av, nv, kv, rfl⟩ := hO.shape'
    have HO := hidden hO
    have Hmod := hidden hmod
    have hblk := hidden hO.blk
    have hzr := hmod.size
    clear hO hmod
    by_cases hlt : k < n
    case pos =>
      have hkx : k < xs.length := by rw [← Hn.out]; exact hlt
      obtain ⟨x, hx⟩ : ∃ x, xs[k]? = some x := ⟨_, List.getElem?_eq_getElem hkx⟩
      have Htk : Hid (xs.take (k + 1) = xs.take k ++ [x]) := hidden (by rw [List.take_add_one, hx]; rfl)
      have Hlen : Hid ((xs.take k).length = k) := hidden (by simp; omega)
      have hrx := Hx.out wr (Hm2.out.trans Hmod.out)
      rw [Hn.out] at hrx
      obtain ⟨bx, offx, hA, _, hbx, hrx⟩ := cSl_at hrx (by rintro rfl; simp at hkx)
      obtain ⟨cs, hcs, hcx⟩ := hrx.get k x hx
      obtain ⟨A', n', cap', rfl⟩ := cVar_shape hcs
      have Hy := hidden hcs
      have c0 := hcx 0 (by decide)
      have c1 := hcx 1 (by decide)
      have c2 := hcx 2 (by decide)
      have c3 := hcx 3 (by decide)
      simp only [show cVar.size = 4 from rfl, Nat.add_zero, List.getElem?_cons_zero, List.getElem?_cons_succ] at c0 c1 c2 c3
      subst hA
      have hne : bx ≠ wr.heap.size := by omega
      have hkn : (k : Int) < n := by omega
      have h0k : (0 : Int) ≤ k := by omega
      have Hlt := hidden hlt
      have Hwl2 : Hid (w.heap.size ≤ w2.heap.size) := hidden (by have := Hwl.out; have := Hz2.out; omega)
      clear hrx hcx hx hcs
      go_wp2_with ((with_reducible refine wpList_app1B (o := ⟨some 25, _, _, _, _, _⟩) (c := cAct) (F1 := fun b => F b ∧ b < w.heap.size) (d := 25) (s := .tmp 22) (x := .tmp 24) (v := .slice Av nv kv) (y := .agg #[.int .i64 0, .string x.name, .slice A' n' cap', .int .i64 x.level, .bool x.hidden]) (z := x) hT H64.out (act_rd (cVar.alloc Hy.out _)) (own_alloc HO.out _) (fun q hq _ => ⟨hq, fun r => by have := hblk.out q r.symm; have := hq.2; have := Hwl2.out; omega⟩) ?_ ?_ ?_ ?_); (simp; omega); (rw [Hlen.out]; omega); exact ⟨⟨rfl, rfl, rfl, rfl, rfl⟩, rfl, rfl, rfl⟩; intro v1 w3 hO3 hm3 hat; obtain ⟨Av', nv', kv', rfl⟩ := hO3.shape'; have HO3 := hidden hO3; have Hm3 := hidden hm3; clear hO3 hm3 hat)
      go_roundw
      case rel => exact ⟨k + 1, by omega, by go_num, by rw [Htk.out]; exact HO3.out, (Hmod.out.alloc _).trans' Hm3.out fun q hq e => by have := hblk.out q e.symm; omega⟩
      case measure => simp [intOf]; omega
    obtain rfl : n = k := by omega
    have hkn : ¬ (n : Int) < n := by omega
    have Htk : Hid (xs.take n = xs) := hidden (List.take_of_length_le (by rw [Hn.out]; exact Nat.le_refl _))
    obtain ⟨Av', kv', he, _⟩ := HO.out.shape
    have hnv : nv = n := by simp only [Value.slice.injEq] at he; rw [he.2.1, Htk.out, Hn.out]
    clear he
    subst hnv
    have Hacts : Hid ((cSl cAct).rd wr (fun _ => True) [.slice Av nv kv] xs) := hidden (by have := HO.out.read (F' := fun _ => True) (fun _ _ => trivial) (fun _ _ => trivial); rwa [Htk.out] at this)
    go_wp2_with fail
    refine (longActs_calls Av nv kv 30 30 rfl (by decide) _ _ xs Hn.out Hacts.out).mono ?_
    rintro e w4 ⟨b4, rfl, hgood, hm4⟩
    have Hm4 := hidden (Hmod.out.trans hm4)
    have Hgood := hidden hgood
    clear hm4 hgood
    cases b4
    case true =>
      go_wp2_with fail
      go_ret3
      exact ⟨_, _, _, rfl, fun q => (by cases q), Hm2.out.trans Hm4.out⟩
    have Hg30 := hidden (Hgood.out rfl)
    have hn30 := (okMany_len (Hgood.out rfl)).1
    have hn30' : nv ≤ 30 := by rw [Hn.out]; exact hn30
    have Hw := hidden (okMany_len (Hgood.out rfl)).2
    clear hn30 hblk hzr
    go_wp2_with fail
    go_loopw [36] (fun i wr => ∃ k N : Nat, k ≤ nv ∧ i = .int .i64 k ∧ N + 1 ≤ 2 ^ k ∧ EnvAt wr g b ∧ EnvR wr g2 b N ∧ w2.heap.size ≤ wr.heap.size ∧ Mod (fun _ => False) w wr) (fun i _ => nv - (intOf i).toNat)
    case atStart => exact ⟨0, 0, Nat.zero_le _, rfl, by decide, ⟨Hm4.out.heapF Henv2.out.1, isVars_mod Henv2.out.2 Hm4.out fun q => q⟩, HR0.out.mod Hm4.out (fun _ _ q => q.elim) (by have := Hbl.out; omega) (Nat.le_refl _), Hm4.out.size, Hm2.out.trans Hm4.out⟩
    obtain ⟨k, N, hk, rfl, hpow, henv, hr, hsz, hmod⟩ := hrel
    have Hmod2 := hidden hmod
    have Henv3 := hidden henv
    have HR := hidden hr
    have Hpow := hidden hpow
    clear hmod henv hr hpow
    by_cases hlt : k < nv
    case pos =>
      have hkx : k < xs.length := by rw [← Hn.out]; exact hlt
      obtain ⟨x, hx⟩ : ∃ x, xs[k]? = some x := ⟨_, List.getElem?_eq_getElem hkx⟩
      have hrx := Hx.out wr Hmod2.out
      rw [Hn.out] at hrx
      obtain ⟨bx, offx, hA, _, hbx, hrx⟩ := cSl_at hrx (by rintro rfl; simp at hkx)
      obtain ⟨cs, hcs, hcx⟩ := hrx.get k x hx
      obtain ⟨A', n', cap', rfl⟩ := cVar_shape hcs
      have Hy := hidden hcs
      have hwl : x.words.length ≤ 1000 := by
        have h1 := Hw.out x (List.mem_of_getElem? hx)
        unfold lgVar at h1
        rw [Bool.and_eq_true] at h1
        have := (okMany_len h1.2).1
        omega
      have Hwords := hidden hwl
      have c0 := hcx 0 (by decide)
      have c1 := hcx 1 (by decide)
      have c2 := hcx 2 (by decide)
      have c3 := hcx 3 (by decide)
      simp only [show cVar.size = 4 from rfl, Nat.add_zero, List.getElem?_cons_zero, List.getElem?_cons_succ] at c0 c1 c2 c3
      subst hA
      have hne : bx ≠ wr.heap.size := by omega
      have hkn : (k : Int) < nv := by omega
      have h0k : (0 : Int) ≤ k := by omega
      have hbr : b < wr.heap.size := by have := Hbl.out; have := Hz2.out; omega
      have hgr : g2 < wr.heap.size := by have := Hz2.out; omega
      have Hbr := hidden hbr
      have Hgr := hidden hgr
      have Hlt := hidden hlt
      clear hrx hcx hx hcs hwl hbr hgr
      go_wp2_with fail
      refine (envSet_calls _ _ x _ _ _ _ (cVar.alloc Hy.out _) Hwords.out (HE.out _ (Hmod2.out.alloc _)) g b ⟨hmx Henv3.out.1 _, isVars_mod Henv3.out.2 ((Mod.refl (fun _ => False) _).alloc _) (fun q => q)⟩).mono ?_
      rintro e w5 ⟨⟨u, rfl⟩, hv5, hm5⟩
      have hvb := hm5.heap (heap_alloc_new _ _) (by have := Hbr.out; omega)
      have v0 := cell_lit hvb (j := 0) rfl
      have v1 := cell_lit hvb (j := 1) rfl
      have v2 := cell_lit hvb (j := 2) rfl
      have v3 := cell_lit hvb (j := 3) rfl
      have Hm5 := hidden hm5
      have Hv5 := hidden hv5
      clear hvb hm5 hv5 c0 c1 c2 c3
      go_wp2_with fail
      refine (refSet_calls _ _ x _ _ _ _ (cVar.mod (cVar.alloc Hy.out _) Hm5.out fun q hq _ r => by have := hq.2; have := Hb0.out; omega) Hwords.out g2 b N ((HR.out.mod ((Mod.refl (fun _ => False) _).alloc _) (fun _ _ q => q.elim) (by have := Hbl.out; omega) (Nat.le_refl _)).mod Hm5.out (fun _ _ q => q) (by have := Hbl.out; omega) (Nat.le_refl _)) (by have := Hbl.out; omega) (by have h5 := Hm5.out.size; have := Hbr.out; rw [World.size_alloc] at h5; omega) (by
        have h1 := Hpow.out
        have h2 : 2 ^ k ≤ 2 ^ 29 := Nat.pow_le_pow_right (by decide) (by have := Hlt.out; omega)
        omega)).mono ?_
      rintro e w6 ⟨⟨u2, rfl⟩, hr6, hm6⟩
      have Hr6 := hidden hr6
      have Hm6 := hidden hm6
      clear hr6 hm6
      go_wp2_with fail
      go_roundw
      case rel =>
        refine ⟨k + 1, 2 * N + 1, by omega, by go_num, by have := Hpow.out; rw [Nat.pow_succ]; omega, ⟨?_, ?_⟩, Hr6.out, ?_, ?_⟩
        · exact Hm6.out.heap (Hm5.out.heap (hmx Henv3.out.1 _) (by
            rintro rfl
            obtain ⟨es, clock, h1, _⟩ := Henv3.out.2
            rw [Henv3.out.1] at h1
            cases h1)) (by have := Hgl.out; omega)
        · exact isVars_mod Hv5.out Hm6.out (by have := Hbl.out; omega)
        · have h6 := Hm6.out.size; have h5 := Hm5.out.size; rw [World.size_alloc] at h5; omega
        · exact ((Hmod2.out.alloc _).trans' Hm5.out fun q hq r => by have := Hb0.out; omega).trans' Hm6.out fun q hq r => by have := Hwl.out; omega
      case measure => simp [intOf]; omega
    obtain rfl : nv = k := by omega
    have hkn : ¬ (nv : Int) < nv := by omega
    go_wp2_with fail
    go_ret3
    exact ⟨_, _, _, rfl, fun _ => Hg30.out, Hmod2.out⟩
end Go.Proofs.YthgibbekfcenhaaGreatDoor
