/- The walk of the document's Env.Set: it answers. -/
import Derived.Test.YthgibbekfcenhaaGreatDoorEnvE
namespace Go.Proofs.YthgibbekfcenhaaGreatDoor
open Go.RowKit

/-- Block g is the document's Env, of N variables at most; block b is another's. -/
def EnvR (W : World) (g b N : Nat) : Prop := ∃ (A : Option Addr) (n k : Nat) (xs : List PHdr), W.heap[g]? = some (.cells #[.slice A n k] 133 (0, 0)) ∧ n = xs.length ∧ (cSl cHdr).rd W (fun x => x ≠ g ∧ x ≠ b) [.slice A n k] xs ∧ n ≤ N
theorem EnvR.mod {S : Fp} {W W' : World} {g b N M : Nat} (h : EnvR W g b N) (hm : Mod S W W') (hS : ∀ x, x < W.heap.size → S x → x = b) (hg : g ≠ b) (hN : N ≤ M) : EnvR W' g b M := by
  obtain ⟨A, n, k, xs, h1, h2, h3, h4⟩ := h
  refine ⟨A, n, k, xs, hm.heap h1 (fun q => hg (hS g (Array.getElem?_eq_some_iff.1 h1).1 q)), h2, (cSl cHdr).mod h3 hm fun x hx hl q => hx.2 (hS x hl q), by omega⟩
theorem own_drew {α : Type} {c : Cd α} {e : TypeId} {W : World} {base : Nat} {F : Fp} {v : Value} {xs : List α} (h : Own c e W base F v xs) : Own c e W.drew base F v xs := h.mod (Mod.refl (fun _ => False) _).drew (fun _ _ q => q) (fun _ _ _ q => q)
theorem hdr_rd (W : World) (F : Fp) (x : PHdr) : cHdr.rd W F (Value.agg #[.string x.name, .slice x.base x.len x.cap, .int .i64 x.level, .bool x.hidden]).cells.toList x := rfl
theorem hdr_rd' (W : World) (F : Fp) (n : ByteArray) (A : Option Addr) (k c : Nat) (l : Int) (h : Bool) : cHdr.rd W F (Value.agg #[.string n, .slice A k c, .int .i64 l, .bool h]).cells.toList ⟨n, A, k, c, l, h⟩ := rfl
def RefSetPost (g b M : Nat) (w : World) (e : Ending) (w' : World) : Prop := (∃ u, e = .returned u) ∧ EnvR w' g b M ∧ Mod (· = g) w w'

set_option maxRecDepth 10000 in
set_option maxHeartbeats 4000000 in
theorem refSet_calls (w : World) (F : Fp) (v : PVar) (a1 a2 a3 a4 : Value) (h : cVar.rd w F [a1, a2, a3, a4] v) (hlen : v.words.length ≤ 1000) (g b N : Nat) (hR : EnvR w g b N) (hgb : g ≠ b) (hb : b < w.heap.size) (hN : N ≤ 1000000000) :
    Calls Tryz.prog 58 #[.pointer (some ⟨g, 0, none⟩), .agg #[a1, a2, a3, a4]] w (RefSetPost g b (2 * N + 1) w) := by
  have HR := hidden hR
  have Hgb := hidden hgb
  have Hb := hidden hb
  obtain ⟨R, n, r1, xs, hg, hn, hrd, hnN⟩ := hR
  have Hv := hidden (cVar.alloc h (.cells #[a1, a2, a3, a4] 72))
  obtain ⟨A, k1, rfl, rfl, rfl, rfl, -⟩ := var_cells h
  have Hl := hidden hlen
  obtain ⟨vn, vw, vl, vh⟩ := v
  simp only at Hv ⊢
  clear h hlen
  generalize vw.length = n0 at Hv ⊢
  have Hn := hidden hn
  have Hg := hidden hg
  have Hx : Hid (∀ W, Mod (fun _ => False) w W → (cSl cHdr).rd W (fun x => x < w.heap.size) [.slice R n r1] xs) := hidden fun W hW => (cSl cHdr).wider ((cSl cHdr).mod ((cSl cHdr).bound hrd) hW fun _ _ _ q => q) fun _ hb _ => hb.2
  have Hrd : Hid (∀ W, Mod (fun _ => False) w W → (cSl cHdr).rd W (fun x => x ≠ g ∧ x ≠ b) [.slice R n r1] xs) := hidden fun W hW => (cSl cHdr).mod hrd hW fun _ _ _ q => q
  have Hbx0 := hidden (heap_alloc_new w (.cells #[.string vn, .slice A n0 k1, .int .i64 vl, .bool vh] 72))
  have Hm0 : Hid (Mod (fun _ => False) w (w.alloc (.cells #[.string vn, .slice A n0 k1, .int .i64 vl, .bool vh] 72))) := hidden ((Mod.refl _ _).alloc _)
  have Hz0 : Hid (w.heap.size < (World.heap (w.alloc (.cells #[.string vn, .slice A n0 k1, .int .i64 vl, .bool vh] 72))).size) := hidden (by simp)
  have hT : SlT Tryz.prog 36 72 cHdr.size := slT_of (by kernel_rfl)
  clear hn hg hrd hb hgb
  go_enter Tryz.func58, Tryz.ntmps58
  go_wp2_with fail
  refine (refCheck_calls _ F ⟨vn, vw, vl, vh⟩ _ _ _ _ Hv.out Hl.out).mono ?_
  rintro e w1 ⟨⟨z, rfl⟩, hm1⟩
  have Hm1 := hidden (Hm0.out.trans hm1)
  have Hbx1 := hidden (hm1.heapF Hbx0.out)
  have Hz1 := hidden (Nat.lt_of_lt_of_le Hz0.out hm1.size)
  clear hm1
  by_cases hz : z = 0
  case neg =>
    have d0 : (z != 0) = true := by simp [hz]
    clear hz
    go_wp2_with fail
    go_ret
    exact ⟨⟨_, rfl⟩, HR.out.mod Hm1.out (fun _ _ q => q.elim) Hgb.out (by omega), Hm1.out.mono fun _ _ q => q.elim⟩
  subst hz
  have c0 := cell_lit Hbx1.out (j := 0) rfl
  go_wp2_with fail
  refine (refAt_calls _ _ g R n r1 xs vn (Hm1.out.heapF Hg.out) Hn.out (Hrd.out _ Hm1.out) (by omega)).mono ?_
  rintro e w2 ⟨⟨z, rfl, hz1, hz2⟩, hm2⟩
  have Hm2 := hidden (Hm1.out.trans hm2)
  have Hbx2 := hidden (hm2.heapF Hbx1.out)
  have Hz2 := hidden (Nat.lt_of_lt_of_le Hz1.out hm2.size)
  clear hm2 c0
  have Hbox := Hbx2
  have Hwz := Hz2
  have Hwb := Hm2
  have hside : (z < 0 ∧ (24 : Int) ≤ n) ∨ (z < 0 ∧ (n : Int) < 24) ∨ 0 ≤ z := by omega
  go_upto_region 5 with fail
  rcases hside with ⟨hz, hn24⟩ | ⟨hz, hn24⟩ | hz
  case inl =>
    have hg2 := cell_lit (Hm2.out.heapF Hg.out) (j := 0) rfl
    have d0 : decide (0 ≤ z) = false := decide_eq_false (by omega)
    have hlt : z < 0 := hz
    go_region
    all_goals (go_wp2_with fail)
    go_ret
    exact ⟨⟨_, rfl⟩, HR.out.mod Hm2.out.drew (fun _ _ q => q.elim) Hgb.out (by omega), Hm2.out.drew.mono fun _ _ q => q.elim⟩
  case inr.inl =>
    have hg2 := cell_lit (Hm2.out.heapF Hg.out) (j := 0) rfl
    have d0 : decide (0 ≤ z) = false := decide_eq_false (by omega)
    have hlt : z < 0 := hz
    go_region
    all_goals (go_upto_region 9 with fail)
    go_cut [7] (fun s7 wx => Own cHdr 72 wx w2.heap.size (fun _ => False) s7 [] ∧ Mod (fun _ => False) w2 wx)
    case first =>
      go_wp2_with fail
      go_meet
      exact ⟨own_drew (Own.empty _ _ _ _ _ (Nat.le_refl _)), ((Mod.refl _ _).alloc _).drew⟩
    case rest =>
      obtain ⟨hO0, hmc⟩ := hcut
      obtain ⟨Av0, nv0, kv0, rfl⟩ := hO0.shape'
      have HO0 := hidden hO0
      have Hmc := hidden hmc
      have hgc := cell_lit ((Hm2.out.trans Hmc.out).heapF Hg.out) (j := 0) rfl
      clear hO0 hmc
      go_wp2_with fail
      clear hgc
      go_loopw [52, 7] (fun i v wr => ∃ (k : Nat) (ys : List PHdr), k ≤ n ∧ i = .int .i64 k ∧ Own cHdr 72 wr w2.heap.size (fun _ => False) v ys ∧ ys.length ≤ k ∧ Mod (fun _ => False) w2 wr) (fun i _ _ => n - (intOf i).toNat)
      case atStart => exact ⟨0, [], Nat.zero_le _, rfl, HO0.out, by simp, Hmc.out⟩
      obtain ⟨k, ys, hk, rfl, hO, hyl, hmod⟩ := hrel
      obtain ⟨Av, nv, kv, rfl⟩ := hO.shape'
      have HO := hidden hO
      have Hmod := hidden hmod
      have hblk := hidden hO.blk
      have hzr := hmod.size
      clear hO hmod
      by_cases hlt : k < n
      case pos =>
        have hkx : k < xs.length := by rw [← Hn.out]; exact hlt
        obtain ⟨x, hx⟩ : ∃ x, xs[k]? = some x := ⟨_, List.getElem?_eq_getElem hkx⟩
        have hrx := Hx.out wr (Hwb.out.trans Hmod.out)
        rw [Hn.out] at hrx
        obtain ⟨bx, offx, hA, _, hbx, hrx⟩ := cSl_at hrx (by rintro rfl; simp at hkx)
        obtain ⟨cs, rfl, hcx⟩ := hrx.get k x hx
        have c0 := hcx 0 (by decide)
        have c1 := hcx 1 (by decide)
        have c2 := hcx 2 (by decide)
        have c3 := hcx 3 (by decide)
        simp only [show cHdr.size = 4 from rfl, Nat.add_zero, List.getElem?_cons_zero, List.getElem?_cons_succ] at c0 c1 c2 c3
        (first | subst hA | (simp only [Option.some.injEq, Addr.mk.injEq, and_true] at hA; obtain ⟨rfl, rfl⟩ := hA))
        have hne : bx ≠ wr.heap.size := by omega
        have hb0 := cell_lit (Hmod.out.heapF Hbox.out) (j := 0) rfl
        have hlt2 : w.heap.size < wr.heap.size := by have := Hwz.out; omega
        have hne2 : w.heap.size ≠ wr.heap.size := by omega
        have hkn : (k : Int) < n := by omega
        have h0k : (0 : Int) ≤ k := by omega
        have Hlt := hidden hlt
        clear hrx hcx hx
        go_wp2_with ((with_reducible refine wpList_app1s (o := ⟨some 63, _, _, _, _, _⟩) (c := cHdr) (F1 := fun _ => False) (d := 63) (s := .tmp 61) (x := .tmp 62) (v := .slice Av nv kv) (y := .agg #[.string x.name, .slice x.base x.len x.cap, .int .i64 x.level, .bool x.hidden]) (z := x) hT (hdr_rd _ _ _) (own_alloc HO.out _) (fun k hk _ => hk.elim) ?_ ?_ ?_ ?_); (simp; omega); (simp; omega); exact ⟨⟨rfl, rfl, rfl, rfl, rfl⟩, rfl, rfl, rfl⟩; intro v1 w3 hO3 hm3 hat; obtain ⟨Av', nv', kv', rfl⟩ := hO3.shape'; have HO3 := hidden hO3; have Hm3 := hidden hm3; clear hO3 hm3 hat)
        all_goals
          go_roundw
          case measure => simp [intOf]; omega
          case rel =>
            first
              | exact ⟨k + 1, ys, by omega, by go_num, own_alloc HO.out _, by omega, Hmod.out.alloc _⟩
              | exact ⟨k + 1, _, by omega, by go_num, HO3.out, by simp; omega, (Hmod.out.alloc _).trans' Hm3.out fun q hq e => by have := hblk.out q e.symm; omega⟩
      obtain rfl : n = k := by omega
      have hkn : ¬ (n : Int) < n := by omega
      have hgr := cell_lit ((Hwb.out.trans Hmod.out).heapF Hg.out) (j := 0) rfl
      have hb0 := cell_lit (Hmod.out.heapF Hbox.out) (j := 0) rfl
      have hb1 := cell_lit (Hmod.out.heapF Hbox.out) (j := 1) rfl
      have hb2 := cell_lit (Hmod.out.heapF Hbox.out) (j := 2) rfl
      have hb3 := cell_lit (Hmod.out.heapF Hbox.out) (j := 3) rfl
      go_wp2_with ((with_reducible refine wpList_app1s (o := ⟨some 68, _, _, _, _, _⟩) (c := cHdr) (F1 := fun _ => False) (d := 68) (s := .tmp 66) (x := .tmp 67) (v := .slice Av nv kv) (y := .agg #[.string vn, .slice A n0 k1, .int .i64 vl, .bool vh]) (z := ⟨vn, A, n0, k1, vl, vh⟩) hT (hdr_rd' _ _ vn A n0 k1 vl vh) HO.out (fun k hk _ => hk.elim) ?_ ?_ ?_ ?_); omega; omega; exact ⟨⟨rfl, rfl, rfl, rfl, rfl⟩, rfl, rfl, rfl⟩; intro v1 w3 hO3 hm3 hat; obtain ⟨Av', nv', kv', rfl⟩ := hO3.shape'; have HO3 := hidden hO3; have Hm3 := hidden hm3; have hm23 := Hmod.out.trans' hm3 (fun q hq e => (by have := hblk.out q e.symm; omega)); have hgr3 := cell_lit ((Hwb.out.trans hm23).heapF Hg.out) (j := 0) rfl; have Hm23 := hidden hm23; clear hO3 hm3 hat hm23)
      have Hyl := hidden hyl
      clear hgr hb0 hb1 hb2 hb3 hgr3 hkn HO Hmod hblk
      go_loopw [75, 7] (fun i v wr => ∃ (k : Nat) (ys : List PHdr), k ≤ n ∧ i = .int .i64 k ∧ Own cHdr 72 wr w2.heap.size (fun _ => False) v ys ∧ ys.length ≤ n + 1 + k ∧ Mod (fun _ => False) w2 wr) (fun i _ _ => n - (intOf i).toNat)
      case atStart => exact ⟨0, _, Nat.zero_le _, rfl, HO3.out, by have := Hyl.out; simp; omega, Hm23.out⟩
      obtain ⟨k, ys, hk, rfl, hO, hyl2, hmod⟩ := hrel
      obtain ⟨Av, nv, kv, rfl⟩ := hO.shape'
      have HO := hidden hO
      have Hmod := hidden hmod
      have hblk := hidden hO.blk
      have hzr := hmod.size
      clear hO hmod
      by_cases hlt : k < n
      case pos =>
        have hkx : k < xs.length := by rw [← Hn.out]; exact hlt
        obtain ⟨x, hx⟩ : ∃ x, xs[k]? = some x := ⟨_, List.getElem?_eq_getElem hkx⟩
        have hrx := Hx.out wr (Hwb.out.trans Hmod.out)
        rw [Hn.out] at hrx
        obtain ⟨bx, offx, hA, _, hbx, hrx⟩ := cSl_at hrx (by rintro rfl; simp at hkx)
        obtain ⟨cs, rfl, hcx⟩ := hrx.get k x hx
        have c0 := hcx 0 (by decide)
        have c1 := hcx 1 (by decide)
        have c2 := hcx 2 (by decide)
        have c3 := hcx 3 (by decide)
        simp only [show cHdr.size = 4 from rfl, Nat.add_zero, List.getElem?_cons_zero, List.getElem?_cons_succ] at c0 c1 c2 c3
        (first | subst hA | (simp only [Option.some.injEq, Addr.mk.injEq, and_true] at hA; obtain ⟨rfl, rfl⟩ := hA))
        have hne : bx ≠ wr.heap.size := by omega
        have hb0 := cell_lit (Hmod.out.heapF Hbox.out) (j := 0) rfl
        have hlt2 : w.heap.size < wr.heap.size := by have := Hwz.out; omega
        have hne2 : w.heap.size ≠ wr.heap.size := by omega
        have hkn : (k : Int) < n := by omega
        have h0k : (0 : Int) ≤ k := by omega
        have Hlt := hidden hlt
        clear hrx hcx hx
        go_wp2_with ((with_reducible refine wpList_app1s (o := ⟨some 86, _, _, _, _, _⟩) (c := cHdr) (F1 := fun _ => False) (d := 86) (s := .tmp 84) (x := .tmp 85) (v := .slice Av nv kv) (y := .agg #[.string x.name, .slice x.base x.len x.cap, .int .i64 x.level, .bool x.hidden]) (z := x) hT (hdr_rd _ _ _) (own_alloc HO.out _) (fun k hk _ => hk.elim) ?_ ?_ ?_ ?_); (simp; omega); (simp; omega); exact ⟨⟨rfl, rfl, rfl, rfl, rfl⟩, rfl, rfl, rfl⟩; intro v1 w3 hO3 hm3 hat; obtain ⟨Av', nv', kv', rfl⟩ := hO3.shape'; have HO3 := hidden hO3; have Hm3 := hidden hm3; clear hO3 hm3 hat)
        all_goals
          go_roundw
          case measure => simp [intOf]; omega
          case rel =>
            first
              | exact ⟨k + 1, ys, by omega, by go_num, own_alloc HO.out _, by omega, Hmod.out.alloc _⟩
              | exact ⟨k + 1, _, by omega, by go_num, HO3.out, by simp; omega, (Hmod.out.alloc _).trans' Hm3.out fun q hq e => by have := hblk.out q e.symm; omega⟩
      obtain rfl : n = k := by omega
      have hkn : ¬ (n : Int) < n := by omega
      have hg9 := (Hwb.out.trans Hmod.out).heapF Hg.out
      have r0 := cell_lit hg9 (j := 0) rfl
      have q0 := free_lit hg9 0
      have Hg9 := hidden hg9
      clear hg9
      go_wp2_with fail
      go_ret
      have hgl := (Array.getElem?_eq_some_iff.1 Hg.out).1
      have hbl := Hb.out
      have hwz := Hwz.out
      have hrd := HO.out.read (F' := fun x => x ≠ g ∧ x ≠ b) (fun _ q => q.elim) (fun q hq => ⟨by omega, by omega⟩)
      obtain ⟨A', cap', he, _⟩ := HO.out.shape
      have hnv : nv = ys.length := by simp only [Value.slice.injEq] at he; exact he.2.1
      have hset : Mod (· = g) wr (wr.setCell ⟨g, 0, none⟩ (.slice Av nv kv)) := (Mod.refl _ _).set1 _ _
      exact ⟨⟨_, rfl⟩, ⟨Av, nv, kv, ys, set_lit Hg9.out 0 _, hnv, (cSl cHdr).mod hrd hset fun x hx _ q => hx.1 q, by omega⟩, ((Hwb.out.trans Hmod.out).mono fun _ _ q => q.elim).trans hset⟩
  case inr.inr =>
    obtain ⟨q, rfl⟩ : ∃ q : Nat, z = q := ⟨z.toNat, by omega⟩
    have hqn : q < xs.length := by rw [← Hn.out]; omega
    obtain ⟨x, hx⟩ : ∃ x, xs[q]? = some x := ⟨_, List.getElem?_eq_getElem hqn⟩
    have Hxq := hidden hx
    obtain ⟨bx, offx, hA, hbx⟩ : ∃ bx offx, R = some ⟨bx, offx, none⟩ ∧ ∀ W, Mod (fun _ => False) w W → W.cell? ⟨bx, offx + q * 4 + 2, none⟩ = some (.int .i64 x.level) := by
      have h1 := Hx.out w (Mod.refl _ _)
      rw [Hn.out] at h1
      obtain ⟨bx, offx, hA, _⟩ := cSl_at h1 (by rintro rfl; simp at hqn)
      refine ⟨bx, offx, hA, fun W hW => ?_⟩
      have h2 := Hx.out W hW
      rw [Hn.out] at h2
      obtain ⟨bx', offx', hA', _, _, hr⟩ := cSl_at h2 (by rintro rfl; simp at hqn)
      rw [hA] at hA'
      simp only [Option.some.injEq, Addr.mk.injEq, and_true] at hA'
      obtain ⟨rfl, rfl⟩ := hA'
      obtain ⟨cs, rfl, hc⟩ := hr.get q x hx
      exact hc 2 (by decide)
    subst hA
    have d0 : decide (0 ≤ (q : Int)) = true := decide_eq_true hz
    have hqi : (q : Int) < n := by rw [Hn.out]; omega
    have HS : Hid (∀ W', Mod (fun _ => False) w2 W' → W'.cell? ⟨g, 0, none⟩ = some (.slice (some ⟨bx, offx, none⟩) n r1) ∧ W'.cell? ⟨bx, offx + q * 4 + 2, none⟩ = some (.int .i64 x.level) ∧ W'.cell? ⟨w.heap.size, 2, none⟩ = some (.int .i64 vl)) := hidden fun W' h' =>
      ⟨cell_lit (h'.heapF (Hm2.out.heapF Hg.out)) (j := 0) rfl, hbx W' (Hm2.out.trans h'), cell_lit (h'.heapF Hbx2.out) (j := 2) rfl⟩
    have Hcur : Hid (Mod (fun _ => False) w2 w2.drew) := hidden (Mod.refl _ _).drew
    clear hx hbx hz
    by_cases hle : vl < x.level
    case pos =>
      have d1 : decide (vl < x.level) = true := decide_eq_true hle
      go_region_held3 (fun W' => W'.cell? ⟨g, 0, none⟩ = some (.slice (some ⟨bx, offx, none⟩) n r1) ∧ W'.cell? ⟨bx, offx + q * 4 + 2, none⟩ = some (.int .i64 x.level) ∧ W'.cell? ⟨w.heap.size, 2, none⟩ = some (.int .i64 vl))
        (first | (with_reducible exact HS.out _ Hcur.out) | (with_reducible exact HS.out _ (Mod.refl _ _))) (fail)
      all_goals (go_wp2_with fail)
      go_ret
      exact ⟨⟨_, rfl⟩, HR.out.mod Hm2.out.drew (fun _ _ q => q.elim) Hgb.out (by omega), Hm2.out.drew.mono fun _ _ q => q.elim⟩
    have d1 : decide (vl < x.level) = false := decide_eq_false hle
    go_region_held3 (fun W' => W'.cell? ⟨g, 0, none⟩ = some (.slice (some ⟨bx, offx, none⟩) n r1) ∧ W'.cell? ⟨bx, offx + q * 4 + 2, none⟩ = some (.int .i64 x.level) ∧ W'.cell? ⟨w.heap.size, 2, none⟩ = some (.int .i64 vl))
      (first | (with_reducible exact HS.out _ Hcur.out) | (with_reducible exact HS.out _ (Mod.refl _ _))) (fail)
    have hnz : ¬ (q : Int) < 0 := by omega
    all_goals (go_upto_region 9 with fail)
    go_cut [7] (fun s7 wx => Own cHdr 72 wx w2.heap.size (fun _ => False) s7 [] ∧ Mod (fun _ => False) w2 wx)
    case first =>
      go_wp2_with fail
      go_meet
      exact ⟨own_drew (Own.empty _ _ _ _ _ (Nat.le_refl _)), ((Mod.refl _ _).alloc _).drew⟩
    case rest =>
      obtain ⟨hO0, hmc⟩ := hcut
      obtain ⟨Av0, nv0, kv0, rfl⟩ := hO0.shape'
      have HO0 := hidden hO0
      have Hmc := hidden hmc
      have hgc := cell_lit ((Hm2.out.trans Hmc.out).heapF Hg.out) (j := 0) rfl
      clear hO0 hmc
      go_wp2_with fail
      clear hgc
      go_loopw [52, 7] (fun i v wr => ∃ (k : Nat) (ys : List PHdr), k ≤ n ∧ i = .int .i64 k ∧ Own cHdr 72 wr w2.heap.size (fun _ => False) v ys ∧ ys.length ≤ k ∧ Mod (fun _ => False) w2 wr) (fun i _ _ => n - (intOf i).toNat)
      case atStart => exact ⟨0, [], Nat.zero_le _, rfl, HO0.out, by simp, Hmc.out⟩
      obtain ⟨k, ys, hk, rfl, hO, hyl, hmod⟩ := hrel
      obtain ⟨Av, nv, kv, rfl⟩ := hO.shape'
      have HO := hidden hO
      have Hmod := hidden hmod
      have hblk := hidden hO.blk
      have hzr := hmod.size
      clear hO hmod
      by_cases hlt : k < n
      case pos =>
        have hkx : k < xs.length := by rw [← Hn.out]; exact hlt
        obtain ⟨x, hx⟩ : ∃ x, xs[k]? = some x := ⟨_, List.getElem?_eq_getElem hkx⟩
        have hrx := Hx.out wr (Hwb.out.trans Hmod.out)
        rw [Hn.out] at hrx
        obtain ⟨bx, offx, hA, _, hbx, hrx⟩ := cSl_at hrx (by rintro rfl; simp at hkx)
        obtain ⟨cs, rfl, hcx⟩ := hrx.get k x hx
        have c0 := hcx 0 (by decide)
        have c1 := hcx 1 (by decide)
        have c2 := hcx 2 (by decide)
        have c3 := hcx 3 (by decide)
        simp only [show cHdr.size = 4 from rfl, Nat.add_zero, List.getElem?_cons_zero, List.getElem?_cons_succ] at c0 c1 c2 c3
        (first | subst hA | (simp only [Option.some.injEq, Addr.mk.injEq, and_true] at hA; obtain ⟨rfl, rfl⟩ := hA))
        have hne : bx ≠ wr.heap.size := by omega
        have hb0 := cell_lit (Hmod.out.heapF Hbox.out) (j := 0) rfl
        have hlt2 : w.heap.size < wr.heap.size := by have := Hwz.out; omega
        have hne2 : w.heap.size ≠ wr.heap.size := by omega
        have hkn : (k : Int) < n := by omega
        have h0k : (0 : Int) ≤ k := by omega
        have Hlt := hidden hlt
        clear hrx hcx hx
        go_wp2_with ((with_reducible refine wpList_app1s (o := ⟨some 63, _, _, _, _, _⟩) (c := cHdr) (F1 := fun _ => False) (d := 63) (s := .tmp 61) (x := .tmp 62) (v := .slice Av nv kv) (y := .agg #[.string x.name, .slice x.base x.len x.cap, .int .i64 x.level, .bool x.hidden]) (z := x) hT (hdr_rd _ _ _) (own_alloc HO.out _) (fun k hk _ => hk.elim) ?_ ?_ ?_ ?_); (simp; omega); (simp; omega); exact ⟨⟨rfl, rfl, rfl, rfl, rfl⟩, rfl, rfl, rfl⟩; intro v1 w3 hO3 hm3 hat; obtain ⟨Av', nv', kv', rfl⟩ := hO3.shape'; have HO3 := hidden hO3; have Hm3 := hidden hm3; clear hO3 hm3 hat)
        all_goals
          go_roundw
          case measure => simp [intOf]; omega
          case rel =>
            first
              | exact ⟨k + 1, ys, by omega, by go_num, own_alloc HO.out _, by omega, Hmod.out.alloc _⟩
              | exact ⟨k + 1, _, by omega, by go_num, HO3.out, by simp; omega, (Hmod.out.alloc _).trans' Hm3.out fun q hq e => by have := hblk.out q e.symm; omega⟩
      obtain rfl : n = k := by omega
      have hkn : ¬ (n : Int) < n := by omega
      have hgr := cell_lit ((Hwb.out.trans Hmod.out).heapF Hg.out) (j := 0) rfl
      have hb0 := cell_lit (Hmod.out.heapF Hbox.out) (j := 0) rfl
      have hb1 := cell_lit (Hmod.out.heapF Hbox.out) (j := 1) rfl
      have hb2 := cell_lit (Hmod.out.heapF Hbox.out) (j := 2) rfl
      have hb3 := cell_lit (Hmod.out.heapF Hbox.out) (j := 3) rfl
      go_wp2_with ((with_reducible refine wpList_app1s (o := ⟨some 68, _, _, _, _, _⟩) (c := cHdr) (F1 := fun _ => False) (d := 68) (s := .tmp 66) (x := .tmp 67) (v := .slice Av nv kv) (y := .agg #[.string vn, .slice A n0 k1, .int .i64 vl, .bool vh]) (z := ⟨vn, A, n0, k1, vl, vh⟩) hT (hdr_rd' _ _ vn A n0 k1 vl vh) HO.out (fun k hk _ => hk.elim) ?_ ?_ ?_ ?_); omega; omega; exact ⟨⟨rfl, rfl, rfl, rfl, rfl⟩, rfl, rfl, rfl⟩; intro v1 w3 hO3 hm3 hat; obtain ⟨Av', nv', kv', rfl⟩ := hO3.shape'; have HO3 := hidden hO3; have Hm3 := hidden hm3; have hm23 := Hmod.out.trans' hm3 (fun q hq e => (by have := hblk.out q e.symm; omega)); have hgr3 := cell_lit ((Hwb.out.trans hm23).heapF Hg.out) (j := 0) rfl; have Hm23 := hidden hm23; clear hO3 hm3 hat hm23)
      have Hyl := hidden hyl
      clear hgr hb0 hb1 hb2 hb3 hgr3 hkn HO Hmod hblk
      go_loopw [75, 7] (fun i v wr => ∃ (k : Nat) (ys : List PHdr), k ≤ n ∧ i = .int .i64 k ∧ Own cHdr 72 wr w2.heap.size (fun _ => False) v ys ∧ ys.length ≤ n + 1 + k ∧ Mod (fun _ => False) w2 wr) (fun i _ _ => n - (intOf i).toNat)
      case atStart => exact ⟨0, _, Nat.zero_le _, rfl, HO3.out, by have := Hyl.out; simp; omega, Hm23.out⟩
      obtain ⟨k, ys, hk, rfl, hO, hyl2, hmod⟩ := hrel
      obtain ⟨Av, nv, kv, rfl⟩ := hO.shape'
      have HO := hidden hO
      have Hmod := hidden hmod
      have hblk := hidden hO.blk
      have hzr := hmod.size
      clear hO hmod
      by_cases hlt : k < n
      case pos =>
        have hkx : k < xs.length := by rw [← Hn.out]; exact hlt
        obtain ⟨x, hx⟩ : ∃ x, xs[k]? = some x := ⟨_, List.getElem?_eq_getElem hkx⟩
        have hrx := Hx.out wr (Hwb.out.trans Hmod.out)
        rw [Hn.out] at hrx
        obtain ⟨bx, offx, hA, _, hbx, hrx⟩ := cSl_at hrx (by rintro rfl; simp at hkx)
        obtain ⟨cs, rfl, hcx⟩ := hrx.get k x hx
        have c0 := hcx 0 (by decide)
        have c1 := hcx 1 (by decide)
        have c2 := hcx 2 (by decide)
        have c3 := hcx 3 (by decide)
        simp only [show cHdr.size = 4 from rfl, Nat.add_zero, List.getElem?_cons_zero, List.getElem?_cons_succ] at c0 c1 c2 c3
        (first | subst hA | (simp only [Option.some.injEq, Addr.mk.injEq, and_true] at hA; obtain ⟨rfl, rfl⟩ := hA))
        have hne : bx ≠ wr.heap.size := by omega
        have hb0 := cell_lit (Hmod.out.heapF Hbox.out) (j := 0) rfl
        have hlt2 : w.heap.size < wr.heap.size := by have := Hwz.out; omega
        have hne2 : w.heap.size ≠ wr.heap.size := by omega
        have hkn : (k : Int) < n := by omega
        have h0k : (0 : Int) ≤ k := by omega
        have Hlt := hidden hlt
        clear hrx hcx hx
        go_wp2_with ((with_reducible refine wpList_app1s (o := ⟨some 86, _, _, _, _, _⟩) (c := cHdr) (F1 := fun _ => False) (d := 86) (s := .tmp 84) (x := .tmp 85) (v := .slice Av nv kv) (y := .agg #[.string x.name, .slice x.base x.len x.cap, .int .i64 x.level, .bool x.hidden]) (z := x) hT (hdr_rd _ _ _) (own_alloc HO.out _) (fun k hk _ => hk.elim) ?_ ?_ ?_ ?_); (simp; omega); (simp; omega); exact ⟨⟨rfl, rfl, rfl, rfl, rfl⟩, rfl, rfl, rfl⟩; intro v1 w3 hO3 hm3 hat; obtain ⟨Av', nv', kv', rfl⟩ := hO3.shape'; have HO3 := hidden hO3; have Hm3 := hidden hm3; clear hO3 hm3 hat)
        all_goals
          go_roundw
          case measure => simp [intOf]; omega
          case rel =>
            first
              | exact ⟨k + 1, ys, by omega, by go_num, own_alloc HO.out _, by omega, Hmod.out.alloc _⟩
              | exact ⟨k + 1, _, by omega, by go_num, HO3.out, by simp; omega, (Hmod.out.alloc _).trans' Hm3.out fun q hq e => by have := hblk.out q e.symm; omega⟩
      obtain rfl : n = k := by omega
      have hkn : ¬ (n : Int) < n := by omega
      have hg9 := (Hwb.out.trans Hmod.out).heapF Hg.out
      have r0 := cell_lit hg9 (j := 0) rfl
      have q0 := free_lit hg9 0
      have Hg9 := hidden hg9
      clear hg9
      go_wp2_with fail
      go_ret
      have hgl := (Array.getElem?_eq_some_iff.1 Hg.out).1
      have hbl := Hb.out
      have hwz := Hwz.out
      have hrd := HO.out.read (F' := fun x => x ≠ g ∧ x ≠ b) (fun _ q => q.elim) (fun q hq => ⟨by omega, by omega⟩)
      obtain ⟨A', cap', he, _⟩ := HO.out.shape
      have hnv : nv = ys.length := by simp only [Value.slice.injEq] at he; exact he.2.1
      have hset : Mod (· = g) wr (wr.setCell ⟨g, 0, none⟩ (.slice Av nv kv)) := (Mod.refl _ _).set1 _ _
      exact ⟨⟨_, rfl⟩, ⟨Av, nv, kv, ys, set_lit Hg9.out 0 _, hnv, (cSl cHdr).mod hrd hset fun x hx _ q => hx.1 q, by omega⟩, ((Hwb.out.trans Hmod.out).mono fun _ _ q => q.elim).trans hset⟩
end Go.Proofs.YthgibbekfcenhaaGreatDoor
