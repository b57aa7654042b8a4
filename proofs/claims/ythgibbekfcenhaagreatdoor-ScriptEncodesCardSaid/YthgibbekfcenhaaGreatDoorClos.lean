/- The walks of the closures of script.Same. -/
import Derived.Test.YthgibbekfcenhaaGreatDoorSlEq
namespace Go.Proofs.YthgibbekfcenhaaGreatDoor
open Go.RowKit

set_option maxHeartbeats 1000000 in
theorem eqVar_calls (w : World) (F G : Fp) (x y : PVar) (a1 a2 a3 a4 b1 b2 b3 b4 : Value) (h : cVar.rd w F [a1, a2, a3, a4] x) (h' : cVar.rd w G [b1, b2, b3, b4] y) (hlen : x.words.length ≤ 1000000) :
    Calls Tryz.prog 31 #[.agg #[a1, a2, a3, a4], .agg #[b1, b2, b3, b4]] w (BoolPost (decide (x = y)) w) := by
  obtain ⟨A, k1, rfl, rfl, rfl, rfl, hx⟩ := var_cells h
  obtain ⟨B, k2, rfl, rfl, rfl, rfl, hy⟩ := var_cells h'
  obtain ⟨xn, xw, xl, xh⟩ := x
  obtain ⟨yn, yw, yl, yh⟩ := y
  simp only at *
  have Hdec : Hid (decide ((⟨xn, xw, xl, xh⟩ : PVar) = ⟨yn, yw, yl, yh⟩) = (decide (xn = yn) && (decide (xl = yl) && (decide (xh = yh) && decide (xw = yw))))) := hidden (by
    simp only [PVar.mk.injEq]
    by_cases q1 : xn = yn <;> by_cases q2 : xw = yw <;> by_cases q3 : xl = yl <;> by_cases q4 : xh = yh <;> simp [q1, q2, q3, q4])
  have Hx : Hid (∀ W, Mod (fun _ => False) w W → (cSl cStr).rd W F [.slice A xw.length k1] xw) := hidden fun W hW => (cSl cStr).mod hx hW fun _ _ _ q => q
  have Hy : Hid (∀ W, Mod (fun _ => False) w W → (cSl cStr).rd W G [.slice B yw.length k2] yw) := hidden fun W hW => (cSl cStr).mod hy hW fun _ _ _ q => q
  have Hm : Hid (∀ o o', Mod (fun _ => False) w ((w.alloc o).alloc o')) := hidden fun o o' => ((Mod.refl _ _).alloc _).alloc _
  clear h h' hx hy
  generalize hn : xw.length = n at *
  generalize hm : yw.length = m at *
  have Hn := hidden hn
  have Hmm := hidden hm
  clear hn hm
  have H1 := hidden (toList_beq xn yn)
  by_cases h1 : xn = yn
  · have c1 : (xn.toList == yn.toList) = true := by rw [H1.out, decide_eq_true h1]
    by_cases h2 : xl = yl
    · have c2 : (xl == yl) = true := by simp [h2]
      by_cases h3 : xh = yh
      · have c3 : (xh == yh) = true := by simp [h3]
        have Ha := hidden h1; have Hb := hidden h2; have Hc := hidden h3
        clear h1 h2 h3
        go_enter Tryz.func31, Tryz.ntmps31
        go_wp2_with (go_at_call 32; (with_reducible refine (eqStrings_calls _ _ _ _ _ _ _ _ _ _ _ Hn.out.symm Hmm.out.symm (Hx.out _ (Hm.out _ _)) (Hy.out _ (Hm.out _ _)) hlen).mono ?_); rintro e w2 ⟨rfl, hm2⟩; have Hm2 := hidden hm2; clear hm2)
        go_ret
        exact ⟨by rw [Hdec.out, decide_eq_true Ha.out, decide_eq_true Hb.out, decide_eq_true Hc.out]; rfl, (Hm.out _ _).trans Hm2.out⟩
      · have c3 : (xh == yh) = false := by simp [h3]
        go_enter Tryz.func31, Tryz.ntmps31
        go_wp2_with fail
        go_ret
        exact ⟨by rw [Hdec.out]; simp [*], Hm.out _ _⟩
    · have c2 : (xl == yl) = false := by simp [h2]
      go_enter Tryz.func31, Tryz.ntmps31
      go_wp2_with fail
      go_ret
      exact ⟨by rw [Hdec.out]; simp [*], Hm.out _ _⟩
  · have c1 : (xn.toList == yn.toList) = false := by rw [H1.out, decide_eq_false h1]
    go_enter Tryz.func31, Tryz.ntmps31
    go_wp2_with fail
    go_ret
    exact ⟨by rw [Hdec.out]; simp [*], Hm.out _ _⟩

set_option maxHeartbeats 1000000 in
theorem eqOutc_calls (w : World) (F G : Fp) (x y : POutc) (cs ds : List Value) (h : cOutc.rd w F cs x) (h' : cOutc.rd w G ds y) (hlen : x.effects.length ≤ 1000000) :
    Calls Tryz.prog 33 #[.agg cs.toArray, .agg ds.toArray] w (BoolPost (decide (x = y)) w) := by
  obtain ⟨A, n, k1, rfl, hn, _, _, hx⟩ := cOutc_iff.1 h
  obtain ⟨B, m, k2, rfl, hm, _, _, hy⟩ := cOutc_iff.1 h'
  obtain ⟨xt, xe, xs⟩ := x
  obtain ⟨yt, ye, ys⟩ := y
  simp only at *
  have Hdec : Hid (decide ((⟨xt, xe, xs⟩ : POutc) = ⟨yt, ye, ys⟩) = (decide (xt = yt) && (decide (xe = ye) && decide (xs = ys)))) := hidden (by
    simp only [POutc.mk.injEq]
    by_cases q1 : xt = yt <;> by_cases q2 : xe = ye <;> by_cases q3 : xs = ys <;> simp [q1, q2, q3])
  have Hx : Hid (∀ W, Mod (fun _ => False) w W → (cSl cEff).rd W F [.slice A n k1] xs) := hidden fun W hW => (cSl cEff).mod hx hW fun _ _ _ q => q
  have Hy : Hid (∀ W, Mod (fun _ => False) w W → (cSl cEff).rd W G [.slice B m k2] ys) := hidden fun W hW => (cSl cEff).mod hy hW fun _ _ _ q => q
  have Hm : Hid (∀ o o', Mod (fun _ => False) w ((w.alloc o).alloc o')) := hidden fun o o' => ((Mod.refl _ _).alloc _).alloc _
  rw [← hn] at hlen
  have Hn := hidden hn
  have Hmm := hidden hm
  clear h h' hx hy hn hm
  have H1 := hidden (toList_beq xt yt)
  by_cases h1 : xt = yt
  · have c1 : (xt.toList == yt.toList) = true := by rw [H1.out, decide_eq_true h1]
    by_cases h2 : xe = ye
    · have c2 : (xe == ye) = true := by simp [h2]
      have Ha := hidden h1; have Hb := hidden h2
      clear h1 h2
      go_enter Tryz.func33, Tryz.ntmps33
      go_wp2_with (go_at_call 34; (with_reducible refine (eqEffs_calls _ _ _ _ _ _ _ _ _ _ _ Hn.out Hmm.out (Hx.out _ (Hm.out _ _)) (Hy.out _ (Hm.out _ _)) hlen).mono ?_); rintro e w2 ⟨rfl, hm2⟩; have Hm2 := hidden hm2; clear hm2)
      go_ret
      exact ⟨by rw [Hdec.out, decide_eq_true Ha.out, decide_eq_true Hb.out]; rfl, (Hm.out _ _).trans Hm2.out⟩
    · have c2 : (xe == ye) = false := by simp [h2]
      go_enter Tryz.func33, Tryz.ntmps33
      go_wp2_with fail
      go_ret
      exact ⟨by rw [Hdec.out]; simp [*], Hm.out _ _⟩
  · have c1 : (xt.toList == yt.toList) = false := by rw [H1.out, decide_eq_false h1]
    go_enter Tryz.func33, Tryz.ntmps33
    go_wp2_with fail
    go_ret
    exact ⟨by rw [Hdec.out]; simp [*], Hm.out _ _⟩
end Go.Proofs.YthgibbekfcenhaaGreatDoor
