/- The walks of law02.Long, law17.LongOutputs, law05.Long, law32.LongOutcomes, law28.Long, law14.Long. -/
import Derived.Test.YthgibbekfcenhaaGreatDoorLong
namespace Go.Proofs.YthgibbekfcenhaaGreatDoor
open Go.RowKit

/-- True, or what is told holds. -/
def LongPost (good : Prop) (w : World) (e : Ending) (w' : World) : Prop := ∃ b : Bool, e = .returned (.bool b) ∧ (b = false → good) ∧ Mod (fun _ => False) w w'
def lgFile (f : PFile) : Bool := okText 100 f.name && okText 1000 f.content
def lgOut (o : POut) : Bool := okText 100 o.command && okText 600 o.text
def lgEff (e : PEff) : Bool := okText 100 e.name && okText 1000 e.text
def lgOutc (o : POutc) : Bool := okText 60 o.target && okMany 8 lgEff o.effects
def lgVer (v : PVer) : Bool := okText 120 v.prog && (okText 60 v.target && okText 60 v.prereq)
def lgVar (v : PVar) : Bool := okText 60 v.name && okMany 60 (okText 200) v.words
theorem okText_mk {m : Nat} {s : ByteArray} (h : s.size ≤ m) : okText m s = true := decide_eq_true h
theorem okMany_mk {α : Type} {ok : α → Bool} {xs : List α} {M n : Nat} (hn : n = xs.length) (hM : n ≤ M) (h : (xs.take n).all ok = true) : okMany M ok xs = true := by
  unfold okMany
  rw [all_full hn h, decide_eq_true (by omega)]
  rfl

set_option maxHeartbeats 1000000 in
theorem longAny_calls (A : Option Addr) (n k1 : Nat) (a b : Int) (M m : Nat) (ha : a = (M : Int)) (hb : b = (m : Int)) (w : World) (F : Fp) (xs : List ByteArray) (hn : n = xs.length) (h : (cSl cStr).rd w F [.slice A n k1] xs) (hM : M ≤ 1000000) (hm : m ≤ 1000000) :
    Calls Tryz.prog 20 #[.slice A n k1, .int .i64 a, .int .i64 b] w (LongPost (okMany M (okText m) xs = true) w) := by
  by_cases hnM : n ≤ M
  · exact (long_calls A n k1 a b M m ha hb w F xs hn h (by omega) hM hm).mono fun e w' hp => ⟨_, hp.1, fun q => by simpa using q, hp.2⟩
  · have hd : decide (a < (n : Int)) = true := decide_eq_true (by omega)
    clear hn h
    go_enter Tryz.func20, Tryz.ntmps20
    go_wp2_with fail
    go_ret
    exact ⟨true, rfl, fun q => (by cases q), Mod.refl _ _⟩

set_option maxHeartbeats 1000000 in
theorem longFiles_calls (A : Option Addr) (n k1 : Nat) (a : Int) (M : Nat) (ha : a = (M : Int)) (hM : M ≤ 1000) (w : World) (F : Fp) (xs : List PFile) (hn : n = xs.length) (h : (cSl cFile).rd w F [.slice A n k1] xs) :
    Calls Tryz.prog 16 #[.slice A n k1, .int .i64 a] w (LongPost (okMany M lgFile xs = true) w) := by
  have Hn := hidden hn
  have Hx : Hid (∀ W, Mod (fun _ => False) w W → (cSl cFile).rd W F [.slice A n k1] xs) := hidden fun W hW => (cSl cFile).mod h hW fun _ _ _ q => q
  clear hn h
  by_cases hnM : n ≤ M
  · have hd : decide (a < (n : Int)) = false := decide_eq_false (by omega)
    clear ha
    go_enter Tryz.func16, Tryz.ntmps16
    go_wp2_with fail
    go_loopw [13] (fun i wr => ∃ k : Nat, k ≤ n ∧ i = .int .i64 k ∧ (xs.take k).all lgFile = true ∧ Mod (fun _ => False) w wr) (fun i _ => n - (intOf i).toNat)
    case atStart => exact ⟨0, Nat.zero_le _, rfl, rfl, Mod.refl _ _⟩
    obtain ⟨k, hk, rfl, htk, hmod⟩ := hrel
    have Htk := hidden htk
    have Hmod := hidden hmod
    clear htk hmod
    by_cases hlt : k < n
    case pos =>
      have hkx : k < xs.length := by rw [← Hn.out]; exact hlt
      obtain ⟨x, hx⟩ : ∃ x, xs[k]? = some x := ⟨_, List.getElem?_eq_getElem hkx⟩
      have hrx := Hx.out wr Hmod.out
      rw [Hn.out] at hrx
      obtain ⟨bx, offx, hA, _, _, hrx⟩ := cSl_at hrx (by rintro rfl; simp at hkx)
      obtain ⟨cs, hcx', hcx⟩ := hrx.get k x hx
      obtain ⟨rfl, hox⟩ := cFile_iff.1 hcx'
      have c0 := hcx 0 (by decide)
      have c1 := hcx 1 (by decide)
      have c2 := hcx 2 (by decide)
      simp only [show cFile.size = 3 from rfl, Nat.add_zero, List.getElem?_cons_zero, List.getElem?_cons_succ] at c0 c1 c2
      subst hA
      have hkn : (k : Int) < n := by omega
      have h0k : (0 : Int) ≤ k := by omega
      have Hst := hidden (all_step (ok := lgFile) hx)
      clear hrx hcx hx
      by_cases g0 : x.name.size ≤ 100
      case neg =>
        have hb : decide ((100 : Int) < (x.name.size : Int)) = true := decide_eq_true (by omega)
        clear g0
        go_wp2_with fail
        go_ret
        exact ⟨true, rfl, fun q => (by cases q), Hmod.out.alloc _⟩
      have t0 : decide ((100 : Int) < (x.name.size : Int)) = false := decide_eq_false (by omega)
      have G0 := hidden (okText_mk g0)
      clear g0
      by_cases g1 : x.content.size ≤ 1000
      case neg =>
        have hb : decide ((1000 : Int) < (x.content.size : Int)) = true := decide_eq_true (by omega)
        clear g1
        go_wp2_with fail
        go_ret
        exact ⟨true, rfl, fun q => (by cases q), Hmod.out.alloc _⟩
      have t1 : decide ((1000 : Int) < (x.content.size : Int)) = false := decide_eq_false (by omega)
      have G1 := hidden (okText_mk g1)
      clear g1
      have Hok : Hid (lgFile x = true) := hidden (by unfold lgFile; rw [G0.out, G1.out]; rfl)
      go_wp2_with fail
      go_roundw
      case rel => exact ⟨k + 1, by omega, by go_num, by rw [Hst.out, Htk.out, Hok.out]; rfl, Hmod.out.alloc _⟩
      case measure => simp [intOf]; omega
    obtain rfl : k = n := by omega
    have hkn : ¬ (k : Int) < k := by omega
    go_wp2_with fail
    go_ret
    exact ⟨false, rfl, fun _ => okMany_mk Hn.out hnM Htk.out, Hmod.out⟩
  · have hd : decide (a < (n : Int)) = true := decide_eq_true (by omega)
    go_enter Tryz.func16, Tryz.ntmps16
    go_wp2_with fail
    go_ret
    exact ⟨true, rfl, fun q => (by cases q), Mod.refl _ _⟩

set_option maxHeartbeats 1000000 in
theorem longOuts_calls (A : Option Addr) (n k1 : Nat) (a : Int) (M : Nat) (ha : a = (M : Int)) (hM : M ≤ 1000) (w : World) (F : Fp) (xs : List POut) (hn : n = xs.length) (h : (cSl cOut).rd w F [.slice A n k1] xs) :
    Calls Tryz.prog 17 #[.slice A n k1, .int .i64 a] w (LongPost (okMany M lgOut xs = true) w) := by
  have Hn := hidden hn
  have Hx : Hid (∀ W, Mod (fun _ => False) w W → (cSl cOut).rd W F [.slice A n k1] xs) := hidden fun W hW => (cSl cOut).mod h hW fun _ _ _ q => q
  clear hn h
  by_cases hnM : n ≤ M
  · have hd : decide (a < (n : Int)) = false := decide_eq_false (by omega)
    clear ha
    go_enter Tryz.func17, Tryz.ntmps17
    go_wp2_with fail
    go_loopw [13] (fun i wr => ∃ k : Nat, k ≤ n ∧ i = .int .i64 k ∧ (xs.take k).all lgOut = true ∧ Mod (fun _ => False) w wr) (fun i _ => n - (intOf i).toNat)
    case atStart => exact ⟨0, Nat.zero_le _, rfl, rfl, Mod.refl _ _⟩
    obtain ⟨k, hk, rfl, htk, hmod⟩ := hrel
    have Htk := hidden htk
    have Hmod := hidden hmod
    clear htk hmod
    by_cases hlt : k < n
    case pos =>
      have hkx : k < xs.length := by rw [← Hn.out]; exact hlt
      obtain ⟨x, hx⟩ : ∃ x, xs[k]? = some x := ⟨_, List.getElem?_eq_getElem hkx⟩
      have hrx := Hx.out wr Hmod.out
      rw [Hn.out] at hrx
      obtain ⟨bx, offx, hA, _, _, hrx⟩ := cSl_at hrx (by rintro rfl; simp at hkx)
      obtain ⟨cs, hcx', hcx⟩ := hrx.get k x hx
      obtain ⟨rfl, hox⟩ := cOut_iff.1 hcx'
      have c0 := hcx 0 (by decide)
      have c1 := hcx 1 (by decide)
      simp only [show cOut.size = 2 from rfl, Nat.add_zero, List.getElem?_cons_zero, List.getElem?_cons_succ] at c0 c1
      subst hA
      have hkn : (k : Int) < n := by omega
      have h0k : (0 : Int) ≤ k := by omega
      have Hst := hidden (all_step (ok := lgOut) hx)
      clear hrx hcx hx
      by_cases g0 : x.command.size ≤ 100
      case neg =>
        have hb : decide ((100 : Int) < (x.command.size : Int)) = true := decide_eq_true (by omega)
        clear g0
        go_wp2_with fail
        go_ret
        exact ⟨true, rfl, fun q => (by cases q), Hmod.out.alloc _⟩
      have t0 : decide ((100 : Int) < (x.command.size : Int)) = false := decide_eq_false (by omega)
      have G0 := hidden (okText_mk g0)
      clear g0
      by_cases g1 : x.text.size ≤ 600
      case neg =>
        have hb : decide ((600 : Int) < (x.text.size : Int)) = true := decide_eq_true (by omega)
        clear g1
        go_wp2_with fail
        go_ret
        exact ⟨true, rfl, fun q => (by cases q), Hmod.out.alloc _⟩
      have t1 : decide ((600 : Int) < (x.text.size : Int)) = false := decide_eq_false (by omega)
      have G1 := hidden (okText_mk g1)
      clear g1
      have Hok : Hid (lgOut x = true) := hidden (by unfold lgOut; rw [G0.out, G1.out]; rfl)
      go_wp2_with fail
      go_roundw
      case rel => exact ⟨k + 1, by omega, by go_num, by rw [Hst.out, Htk.out, Hok.out]; rfl, Hmod.out.alloc _⟩
      case measure => simp [intOf]; omega
    obtain rfl : k = n := by omega
    have hkn : ¬ (k : Int) < k := by omega
    go_wp2_with fail
    go_ret
    exact ⟨false, rfl, fun _ => okMany_mk Hn.out hnM Htk.out, Hmod.out⟩
  · have hd : decide (a < (n : Int)) = true := decide_eq_true (by omega)
    go_enter Tryz.func17, Tryz.ntmps17
    go_wp2_with fail
    go_ret
    exact ⟨true, rfl, fun q => (by cases q), Mod.refl _ _⟩

set_option maxHeartbeats 1000000 in
theorem longEffs_calls (A : Option Addr) (n k1 : Nat) (a : Int) (M : Nat) (ha : a = (M : Int)) (hM : M ≤ 1000) (w : World) (F : Fp) (xs : List PEff) (hn : n = xs.length) (h : (cSl cEff).rd w F [.slice A n k1] xs) :
    Calls Tryz.prog 59 #[.slice A n k1, .int .i64 a] w (LongPost (okMany M lgEff xs = true) w) := by
  have Hn := hidden hn
  have Hx : Hid (∀ W, Mod (fun _ => False) w W → (cSl cEff).rd W F [.slice A n k1] xs) := hidden fun W hW => (cSl cEff).mod h hW fun _ _ _ q => q
  clear hn h
  by_cases hnM : n ≤ M
  · have hd : decide (a < (n : Int)) = false := decide_eq_false (by omega)
    clear ha
    go_enter Tryz.func59, Tryz.ntmps59
    go_wp2_with fail
    go_loopw [13] (fun i wr => ∃ k : Nat, k ≤ n ∧ i = .int .i64 k ∧ (xs.take k).all lgEff = true ∧ Mod (fun _ => False) w wr) (fun i _ => n - (intOf i).toNat)
    case atStart => exact ⟨0, Nat.zero_le _, rfl, rfl, Mod.refl _ _⟩
    obtain ⟨k, hk, rfl, htk, hmod⟩ := hrel
    have Htk := hidden htk
    have Hmod := hidden hmod
    clear htk hmod
    by_cases hlt : k < n
    case pos =>
      have hkx : k < xs.length := by rw [← Hn.out]; exact hlt
      obtain ⟨x, hx⟩ : ∃ x, xs[k]? = some x := ⟨_, List.getElem?_eq_getElem hkx⟩
      have hrx := Hx.out wr Hmod.out
      rw [Hn.out] at hrx
      obtain ⟨bx, offx, hA, _, _, hrx⟩ := cSl_at hrx (by rintro rfl; simp at hkx)
      obtain ⟨cs, hcx', hcx⟩ := hrx.get k x hx
      obtain ⟨rfl, hox⟩ := cEff_iff.1 hcx'
      have c0 := hcx 0 (by decide)
      have c1 := hcx 1 (by decide)
      have c2 := hcx 2 (by decide)
      simp only [show cEff.size = 3 from rfl, Nat.add_zero, List.getElem?_cons_zero, List.getElem?_cons_succ] at c0 c1 c2
      subst hA
      have hkn : (k : Int) < n := by omega
      have h0k : (0 : Int) ≤ k := by omega
      have Hst := hidden (all_step (ok := lgEff) hx)
      clear hrx hcx hx
      by_cases g0 : x.name.size ≤ 100
      case neg =>
        have hb : decide ((100 : Int) < (x.name.size : Int)) = true := decide_eq_true (by omega)
        clear g0
        go_wp2_with fail
        go_ret
        exact ⟨true, rfl, fun q => (by cases q), Hmod.out.alloc _⟩
      have t0 : decide ((100 : Int) < (x.name.size : Int)) = false := decide_eq_false (by omega)
      have G0 := hidden (okText_mk g0)
      clear g0
      by_cases g1 : x.text.size ≤ 1000
      case neg =>
        have hb : decide ((1000 : Int) < (x.text.size : Int)) = true := decide_eq_true (by omega)
        clear g1
        go_wp2_with fail
        go_ret
        exact ⟨true, rfl, fun q => (by cases q), Hmod.out.alloc _⟩
      have t1 : decide ((1000 : Int) < (x.text.size : Int)) = false := decide_eq_false (by omega)
      have G1 := hidden (okText_mk g1)
      clear g1
      have Hok : Hid (lgEff x = true) := hidden (by unfold lgEff; rw [G0.out, G1.out]; rfl)
      go_wp2_with fail
      go_roundw
      case rel => exact ⟨k + 1, by omega, by go_num, by rw [Hst.out, Htk.out, Hok.out]; rfl, Hmod.out.alloc _⟩
      case measure => simp [intOf]; omega
    obtain rfl : k = n := by omega
    have hkn : ¬ (k : Int) < k := by omega
    go_wp2_with fail
    go_ret
    exact ⟨false, rfl, fun _ => okMany_mk Hn.out hnM Htk.out, Hmod.out⟩
  · have hd : decide (a < (n : Int)) = true := decide_eq_true (by omega)
    go_enter Tryz.func59, Tryz.ntmps59
    go_wp2_with fail
    go_ret
    exact ⟨true, rfl, fun q => (by cases q), Mod.refl _ _⟩

set_option maxHeartbeats 1000000 in
theorem longOutcs_calls (A : Option Addr) (n k1 : Nat) (w : World) (F : Fp) (xs : List POutc) (hn : n = xs.length) (h : (cSl cOutc).rd w F [.slice A n k1] xs) :
    Calls Tryz.prog 18 #[.slice A n k1] w (LongPost (okMany 16 lgOutc xs = true) w) := by
  have Hn := hidden hn
  have Hx : Hid (∀ W, Mod (fun _ => False) w W → (cSl cOutc).rd W F [.slice A n k1] xs) := hidden fun W hW => (cSl cOutc).mod h hW fun _ _ _ q => q
  clear hn h
  by_cases hnM : n ≤ 16
  · have hd : decide ((16 : Int) < (n : Int)) = false := decide_eq_false (by omega)
    skip
    go_enter Tryz.func18, Tryz.ntmps18
    go_wp2_with fail
    go_loopw [10] (fun i wr => ∃ k : Nat, k ≤ n ∧ i = .int .i64 k ∧ (xs.take k).all lgOutc = true ∧ Mod (fun _ => False) w wr) (fun i _ => n - (intOf i).toNat)
    case atStart => exact ⟨0, Nat.zero_le _, rfl, rfl, Mod.refl _ _⟩
    obtain ⟨k, hk, rfl, htk, hmod⟩ := hrel
    have Htk := hidden htk
    have Hmod := hidden hmod
    clear htk hmod
    by_cases hlt : k < n
    case pos =>
      have hkx : k < xs.length := by rw [← Hn.out]; exact hlt
      obtain ⟨x, hx⟩ : ∃ x, xs[k]? = some x := ⟨_, List.getElem?_eq_getElem hkx⟩
      have hrx := Hx.out wr Hmod.out
      rw [Hn.out] at hrx
      obtain ⟨bx, offx, hA, _, _, hrx⟩ := cSl_at hrx (by rintro rfl; simp at hkx)
      obtain ⟨cs, hcx', hcx⟩ := hrx.get k x hx
      obtain ⟨A', n', cap', rfl, hn', hox, hox2, hex⟩ := cOutc_iff.1 hcx'
      have Hl := hidden hn'
      have Hex := hidden hex
      clear hn' hex hcx'
      have c0 := hcx 0 (by decide)
      have c1 := hcx 1 (by decide)
      have c2 := hcx 2 (by decide)
      simp only [show cOutc.size = 3 from rfl, Nat.add_zero, List.getElem?_cons_zero, List.getElem?_cons_succ] at c0 c1 c2
      subst hA
      have hkn : (k : Int) < n := by omega
      have h0k : (0 : Int) ≤ k := by omega
      have Hst := hidden (all_step (ok := lgOutc) hx)
      clear hrx hcx hx
      by_cases g0 : x.target.size ≤ 60
      case neg =>
        have hb : decide ((60 : Int) < (x.target.size : Int)) = true := decide_eq_true (by omega)
        clear g0
        go_wp2_with fail
        go_ret
        exact ⟨true, rfl, fun q => (by cases q), Hmod.out.alloc _⟩
      have t0 : decide ((60 : Int) < (x.target.size : Int)) = false := decide_eq_false (by omega)
      have G0 := hidden (okText_mk g0)
      clear g0
      go_wp2_with fail
      refine (longEffs_calls A' n' cap' 8 8 rfl (by decide) _ F x.effects Hl.out ((cSl cEff).alloc Hex.out _)).mono ?_
      rintro e w2 ⟨b, rfl, hgood, hm2⟩
      have Hm2 := hidden ((Hmod.out.alloc _).trans hm2)
      have Hgood := hidden hgood
      clear hm2 hgood
      cases b
      case true =>
        go_wp2_with fail
        go_ret
        exact ⟨true, rfl, fun q => (by cases q), Hm2.out⟩
      have Hok : Hid (lgOutc x = true) := hidden (by unfold lgOutc; rw [G0.out, Hgood.out rfl]; rfl)
      go_wp2_with fail
      go_roundw
      case rel => exact ⟨k + 1, by omega, by go_num, by rw [Hst.out, Htk.out, Hok.out]; rfl, Hm2.out⟩
      case measure => simp [intOf]; omega
    obtain rfl : k = n := by omega
    have hkn : ¬ (k : Int) < k := by omega
    go_wp2_with fail
    go_ret
    exact ⟨false, rfl, fun _ => okMany_mk Hn.out hnM Htk.out, Hmod.out⟩
  · have hd : decide ((16 : Int) < (n : Int)) = true := decide_eq_true (by omega)
    go_enter Tryz.func18, Tryz.ntmps18
    go_wp2_with fail
    go_ret
    exact ⟨true, rfl, fun q => (by cases q), Mod.refl _ _⟩

/-- An act of layer 14: a variable that is set. -/
def cAct : Cd PVar := cIso (cPair cI64 cVar) fun v => (0, v)
theorem cAct_shape {w : World} {F : Fp} {cs : List Value} {v : PVar} (h : cAct.rd w F cs v) : ∃ A n cap, cs = [.int .i64 0, .string v.name, .slice A n cap, .int .i64 v.level, .bool v.hidden] ∧ n = v.words.length ∧ (cSl cStr).rd w F [.slice A n cap] v.words := by
  obtain ⟨p, q, rfl, ⟨rfl, _⟩, hv⟩ := h
  obtain ⟨p1, q1, rfl, ⟨rfl, _⟩, p2, q2, rfl, hw, p3, q3, rfl, ⟨rfl, _⟩, rfl⟩ := hv
  obtain ⟨A, cap, rfl, hr⟩ := id hw
  exact ⟨A, _, cap, rfl, rfl, hw⟩

set_option maxHeartbeats 1000000 in
theorem longActs_calls (A : Option Addr) (n k1 : Nat) (a : Int) (M : Nat) (ha : a = (M : Int)) (hM : M ≤ 1000) (w : World) (F : Fp) (xs : List PVar) (hn : n = xs.length) (h : (cSl cAct).rd w F [.slice A n k1] xs) :
    Calls Tryz.prog 56 #[.slice A n k1, .int .i64 a] w (LongPost (okMany M lgVar xs = true) w) := by
  have Hn := hidden hn
  have Hx : Hid (∀ W, Mod (fun _ => False) w W → (cSl cAct).rd W F [.slice A n k1] xs) := hidden fun W hW => (cSl cAct).mod h hW fun _ _ _ q => q
  clear hn h
  by_cases hnM : n ≤ M
  · have hd : decide (a < (n : Int)) = false := decide_eq_false (by omega)
    clear ha
    go_enter Tryz.func56, Tryz.ntmps56
    go_wp2_with fail
    go_loopw [13] (fun i wr => ∃ k : Nat, k ≤ n ∧ i = .int .i64 k ∧ (xs.take k).all lgVar = true ∧ Mod (fun _ => False) w wr) (fun i _ => n - (intOf i).toNat)
    case atStart => exact ⟨0, Nat.zero_le _, rfl, rfl, Mod.refl _ _⟩
    obtain ⟨k, hk, rfl, htk, hmod⟩ := hrel
    have Htk := hidden htk
    have Hmod := hidden hmod
    clear htk hmod
    by_cases hlt : k < n
    case pos =>
      have hkx : k < xs.length := by rw [← Hn.out]; exact hlt
      obtain ⟨x, hx⟩ : ∃ x, xs[k]? = some x := ⟨_, List.getElem?_eq_getElem hkx⟩
      have hrx := Hx.out wr Hmod.out
      rw [Hn.out] at hrx
      obtain ⟨bx, offx, hA, _, _, hrx⟩ := cSl_at hrx (by rintro rfl; simp at hkx)
      obtain ⟨cs, hcx', hcx⟩ := hrx.get k x hx
      obtain ⟨A', n', cap', rfl, hn', hex⟩ := cAct_shape hcx'
      have Hl := hidden hn'
      have Hex := hidden hex
      clear hn' hex hcx'
      have c0 := hcx 0 (by decide)
      have c1 := hcx 1 (by decide)
      have c2 := hcx 2 (by decide)
      have c3 := hcx 3 (by decide)
      have c4 := hcx 4 (by decide)
      simp only [show cAct.size = 5 from rfl, Nat.add_zero, List.getElem?_cons_zero, List.getElem?_cons_succ] at c0 c1 c2 c3 c4
      subst hA
      have hkn : (k : Int) < n := by omega
      have h0k : (0 : Int) ≤ k := by omega
      have Hst := hidden (all_step (ok := lgVar) hx)
      clear hrx hcx hx
      by_cases g0 : x.name.size ≤ 60
      case neg =>
        have hb : decide ((60 : Int) < (x.name.size : Int)) = true := decide_eq_true (by omega)
        clear g0
        go_wp2_with fail
        go_ret
        exact ⟨true, rfl, fun q => (by cases q), Hmod.out.alloc _⟩
      have t0 : decide ((60 : Int) < (x.name.size : Int)) = false := decide_eq_false (by omega)
      have G0 := hidden (okText_mk g0)
      clear g0
      go_wp2_with fail
      refine (longAny_calls A' n' cap' 60 200 60 200 rfl rfl _ F x.words Hl.out ((cSl cStr).alloc Hex.out _) (by decide) (by decide)).mono ?_
      rintro e w2 ⟨b, rfl, hgood, hm2⟩
      have Hm2 := hidden ((Hmod.out.alloc _).trans hm2)
      have Hgood := hidden hgood
      clear hm2 hgood
      cases b
      case true =>
        go_wp2_with fail
        go_ret
        exact ⟨true, rfl, fun q => (by cases q), Hm2.out⟩
      have Hok : Hid (lgVar x = true) := hidden (by unfold lgVar; rw [G0.out, Hgood.out rfl]; rfl)
      go_wp2_with fail
      go_roundw
      case rel => exact ⟨k + 1, by omega, by go_num, by rw [Hst.out, Htk.out, Hok.out]; rfl, Hm2.out⟩
      case measure => simp [intOf]; omega
    obtain rfl : k = n := by omega
    have hkn : ¬ (k : Int) < k := by omega
    go_wp2_with fail
    go_ret
    exact ⟨false, rfl, fun _ => okMany_mk Hn.out hnM Htk.out, Hmod.out⟩
  · have hd : decide (a < (n : Int)) = true := decide_eq_true (by omega)
    go_enter Tryz.func56, Tryz.ntmps56
    go_wp2_with fail
    go_ret
    exact ⟨true, rfl, fun q => (by cases q), Mod.refl _ _⟩

set_option maxHeartbeats 1000000 in
theorem longVers_calls (A : Option Addr) (n k1 : Nat) (w : World) (F : Fp) (xs : List PVer) (hn : n = xs.length) (h : (cSl cVer).rd w F [.slice A n k1] xs) :
    Calls Tryz.prog 19 #[.agg #[.bool false, .slice none 0 0, .slice A n k1]] w (LongPost (okMany 20 lgVer xs = true) w) := by
  have Hn := hidden hn
  have Hx : Hid (∀ W, Mod (fun _ => False) w W → (cSl cVer).rd W F [.slice A n k1] xs) := hidden fun W hW => (cSl cVer).mod h hW fun _ _ _ q => q
  have Hbx0 := hidden (heap_alloc_new w (.cells #[.bool false, .slice none 0 0, .slice A n k1] 66))
  have Hm0 : Hid (Mod (fun _ => False) w (w.alloc (.cells #[.bool false, .slice none 0 0, .slice A n k1] 66))) := hidden ((Mod.refl _ _).alloc _)
  clear hn h
  go_enter Tryz.func19, Tryz.ntmps19
  go_wp2_with fail
  refine (longAny_calls none 0 0 12 60 12 60 rfl rfl _ F [] rfl ⟨none, 0, rfl, Nat.le_refl _, Nat.zero_le _, fun h => absurd rfl h⟩ (by decide) (by decide)).mono ?_
  rintro e w1 ⟨b, rfl, -, hm1⟩
  have Hm1 := hidden (Hm0.out.trans hm1)
  have hb2 := cell_lit (hm1.heapF Hbx0.out) (j := 2) rfl
  clear hm1
  cases b
  case true =>
    go_wp2_with fail
    go_ret
    exact ⟨true, rfl, fun q => (by cases q), Hm1.out⟩
  by_cases hnM : n ≤ 20
  case neg =>
    have hd : decide ((20 : Int) < (n : Int)) = true := decide_eq_true (by omega)
    go_wp2_with fail
    go_ret
    exact ⟨true, rfl, fun q => (by cases q), Hm1.out⟩
  have hd : decide ((20 : Int) < (n : Int)) = false := decide_eq_false (by omega)
  go_wp2_with fail
  clear hb2
  go_loopw [17] (fun i wr => ∃ k : Nat, k ≤ n ∧ i = .int .i64 k ∧ (xs.take k).all lgVer = true ∧ Mod (fun _ => False) w wr) (fun i _ => n - (intOf i).toNat)
  case atStart => exact ⟨0, Nat.zero_le _, rfl, rfl, Hm1.out⟩
  obtain ⟨k, hk, rfl, htk, hmod⟩ := hrel
  have Htk := hidden htk
  have Hmod := hidden hmod
  clear htk hmod
  by_cases hlt : k < n
  case pos =>
    have hkx : k < xs.length := by rw [← Hn.out]; exact hlt
    obtain ⟨x, hx⟩ : ∃ x, xs[k]? = some x := ⟨_, List.getElem?_eq_getElem hkx⟩
    have hrx := Hx.out wr Hmod.out
    rw [Hn.out] at hrx
    obtain ⟨bx, offx, hA, _, _, hrx⟩ := cSl_at hrx (by rintro rfl; simp at hkx)
    obtain ⟨cs, hcx', hcx⟩ := hrx.get k x hx
    obtain ⟨rfl, hox⟩ := cVer_iff.1 hcx'
    have c0 := hcx 0 (by decide)
    have c1 := hcx 1 (by decide)
    have c2 := hcx 2 (by decide)
    have c3 := hcx 3 (by decide)
    simp only [show cVer.size = 4 from rfl, Nat.add_zero, List.getElem?_cons_zero, List.getElem?_cons_succ] at c0 c1 c2 c3
    subst hA
    have hkn : (k : Int) < n := by omega
    have h0k : (0 : Int) ≤ k := by omega
    have Hst := hidden (all_step (ok := lgVer) hx)
    clear hrx hcx hx
    by_cases g0 : x.prog.size ≤ 120
    case neg =>
      have hb : decide ((120 : Int) < (x.prog.size : Int)) = true := decide_eq_true (by omega)
      clear g0
      go_wp2_with fail
      go_ret
      exact ⟨true, rfl, fun q => (by cases q), Hmod.out.alloc _⟩
    have t0 : decide ((120 : Int) < (x.prog.size : Int)) = false := decide_eq_false (by omega)
    have G0 := hidden (okText_mk g0)
    clear g0
    by_cases g1 : x.target.size ≤ 60
    case neg =>
      have hb : decide ((60 : Int) < (x.target.size : Int)) = true := decide_eq_true (by omega)
      clear g1
      go_wp2_with fail
      go_ret
      exact ⟨true, rfl, fun q => (by cases q), Hmod.out.alloc _⟩
    have t1 : decide ((60 : Int) < (x.target.size : Int)) = false := decide_eq_false (by omega)
    have G1 := hidden (okText_mk g1)
    clear g1
    by_cases g2 : x.prereq.size ≤ 60
    case neg =>
      have hb : decide ((60 : Int) < (x.prereq.size : Int)) = true := decide_eq_true (by omega)
      clear g2
      go_wp2_with fail
      go_ret
      exact ⟨true, rfl, fun q => (by cases q), Hmod.out.alloc _⟩
    have t2 : decide ((60 : Int) < (x.prereq.size : Int)) = false := decide_eq_false (by omega)
    have G2 := hidden (okText_mk g2)
    clear g2
    have Hok : Hid (lgVer x = true) := hidden (by unfold lgVer; rw [G0.out, G1.out, G2.out]; rfl)
    go_wp2_with fail
    go_roundw
    case rel => exact ⟨k + 1, by omega, by go_num, by rw [Hst.out, Htk.out, Hok.out]; rfl, Hmod.out.alloc _⟩
    case measure => simp [intOf]; omega
  obtain rfl : k = n := by omega
  have hkn : ¬ (k : Int) < k := by omega
  go_wp2_with fail
  go_ret
  exact ⟨false, rfl, fun _ => okMany_mk Hn.out hnM Htk.out, Hmod.out⟩
end Go.Proofs.YthgibbekfcenhaaGreatDoor
