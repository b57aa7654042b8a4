/- The walks of readVar and readOutcome. -/
import Derived.Test.YthgibbekfcenhaaGreatDoorReaders
namespace Go.Proofs.YthgibbekfcenhaaGreatDoor
open Go.RowKit

theorem cVar_mk {w : World} {F : Fp} {A : Option Addr} {n cap : Nat} {a : ByteArray} {ws : List ByteArray} {lv : Int} {hd : Bool} (h1 : a.size ≤ maxLen) (h2 : (cSl cStr).rd w F [.slice A n cap] ws) (h3 : -9223372036854775808 ≤ lv ∧ lv ≤ 9223372036854775807) :
    cVar.rd w F [.string a, .slice A n cap, .int .i64 lv, .bool hd] ⟨a, ws, lv, hd⟩ := ⟨_, _, rfl, ⟨rfl, h1⟩, _, _, rfl, h2, _, _, rfl, ⟨rfl, h3⟩, rfl⟩
theorem cOutc_mk {w : World} {F : Fp} {A : Option Addr} {n cap : Nat} {a : ByteArray} {ws : List PEff} {lv : Int} (h1 : a.size ≤ maxLen) (h2 : (cSl cEff).rd w F [.slice A n cap] ws) (h3 : -9223372036854775808 ≤ lv ∧ lv ≤ 9223372036854775807) :
    cOutc.rd w F [.string a, .int .i64 lv, .slice A n cap] ⟨a, lv, ws⟩ := ⟨_, _, rfl, ⟨rfl, h1⟩, _, _, rfl, ⟨rfl, h3⟩, h2⟩
theorem rd_slice {α : Type} {c : Cd α} {w : World} {F : Fp} {v : Value} {xs : List α} (h : (cSl c).rd w F [v] xs) : ∃ A cap, v = .slice A xs.length cap := by
  obtain ⟨A, cap, he, _⟩ := h
  exact ⟨A, cap, by simpa using he⟩

set_option maxHeartbeats 400000 in
theorem readOutcome_calls : ReadsOne 48 cOutc pOutc := by
  refine readsOne_of fun w F g l hF h => ?_
  have hg := h.lt
  have hr := pNum_range (m := 4) (by decide) (pText 12 l).2
  have hr0 := hr.1
  have hr1 : (pNum 4 (pText 12 l).2).1 ≤ 3 := by have := hr.2; omega
  clear hr
  go_enter Tryz.func48, Tryz.ntmps48
  go_wp2_with fail
  refine (text_calls _ 12 rfl _ F g _ (h.alloc _) (by omega) (by omega)).mono ?_
  rintro e w1 ⟨rfl, hs1⟩
  go_wp2_with fail
  refine (byte_calls _ 4 rfl _ F g _ hs1.rd (by omega) (by omega)).mono ?_
  rintro e w2 ⟨rfl, hs2⟩
  have z1 := hs1.mod.size
  have z2 := hs2.mod.size
  rw [World.size_alloc] at z1
  have HF2 : Hid (∀ b, F b → b < w2.heap.size) := hidden fun b hb => by have := hF b hb; omega
  go_wp2_with fail
  refine (manyEff_calls _ 2 rfl (by omega) _ F g _ HF2.out hs2.rd).mono ?_
  rintro e w3 ⟨v, rfl, hv, hs3⟩
  obtain ⟨A, cap, rfl⟩ := rd_slice hv
  have hm := hs1.mod.trans (hs2.mod.trans hs3.mod)
  have hb := hm.heap (heap_alloc_new w _) (show ¬ w.heap.size = g by omega)
  have c0 := cell_lit hb (j := 0) rfl
  have c1 := cell_lit hb (j := 1) rfl
  have c2 := cell_lit hb (j := 2) rfl
  have f0 := free_lit hb 0
  have f1 := free_lit hb 1
  have f2 := free_lit hb 2
  have Hs := hidden hs3
  have Hm := hidden hm
  have Hv := hidden hv
  clear hs1 hs2 hs3 hm hb hv
  generalize hN : (pMany 2 pEff (pNum 4 (pText 12 l).2).2).1.length = N at *
  clear hN
  go_wp2
  have h4 : Mod (· = w.heap.size) w3 (((w3.setCell ⟨w.heap.size, 0, none⟩ (.string (pText 12 l).1)).setCell ⟨w.heap.size, 1, none⟩ (.int .i64 (pNum 4 (pText 12 l).2).1)).setCell ⟨w.heap.size, 2, none⟩ (.slice A N cap)) := (((Mod.refl _ _).set1 _ _).set1 _ _).set1 _ _
  refine bodyPost_ret (v := .agg #[.string (pText 12 l).1, .int .i64 (pNum 4 (pText 12 l).2).1, .slice A N cap]) (by simp [results, Tryz.results48, go_sem, c0, c1, c2]) rfl
    ⟨_, rfl, cOutc_mk (text_ok (by decide) _) ((cSl cEff).keep Hv.out fun b hb hl => ⟨h4.block b hl (by omega), by omega⟩) (by omega), Step.box hF hg Hs.out.rd Hm.out h4⟩

set_option maxHeartbeats 400000 in
theorem readVar_calls : ReadsOne 44 cVar pVar := by
  refine readsOne_of fun w F g l hF h => ?_
  have hg := h.lt
  obtain ⟨ws, l2, hw⟩ : ∃ ws l2, pMany 3 (pText 12) (pText 12 l).2 = (ws, l2) := ⟨_, _, rfl⟩
  have hr := pNum_range (m := 6) (by decide) l2
  have hr0 := hr.1
  have hr1 : (pNum 6 l2).1 ≤ 5 := by have := hr.2; omega
  have Hp : Hid (pVar l = (⟨(pText 12 l).1, ws, (pNum 6 l2).1 % 3, decide (3 ≤ (pNum 6 l2).1)⟩, (pNum 6 l2).2)) := hidden (by simp only [pVar, hw])
  clear hr
  go_enter Tryz.func44, Tryz.ntmps44
  go_wp2_with fail
  refine (text_calls _ 12 rfl _ F g _ (h.alloc _) (by omega) (by omega)).mono ?_
  rintro e w1 ⟨rfl, hs1⟩
  have z1 := hs1.mod.size
  rw [World.size_alloc] at z1
  have HF1 : Hid (∀ b, F b → b < w1.heap.size) := hidden fun b hb => by have := hF b hb; omega
  go_wp2_with fail
  refine (manyWord_calls _ 3 rfl (by omega) _ F g _ HF1.out hs1.rd).mono ?_
  rintro e w2 ⟨v, rfl, hv, hs2⟩
  rw [hw] at hv hs2
  obtain ⟨A, cap, rfl⟩ := rd_slice hv
  have z2 := hs2.mod.size
  generalize hN : ws.length = N at *
  clear hN hw
  go_wp2_with fail
  refine (byte_calls _ 6 rfl _ F g _ (hs2.rd.alloc _) (by omega) (by omega)).mono ?_
  rintro e w3 ⟨rfl, hs3⟩
  have hm := hs1.mod.trans hs2.mod
  have hm3 := (hm.alloc _).trans hs3.mod
  have hb := hm3.heap (heap_alloc_new w _) (show ¬ w.heap.size = g by omega)
  have hb2 := hs3.mod.heap (heap_alloc_new w2 _) (show ¬ w2.heap.size = g by omega)
  have c0 := cell_lit hb (j := 0) rfl
  have c1 := cell_lit hb (j := 1) rfl
  have c2 := cell_lit hb (j := 2) rfl
  have c3 := cell_lit hb (j := 3) rfl
  have f0 := free_lit hb 0
  have f1 := free_lit hb 1
  have f2 := free_lit hb 2
  have f3 := free_lit hb 3
  have d0 := cell_lit hb2 (j := 0) rfl
  have d1 := cell_lit hb2 (j := 1) rfl
  have d2 := cell_lit hb2 (j := 2) rfl
  have d3 := cell_lit hb2 (j := 3) rfl
  have e2 := free_lit hb2 2
  have e3 := free_lit hb2 3
  have hne : w2.heap.size ≠ w.heap.size := by omega
  have Hs := hidden hs3
  have Hm := hidden hm3
  have hv3 := (cSl cStr).keep hv (fun b hb hl => (⟨((hs3.mod.heap (o := w2.heap[b]) (by rw [Below.heap_alloc _ _ _ hl]; exact Array.getElem?_eq_getElem hl) (by omega)).trans (Array.getElem?_eq_getElem hl).symm), by omega, hl⟩ : _ ∧ (w.heap.size < b ∧ b < w2.heap.size)))
  have Hv := hidden hv3
  clear hs1 hs2 hs3 hm hm3 hb hb2 hv hv3
  go_wp2
  have h4 : ∀ a b c d e f, Mod (fun x => x = w2.heap.size ∨ x = w.heap.size) w3 ((((((w3.setCell ⟨w2.heap.size, 2, none⟩ a).setCell ⟨w2.heap.size, 3, none⟩ b).setCell ⟨w.heap.size, 0, none⟩ c).setCell ⟨w.heap.size, 1, none⟩ d).setCell ⟨w.heap.size, 2, none⟩ e).setCell ⟨w.heap.size, 3, none⟩ f) := by
    intro a b c d e f
    exact ((((((Mod.refl _ _).setS _ _ _ (.inl rfl)).setS _ _ _ (.inl rfl)).setS _ _ _ (.inr rfl)).setS _ _ _ (.inr rfl)).setS _ _ _ (.inr rfl)).setS _ _ _ (.inr rfl)
  have h5 := h4 (.int .i64 ((pNum 6 l2).1 % 3)) (.bool (decide (3 ≤ (pNum 6 l2).1))) (.string (pText 12 l).1) (.slice A N cap) (.int .i64 ((pNum 6 l2).1 % 3)) (.bool (decide (3 ≤ (pNum 6 l2).1)))
  refine bodyPost_ret (v := .agg #[.string (pText 12 l).1, .slice A N cap, .int .i64 ((pNum 6 l2).1 % 3), .bool (decide (3 ≤ (pNum 6 l2).1))]) (by simp [results, Tryz.results44, go_sem, c0, c1, c2, c3]) rfl ⟨_, rfl, ?_, ?_⟩
  · rw [Hp.out]
    exact cVar_mk (text_ok (by decide) _) ((cSl cStr).keep Hv.out fun b hb hl => ⟨h5.block b hl (by omega), by omega⟩) (by omega)
  · rw [Hp.out]
    refine ⟨Hs.out.rd.mod h5 (by omega) (fun b hb _ => by have := hF b hb; omega), (((Mod.refl _ w).alloc _).trans Hm.out).trans' h5 fun x hx q => by omega⟩
end Go.Proofs.YthgibbekfcenhaaGreatDoor
