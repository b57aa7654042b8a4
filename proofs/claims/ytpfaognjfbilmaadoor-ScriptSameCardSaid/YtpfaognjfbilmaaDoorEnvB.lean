/- The walks of env.New, env.Check, Var.apart, Env.Set: they answer. -/
import Derived.Test.YtpfaognjfbilmaaDoorEnvA
import Derived.MapKept
import Derived.MapFrom
namespace Go.Proofs.YtpfaognjfbilmaaDoor
open Go.RowKit

/-- The errors that stand in variables. -/
def ErrAt (W : World) (g : Nat) : Prop := ∃ t x, W.cell? ⟨g, 0, none⟩ = some (.iface t x)
structure Errs (W : World) : Prop where
  form : ErrAt W 0
  full : ErrAt W 1
  name : ErrAt W 2
  range : ErrAt W 3
  long : ErrAt W 4
theorem ErrAt.lt {W : World} {g : Nat} (h : ErrAt W g) : g < W.heap.size := by
  obtain ⟨t, x, h⟩ := h
  rcases Nat.lt_or_ge g W.heap.size with h1 | h1
  · exact h1
  · simp [World.cell?, Array.getElem?_eq_none h1] at h
theorem ErrAt.mod {S : Fp} {W W' : World} {g : Nat} (h : ErrAt W g) (hm : Mod S W W') (hg : ¬ S g) : ErrAt W' g := by
  have hl := h.lt
  obtain ⟨t, x, h⟩ := h
  exact ⟨t, x, (World.cell?_of_block (a := ⟨g, 0, none⟩) (hm.block g hl hg)).trans h⟩
/-- Some error. -/
def IsErr (u : Value) : Prop := u = .nilIface ∨ ∃ t x, u = .iface t x
def SomeErr (w : World) (e : Ending) (w' : World) : Prop := ∃ u, e = .returned u ∧ IsErr u ∧ Mod (fun _ => False) w w'

/-- Block b is a map of variables. -/
def VarEntry (x : MapEntry) : Prop := (∃ s : ByteArray, x.key = .string s) ∧ ∃ (n : ByteArray) (A : Option Addr) (k c : Nat) (l : Int) (h : Bool), x.val = .agg #[.string n, .slice A k c, .int .i64 l, .bool h]
def IsVars (W : World) (b : Nat) : Prop := ∃ es clock, W.heap[b]? = some (.map es clock) ∧ ∀ x ∈ es.toList, VarEntry x
theorem isVars_mod {S : Fp} {W W' : World} {b : Nat} (h : IsVars W b) (hm : Mod S W W') (hb : ¬ S b) : IsVars W' b := by
  obtain ⟨es, clock, h1, h2⟩ := h
  exact ⟨es, clock, hm.heap h1 hb, h2⟩
theorem zeroVar (W : World) : (zeroValue 66).run Tryd.prog W = .ok (.agg #[.string ⟨#[]⟩, .slice none 0 0, .int .i64 0, .bool false]) W := by kernel_rfl
theorem keyed {es : Array MapEntry} (h : ∀ x ∈ es.toList, VarEntry x) : ∀ x ∈ es.toList, MapKept.IsKey .string x.key := fun x hx => by
  obtain ⟨⟨s, hs⟩, _⟩ := h x hx
  rw [hs]; trivial
theorem vars_lookup {W : World} {b : Nat} (h : IsVars W b) (s : ByteArray) : ∃ (n : ByteArray) (A : Option Addr) (k c : Nat) (l : Int) (hd there : Bool), ∀ W' : World, W'.heap[b]? = W.heap[b]? →
    (Instr.lookup 168 (.map (some b)) (.string s) true).run Tryd.prog W' = .ok (.tuple #[.agg #[.string n, .slice A k c, .int .i64 l, .bool hd], .bool there]) W' := by
  obtain ⟨es, clock, hb, hes⟩ := h
  have hk : MapKept.IsKey .string (.string s) := trivial
  rcases MapKept.findNow_spec hk es.toList 0 (keyed hes) with ⟨h1, _⟩ | ⟨j, e, h1, h2, _⟩
  · refine ⟨⟨#[]⟩, none, 0, 0, 0, false, false, fun W' hW => ?_⟩
    rw [hb] at hW
    simp [Instr.lookup, run_underlying Tryd.underlying168, MapKept.run_getObj_map hW, MapKept.run_checkKey Tryd.underlying9 hk, MapKept.run_findKey Tryd.underlying9 h1, Result.andThen]
  · obtain ⟨_, n, A, k, c, l, hd, hv⟩ := hes e (List.mem_of_getElem? h2)
    refine ⟨n, A, k, c, l, hd, true, fun W' hW => ?_⟩
    rw [hb] at hW
    simp [Instr.lookup, run_underlying Tryd.underlying168, MapKept.run_getObj_map hW, MapKept.run_checkKey Tryd.underlying9 hk, MapKept.run_findKey Tryd.underlying9 h1, Result.andThen, hv]
theorem mod_set {W : World} {b : Nat} (o : Obj) : Mod (· = b) W { W with heap := W.heap.setIfInBounds b o } :=
  ⟨rfl, rfl, rfl, by simp, fun k _ hn => by simp [Ne.symm hn]⟩
theorem vars_update {W : World} {b : Nat} (h : IsVars W b) (s n : ByteArray) (A : Option Addr) (k c : Nat) (l : Int) (hd : Bool) : ∃ W',
    (Instr.mapUpdate 168 (.map (some b)) (.string s) (.agg #[.string n, .slice A k c, .int .i64 l, .bool hd])).run Tryd.prog W = .ok () W' ∧ IsVars W' b ∧ Mod (· = b) W W' := by
  obtain ⟨es, clock, hb, hes⟩ := h
  have hk : MapKept.IsKey .string (.string s) := trivial
  rcases MapKept.findNow_spec hk es.toList 0 (keyed hes) with ⟨h1, _⟩ | ⟨j, e, h1, h2, h3⟩
  · refine ⟨_, ?_, ⟨_, _, (MapKept.heap_set hb).1, ?_⟩, mod_set (.map (es.push { key := .string s, val := .agg #[.string n, .slice A k c, .int .i64 l, .bool hd], born := clock }) (clock + 1))⟩
    · simp [Instr.mapUpdate, run_underlying Tryd.underlying168, MapKept.run_getObj_map hb, MapKept.run_checkKey Tryd.underlying9 hk, MapKept.run_findKey Tryd.underlying9 h1, MapKept.run_setObj_map _ hb, Result.andThen]
    · intro x hx
      rw [Array.toList_push, List.mem_append] at hx
      rcases hx with hx | hx
      · exact hes x hx
      · simp at hx
        subst hx
        exact ⟨⟨s, rfl⟩, n, A, k, c, l, hd, rfl⟩
  · have hj : es[j]? = some e := by simpa using h2
    refine ⟨_, ?_, ⟨_, _, (MapKept.heap_set hb).1, ?_⟩, mod_set (.map (es.modify j fun e => { e with key := .string s, val := .agg #[.string n, .slice A k c, .int .i64 l, .bool hd] }) clock)⟩
    · simp [Instr.mapUpdate, run_underlying Tryd.underlying168, MapKept.run_getObj_map hb, MapKept.run_checkKey Tryd.underlying9 hk, MapKept.run_findKey Tryd.underlying9 h1, hj, h3, MapKept.run_keyThatStays hk, MapKept.run_setObj_map _ hb, Result.andThen]
    · intro x hx
      have hp : MapFrom.Passes (fun q => ∃ s : ByteArray, q = .string s) (fun q => ∃ (n : ByteArray) (A : Option Addr) (k c : Nat) (l : Int) (h : Bool), q = .agg #[.string n, .slice A k c, .int .i64 l, .bool h]) es := hes
      exact MapFrom.passes_modify hp j (fun e => { e with key := .string s, val := .agg #[.string n, .slice A k c, .int .i64 l, .bool hd] }) (fun _ _ => ⟨⟨s, rfl⟩, n, A, k, c, l, hd, rfl⟩) x hx

/-- Block g is an Env over the map in block b. -/
def EnvAt (W : World) (g b : Nat) : Prop := W.heap[g]? = some (.cells #[.map (some b)] 170 (0, 0)) ∧ IsVars W b

set_option maxHeartbeats 1000000 in
theorem envNew_calls (w : World) : Calls Tryd.prog 77 #[] w (fun e w' => ∃ g b, e = .returned (.pointer (some ⟨g, 0, none⟩)) ∧ EnvAt w' g b ∧ w.heap.size ≤ g ∧ w.heap.size ≤ b ∧ Mod (fun _ => False) w w') := by
  have hmm := @run_makeMap Tryd.prog
  go_enter Tryd.func77, Tryd.ntmps77
  go_wp2_with fail
  go_ret
  have h2 := heap_alloc_new (w.alloc (.map #[] 0)) (.cells #[.map (some w.heap.size)] 170)
  rw [World.size_alloc] at h2
  refine ⟨w.heap.size + 1, w.heap.size, rfl, ⟨h2, #[], 0, hmx (heap_alloc_new w (.map #[] 0)) _, by simp⟩, by omega, Nat.le_refl _, ((Mod.refl _ _).alloc _).alloc _⟩
end Go.Proofs.YtpfaognjfbilmaaDoor
