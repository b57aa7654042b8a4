/- Cases as arguments; the errors that the row lists. -/
import Derived.Test.YthgibbekfcenhaaGreatDoorOpens
import Derived.Test.YthgibbekfcenhaaGreatDoorEnvA
import Derived.Test.YthgibbekfcenhaaGreatDoorCopyE
import Derived.Test.YthgibbekfcenhaaGreatDoorRows
import Derived.Stop.LaidErr
import Derived.SizedLaws
namespace Go.Proofs.YthgibbekfcenhaaGreatDoor
open Go.RowKit Go.ChangeShapes Go.WideShapes Go.Deep

theorem o_str : Opens Tryz.prog 9 cStr := opens_str Tryz.underlying9 (by kernel_rfl)
theorem o_i64 : Opens Tryz.prog 3 cI64 := opens_i64 Tryz.underlying3 (by kernel_rfl)
theorem o_bool : Opens Tryz.prog 4 cBool := opens_bool Tryz.underlying4 (by kernel_rfl)
theorem o_strs : Opens Tryz.prog 29 (cSl cStr) := opens_sl Tryz.underlying29 (by kernel_rfl) o_str (by decide)
theorem o_ints : Opens Tryz.prog 30 (cSl cI64) := opens_sl Tryz.underlying30 (by kernel_rfl) o_i64 (by decide)
theorem o_file : Opens Tryz.prog 107 cFile := opens_iso (opens_struct ⟨_, Tryz.underlying107, rfl⟩ (by kernel_rfl) (opensF_cons o_str (opensF_cons o_str (opensF_last o_i64)))) fun a => ⟨⟨a.1, a.2.1, a.2.2⟩, rfl⟩
theorem o_var : Opens Tryz.prog 98 cVar := opens_iso (opens_struct ⟨_, Tryz.underlying98, rfl⟩ (by kernel_rfl) (opensF_cons o_str (opensF_cons o_strs (opensF_cons o_i64 (opensF_last o_bool))))) fun a => ⟨⟨a.1, a.2.1, a.2.2.1, a.2.2.2⟩, rfl⟩
theorem o_out : Opens Tryz.prog 109 cOut := opens_iso (opens_struct ⟨_, Tryz.underlying109, rfl⟩ (by kernel_rfl) (opensF_cons o_str (opensF_last o_str))) fun a => ⟨⟨a.1, a.2⟩, rfl⟩
theorem o_eff : Opens Tryz.prog 104 cEff := opens_iso (opens_struct ⟨_, Tryz.underlying104, rfl⟩ (by kernel_rfl) (opensF_cons o_i64 (opensF_cons o_str (opensF_last o_str)))) fun a => ⟨⟨a.1, a.2.1, a.2.2⟩, rfl⟩
theorem o_effs : Opens Tryz.prog 100 (cSl cEff) := opens_sl Tryz.underlying100 (by kernel_rfl) o_eff (by decide)
theorem o_outc : Opens Tryz.prog 102 cOutc := opens_iso (opens_struct ⟨_, Tryz.underlying102, rfl⟩ (by kernel_rfl) (opensF_cons o_str (opensF_cons o_i64 (opensF_last o_effs)))) fun a => ⟨⟨a.1, a.2.1, a.2.2⟩, rfl⟩
theorem o_ver : Opens Tryz.prog 111 cVer := opens_iso (opens_struct ⟨_, Tryz.underlying111, rfl⟩ (by kernel_rfl) (opensF_cons o_str (opensF_cons o_str (opensF_cons o_str (opensF_last o_bool))))) fun a => ⟨⟨a.1, a.2.1, a.2.2.1, a.2.2.2⟩, rfl⟩
theorem o_files : Opens Tryz.prog 22 (cSl cFile) := opens_sl Tryz.underlying22 (by kernel_rfl) o_file (by decide)
theorem o_vars : Opens Tryz.prog 23 (cSl cVar) := opens_sl Tryz.underlying23 (by kernel_rfl) o_var (by decide)
theorem o_outs : Opens Tryz.prog 24 (cSl cOut) := opens_sl Tryz.underlying24 (by kernel_rfl) o_out (by decide)
theorem o_outcs : Opens Tryz.prog 25 (cSl cOutc) := opens_sl Tryz.underlying25 (by kernel_rfl) o_outc (by decide)
theorem o_vers : Opens Tryz.prog 26 (cSl cVer) := opens_sl Tryz.underlying26 (by kernel_rfl) o_ver (by decide)
theorem o_world : Opens Tryz.prog 28 cWorld := opens_iso (opens_struct ⟨_, Tryz.underlying28, rfl⟩ (by kernel_rfl) (opensF_cons o_files (opensF_cons o_vars (opensF_cons o_outs (opensF_cons o_outcs (opensF_last o_vers)))))) fun a => ⟨⟨a.1, a.2.1, a.2.2.1, a.2.2.2.1, a.2.2.2.2⟩, rfl⟩
theorem o_case : Opens Tryz.prog 32 cCase := opens_iso (opens_struct ⟨_, Tryz.underlying32, rfl⟩ (by kernel_rfl) (opensF_cons o_world (opensF_cons o_strs (opensF_last o_ints)))) fun a => ⟨⟨a.1, a.2.1, a.2.2⟩, rfl⟩
theorem bytesVar : Tryz.prog.bytesOf 98 = 56 := by kernel_rfl

/-- A case's variables are no more than memory bears. -/
theorem case_vars {H : Type} {enc : TypeId × Value → H} {w : World} {fuel : Nat} {cs : List Value} {x : DataW H × List MemPlace} (hx : DataW.trod enc Tryz.prog w 0 (fun _ => true) true fuel 32 cs = some x) {F : Fp} {y : PCase} (hy : cCase.rd w F cs y)
    (hw : ∀ n ∈ x.1.weights Tryz.prog 32, n ≤ reachBytes) : y.world.vars.length ≤ 2600000000000 := by
  obtain ⟨R1, q1, R2, q2, R3, q3, R4, q4, R5, q5, R6, q6, R7, q7, rfl, -⟩ := case_cells hy
  obtain ⟨xs, n, _, rfl, _, hlen, hf⟩ := DataW.trod_struct Tryz.underlying32 hx
  have f0 := hf 0 _ rfl
  obtain ⟨x0, hx0⟩ : ∃ x0, xs[0]? = some x0 := ⟨_, List.getElem?_eq_getElem (by rw [hlen]; decide)⟩
  rw [hx0] at f0
  obtain ⟨ys, n', _, rfl, _, hlen', hf'⟩ := DataW.trod_struct Tryz.underlying28 f0
  have f1 := hf' 1 _ rfl
  obtain ⟨y1, hy1⟩ : ∃ y1, ys[1]? = some y1 := ⟨_, List.getElem?_eq_getElem (by rw [hlen']; decide)⟩
  rw [hy1] at f1
  have hc : Tryz.prog.cellsOf 23 = 1 := by kernel_rfl
  have hcw : Tryz.prog.cellsOf 28 = 5 := by kernel_rfl
  have hmem : ∀ k ∈ y1.1.weights Tryz.prog 23, k ≤ reachBytes := fun k hk => hw k (by
    simp only [DataW.weights, Tryz.underlying32]
    refine DataW.weights_mem_each (j := 0) (t := 28) rfl (by rw [List.getElem?_map, hx0]; rfl) k ?_
    simp only [DataW.weights, Tryz.underlying28]
    exact DataW.weights_mem_each (j := 1) (t := 23) rfl (by rw [List.getElem?_map, hy1]; rfl) k hk)
  simp only [List.getElem_toArray, List.getElem_cons_zero, List.getElem_cons_succ] at f1
  rw [hc, hcw] at f1
  simp only [List.drop_zero, List.drop_succ_cons, List.take_succ_cons, List.take_zero] at f1
  rcases open_slice Tryz.underlying23 f1 with ⟨he, _⟩ | ⟨a, len, cap, m, k, D, Pl, he, _, hl, _, hm, rfl, _⟩
  · simp at he
    have := he.2.1
    rw [this]; decide
  · simp at he
    have hlen2 := he.2.1
    have := hmem _ (by simp only [DataW.weights, Tryz.underlying23]; exact List.mem_cons_self)
    rw [bytesVar] at this
    simp at this
    unfold reachBytes at this
    omega

theorem star_err : "*" ++ "errors.errorString" = "*errors.errorString" := by decide
theorem errRow (u : TypeId) (h : Tryz.prog.typeName? 3 u = some "*errors.errorString") : u = 196 :=
  typeName_ptr_named (nm := "errors.errorString") (by rw [star_err]; kernel_rfl) (by kernel_rfl) (by decide) u (by rw [star_err]; exact h)
theorem errAt_of {n : String} {text : List UInt8} {r : List (String × DataW Unit)} {W : World} {g : Nat} (h : laidMet Tryz.prog ((n, .iface "*errors.errorString" (.ptr (.agg [.lit (.string text)]))) :: r) W)
    (hg : Tryz.prog.globalNamed n = some g) (ht : (Tryz.prog.globals[g]?).map (·.type) = some 48) : ErrAt W g := by
  obtain ⟨a, s, hv, _⟩ := laid_sentinel h hg ht Tryz.underlying48 errRow Tryz.underlying196 Tryz.underlying222 rfl rfl Tryz.underlying9 (by kernel_rfl) (by kernel_rfl)
  exact ⟨_, _, by have := World.var?_cell hg hv 0; simpa using this⟩
end Go.Proofs.YthgibbekfcenhaaGreatDoor
