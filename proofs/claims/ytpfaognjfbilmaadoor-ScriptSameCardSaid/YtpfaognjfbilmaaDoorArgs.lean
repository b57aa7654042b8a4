/- Cases as arguments; the errors that the row lists. -/
import Derived.Test.YtpfaognjfbilmaaDoorOpens
import Derived.Test.YtpfaognjfbilmaaDoorEnvB
import Derived.Test.YtpfaognjfbilmaaDoorCopyE
import Derived.Test.YtpfaognjfbilmaaDoorRows
import Derived.Stop.LaidErr
import Derived.SizedLaws
namespace Go.Proofs.YtpfaognjfbilmaaDoor
open Go.RowKit Go.ChangeShapes Go.WideShapes Go.Deep

theorem o_str : Opens Tryd.prog 9 cStr := opens_str Tryd.underlying9 (by kernel_rfl)
theorem o_i64 : Opens Tryd.prog 3 cI64 := opens_i64 Tryd.underlying3 (by kernel_rfl)
theorem o_bool : Opens Tryd.prog 4 cBool := opens_bool Tryd.underlying4 (by kernel_rfl)
theorem o_strs : Opens Tryd.prog 31 (cSl cStr) := opens_sl Tryd.underlying31 (by kernel_rfl) o_str (by decide)
theorem o_ints : Opens Tryd.prog 32 (cSl cI64) := opens_sl Tryd.underlying32 (by kernel_rfl) o_i64 (by decide)
theorem o_file : Opens Tryd.prog 62 cFile := opens_iso (opens_struct ⟨_, Tryd.underlying62, rfl⟩ (by kernel_rfl) (opensF_cons o_str (opensF_cons o_str (opensF_last o_i64)))) fun a => ⟨⟨a.1, a.2.1, a.2.2⟩, rfl⟩
theorem o_var : Opens Tryd.prog 66 cVar := opens_iso (opens_struct ⟨_, Tryd.underlying66, rfl⟩ (by kernel_rfl) (opensF_cons o_str (opensF_cons o_strs (opensF_cons o_i64 (opensF_last o_bool))))) fun a => ⟨⟨a.1, a.2.1, a.2.2.1, a.2.2.2⟩, rfl⟩
theorem o_out : Opens Tryd.prog 70 cOut := opens_iso (opens_struct ⟨_, Tryd.underlying70, rfl⟩ (by kernel_rfl) (opensF_cons o_str (opensF_last o_str))) fun a => ⟨⟨a.1, a.2⟩, rfl⟩
theorem o_eff : Opens Tryd.prog 111 cEff := opens_iso (opens_struct ⟨_, Tryd.underlying111, rfl⟩ (by kernel_rfl) (opensF_cons o_i64 (opensF_cons o_str (opensF_last o_str)))) fun a => ⟨⟨a.1, a.2.1, a.2.2⟩, rfl⟩
theorem o_effs : Opens Tryd.prog 73 (cSl cEff) := opens_sl Tryd.underlying73 (by kernel_rfl) o_eff (by decide)
theorem o_outc : Opens Tryd.prog 75 cOutc := opens_iso (opens_struct ⟨_, Tryd.underlying75, rfl⟩ (by kernel_rfl) (opensF_cons o_str (opensF_cons o_i64 (opensF_last o_effs)))) fun a => ⟨⟨a.1, a.2.1, a.2.2⟩, rfl⟩
theorem o_ver : Opens Tryd.prog 79 cVer := opens_iso (opens_struct ⟨_, Tryd.underlying79, rfl⟩ (by kernel_rfl) (opensF_cons o_str (opensF_cons o_str (opensF_cons o_str (opensF_last o_bool))))) fun a => ⟨⟨a.1, a.2.1, a.2.2.1, a.2.2.2⟩, rfl⟩
theorem o_files : Opens Tryd.prog 24 (cSl cFile) := opens_sl Tryd.underlying24 (by kernel_rfl) o_file (by decide)
theorem o_vars : Opens Tryd.prog 25 (cSl cVar) := opens_sl Tryd.underlying25 (by kernel_rfl) o_var (by decide)
theorem o_outs : Opens Tryd.prog 26 (cSl cOut) := opens_sl Tryd.underlying26 (by kernel_rfl) o_out (by decide)
theorem o_outcs : Opens Tryd.prog 27 (cSl cOutc) := opens_sl Tryd.underlying27 (by kernel_rfl) o_outc (by decide)
theorem o_vers : Opens Tryd.prog 28 (cSl cVer) := opens_sl Tryd.underlying28 (by kernel_rfl) o_ver (by decide)
theorem o_world : Opens Tryd.prog 30 cWorld := opens_iso (opens_struct ⟨_, Tryd.underlying30, rfl⟩ (by kernel_rfl) (opensF_cons o_files (opensF_cons o_vars (opensF_cons o_outs (opensF_cons o_outcs (opensF_last o_vers)))))) fun a => ⟨⟨a.1, a.2.1, a.2.2.1, a.2.2.2.1, a.2.2.2.2⟩, rfl⟩
theorem o_case : Opens Tryd.prog 34 cCase := opens_iso (opens_struct ⟨_, Tryd.underlying34, rfl⟩ (by kernel_rfl) (opensF_cons o_world (opensF_cons o_strs (opensF_last o_ints)))) fun a => ⟨⟨a.1, a.2.1, a.2.2⟩, rfl⟩
theorem bytesVar : Tryd.prog.bytesOf 66 = 56 := by kernel_rfl

/-- A case's variables are no more than memory bears. -/
theorem case_vars {H : Type} {enc : TypeId × Value → H} {w : World} {fuel : Nat} {cs : List Value} {x : DataW H × List MemPlace} (hx : DataW.trod enc Tryd.prog w 0 (fun _ => true) true fuel 34 cs = some x) {F : Fp} {y : PCase} (hy : cCase.rd w F cs y)
    (hw : ∀ n ∈ x.1.weights Tryd.prog 34, n ≤ reachBytes) : y.world.vars.length ≤ 2600000000000 := by
  obtain ⟨R1, q1, R2, q2, R3, q3, R4, q4, R5, q5, R6, q6, R7, q7, rfl, -⟩ := case_cells hy
  obtain ⟨xs, n, _, rfl, _, hlen, hf⟩ := DataW.trod_struct Tryd.underlying34 hx
  have f0 := hf 0 _ rfl
  obtain ⟨x0, hx0⟩ : ∃ x0, xs[0]? = some x0 := ⟨_, List.getElem?_eq_getElem (by rw [hlen]; decide)⟩
  rw [hx0] at f0
  obtain ⟨ys, n', _, rfl, _, hlen', hf'⟩ := DataW.trod_struct Tryd.underlying30 f0
  have f1 := hf' 1 _ rfl
  obtain ⟨y1, hy1⟩ : ∃ y1, ys[1]? = some y1 := ⟨_, List.getElem?_eq_getElem (by rw [hlen']; decide)⟩
  rw [hy1] at f1
  have hc : Tryd.prog.cellsOf 25 = 1 := by kernel_rfl
  have hcw : Tryd.prog.cellsOf 30 = 5 := by kernel_rfl
  have hmem : ∀ k ∈ y1.1.weights Tryd.prog 25, k ≤ reachBytes := fun k hk => hw k (by
    simp only [DataW.weights, Tryd.underlying34]
    refine DataW.weights_mem_each (j := 0) (t := 30) rfl (by rw [List.getElem?_map, hx0]; rfl) k ?_
    simp only [DataW.weights, Tryd.underlying30]
    exact DataW.weights_mem_each (j := 1) (t := 25) rfl (by rw [List.getElem?_map, hy1]; rfl) k hk)
  simp only [List.getElem_toArray, List.getElem_cons_zero, List.getElem_cons_succ] at f1
  rw [hc, hcw] at f1
  simp only [List.drop_zero, List.drop_succ_cons, List.take_succ_cons, List.take_zero] at f1
  rcases open_slice Tryd.underlying25 f1 with ⟨he, _⟩ | ⟨a, len, cap, m, k, D, Pl, he, _, hl, _, hm, rfl, _⟩
  · simp at he
    have := he.2.1
    rw [this]; decide
  · simp at he
    have hlen2 := he.2.1
    have := hmem _ (by simp only [DataW.weights, Tryd.underlying25]; exact List.mem_cons_self)
    rw [bytesVar] at this
    simp at this
    unfold reachBytes at this
    omega

theorem star_err : "*" ++ "errors.errorString" = "*errors.errorString" := by decide
theorem errRow (u : TypeId) (h : Tryd.prog.typeName? 3 u = some "*errors.errorString") : u = 180 :=
  typeName_ptr_named (nm := "errors.errorString") (by rw [star_err]; kernel_rfl) (by kernel_rfl) (by decide) u (by rw [star_err]; exact h)
theorem errAt_of {n : String} {text : List UInt8} {r : List (String × DataW Unit)} {W : World} {g : Nat} (h : laidMet Tryd.prog ((n, .iface "*errors.errorString" (.ptr (.agg [.lit (.string text)]))) :: r) W)
    (hg : Tryd.prog.globalNamed n = some g) (ht : (Tryd.prog.globals[g]?).map (·.type) = some 51) : ErrAt W g := by
  obtain ⟨a, s, hv, _⟩ := laid_sentinel h hg ht Tryd.underlying51 errRow Tryd.underlying180 Tryd.underlying198 rfl rfl Tryd.underlying9 (by kernel_rfl) (by kernel_rfl)
  exact ⟨_, _, by have := World.var?_cell hg hv 0; simpa using this⟩
theorem errs_of_laid {W : World} (h : laidMet Tryd.prog Rows.scriptSameRow.laid W) : Errs W := by
  have h1 := errAt_of h (by kernel_rfl) (by kernel_rfl) (g := 3)
  have h2 := errAt_of h.tail (by kernel_rfl) (by kernel_rfl) (g := 4)
  have h3 := errAt_of h.tail.tail (by kernel_rfl) (by kernel_rfl) (g := 0)
  have h4 := errAt_of h.tail.tail.tail (by kernel_rfl) (by kernel_rfl) (g := 2)
  have h5 := errAt_of h.tail.tail.tail.tail (by kernel_rfl) (by kernel_rfl) (g := 1)
  exact ⟨h3, h5, h4, h1, h2⟩
end Go.Proofs.YtpfaognjfbilmaaDoor
