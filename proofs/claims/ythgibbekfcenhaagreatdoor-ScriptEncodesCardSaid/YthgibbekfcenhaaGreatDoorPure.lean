/- The plain law of worlds as bytes: what is decoded is plain; what a plain case is written as is decoded as it was. Plain Lean, no program in sight. -/
namespace Go.Proofs.YthgibbekfcenhaaGreatDoor

structure PFile where
  name : ByteArray
  content : ByteArray
  time : Int
  deriving DecidableEq
structure PVar where
  name : ByteArray
  words : List ByteArray
  level : Int
  hidden : Bool
  deriving DecidableEq
structure POut where
  command : ByteArray
  text : ByteArray
  deriving DecidableEq
structure PEff where
  op : Int
  name : ByteArray
  text : ByteArray
  deriving DecidableEq
structure POutc where
  target : ByteArray
  exit : Int
  effects : List PEff
  deriving DecidableEq
structure PVer where
  prog : ByteArray
  target : ByteArray
  prereq : ByteArray
  old : Bool
  deriving DecidableEq
structure PWorld where
  files : List PFile
  vars : List PVar
  outputs : List POut
  outcomes : List POutc
  verdicts : List PVer
  deriving DecidableEq
structure PCase where
  world : PWorld
  args : List ByteArray
  picks : List Int
  deriving DecidableEq

abbrev Bytes := List UInt8
/-- A reader: what it reads, and what is left. -/
abbrev Rdr (α : Type) := Bytes → α × Bytes

/-- The byte that comes, modulo m; 0 behind the end. -/
def pNum (m : Nat) : Rdr Int
  | [] => (0, [])
  | x :: l => (((x.toNat % m : Nat) : Int), l)
def pText (most : Nat) : Rdr ByteArray := fun l =>
  let r := pNum (most + 1) l
  (⟨(r.2.take r.1.toNat).toArray⟩, r.2.drop r.1.toNat)
def pRep {α : Type} (one : Rdr α) : Nat → Rdr (List α)
  | 0, l => ([], l)
  | n + 1, l => ((one l).1 :: (pRep one n (one l).2).1, (pRep one n (one l).2).2)
def pMany {α : Type} (most : Nat) (one : Rdr α) : Rdr (List α) := fun l => pRep one (pNum (most + 1) l).1.toNat (pNum (most + 1) l).2

def pFile : Rdr PFile := fun l =>
  let a := pText 12 l
  let b := pText 200 a.2
  let c := pNum 256 b.2
  (⟨a.1, b.1, c.1 + 1⟩, c.2)
def pVar : Rdr PVar := fun l =>
  let a := pText 12 l
  let b := pMany 3 (pText 12) a.2
  let c := pNum 6 b.2
  (⟨a.1, b.1, c.1 % 3, decide (3 ≤ c.1)⟩, c.2)
def pOut : Rdr POut := fun l =>
  let a := pText 12 l
  let b := pText 60 a.2
  (⟨a.1, b.1⟩, b.2)
def pEff : Rdr PEff := fun l =>
  let a := pNum 3 l
  let b := pText 12 a.2
  let c := pText 12 b.2
  (⟨a.1 + 1, b.1, c.1⟩, c.2)
def pOutc : Rdr POutc := fun l =>
  let a := pText 12 l
  let b := pNum 4 a.2
  let c := pMany 2 pEff b.2
  (⟨a.1, b.1, c.1⟩, c.2)
def pVer : Rdr PVer := fun l =>
  let a := pText 6 l
  let b := pText 12 a.2
  let c := pText 12 b.2
  let d := pNum 2 c.2
  (⟨a.1, b.1, c.1, d.1 == 1⟩, d.2)
def pCase : Rdr PCase := fun l =>
  let a := pMany 7 pFile l
  let b := pMany 3 pVar a.2
  let c := pMany 3 pOut b.2
  let d := pMany 5 pOutc c.2
  let e := pMany 3 pVer d.2
  let f := pMany 5 (pText 20) e.2
  let g := pMany 11 (pNum 256) f.2
  (⟨⟨a.1, b.1, c.1, d.1, e.1⟩, f.1, g.1⟩, g.2)

/-! ### plain -/
def okText (most : Nat) (s : ByteArray) : Bool := decide (s.size ≤ most)
def okMany {α : Type} (most : Nat) (ok : α → Bool) (xs : List α) : Bool := decide (xs.length ≤ most) && xs.all ok
def okNum (m : Int) (n : Int) : Bool := decide (0 ≤ n) && decide (n < m)
def okFile (f : PFile) : Bool := okText 12 f.name && (okText 200 f.content && okNum 256 (f.time - 1))
def okVar (v : PVar) : Bool := okText 12 v.name && (okMany 3 (okText 12) v.words && okNum 3 v.level)
def okOut (o : POut) : Bool := okText 12 o.command && okText 60 o.text
def okEff (e : PEff) : Bool := okNum 3 (e.op - 1) && (okText 12 e.name && okText 12 e.text)
def okOutc (o : POutc) : Bool := okText 12 o.target && (okNum 4 o.exit && okMany 2 okEff o.effects)
def okVer (v : PVer) : Bool := okText 6 v.prog && (okText 12 v.target && okText 12 v.prereq)
def okCase (c : PCase) : Bool :=
  okMany 7 okFile c.world.files && (okMany 3 okVar c.world.vars && (okMany 3 okOut c.world.outputs && (okMany 5 okOutc c.world.outcomes &&
  (okMany 3 okVer c.world.verdicts && (okMany 5 (okText 20) c.args && okMany 11 (okNum 256) c.picks)))))

/-! ### what is written -/
def byteOf (n : Int) : UInt8 := UInt8.ofNat (n % 256).toNat
def eNum (n : Int) : Bytes := [byteOf n]
def eText (s : ByteArray) : Bytes := byteOf s.size :: s.data.toList
def eMany {α : Type} (one : α → Bytes) (xs : List α) : Bytes := byteOf xs.length :: xs.flatMap one
def eFile (f : PFile) : Bytes := eText f.name ++ (eText f.content ++ eNum (f.time - 1))
def eVar (v : PVar) : Bytes := eText v.name ++ (eMany eText v.words ++ eNum (if v.hidden then v.level + 3 else v.level))
def eOut (o : POut) : Bytes := eText o.command ++ eText o.text
def eEff (e : PEff) : Bytes := eNum (e.op - 1) ++ (eText e.name ++ eText e.text)
def eOutc (o : POutc) : Bytes := eText o.target ++ (eNum o.exit ++ eMany eEff o.effects)
def eVer (v : PVer) : Bytes := eText v.prog ++ (eText v.target ++ (eText v.prereq ++ eNum (if v.old then 1 else 0)))
def eCase (c : PCase) : Bytes :=
  eMany eFile c.world.files ++ (eMany eVar c.world.vars ++ (eMany eOut c.world.outputs ++ (eMany eOutc c.world.outcomes ++
  (eMany eVer c.world.verdicts ++ (eMany eText c.args ++ eMany eNum c.picks)))))

/-! ### what is written is read as it was -/
/-- What 'e' writes of an ok x is read by p as x. -/
def Reads {α : Type} (ok : α → Bool) (e : α → Bytes) (p : Rdr α) : Prop := ∀ x l, ok x = true → p (e x ++ l) = (x, l)
theorem byteOf_toNat {n : Int} (h0 : 0 ≤ n) (h1 : n < 256) : ((byteOf n).toNat : Int) = n := by
  unfold byteOf
  rw [UInt8.toNat_ofNat']
  omega
theorem reads_num {m : Nat} (h : m ≤ 256) : Reads (okNum m) eNum (pNum m) := by
  intro n l hn
  simp only [okNum, Bool.and_eq_true, decide_eq_true_eq] at hn
  have hb := byteOf_toNat hn.1 (by omega)
  have he : (byteOf n).toNat % m = (byteOf n).toNat := Nat.mod_eq_of_lt (by omega)
  simp only [eNum, List.cons_append, List.nil_append, pNum, Prod.mk.injEq, and_true, he]
  omega
theorem reads_text {most : Nat} (h : most < 256) : Reads (okText most) eText (pText most) := by
  intro s l hs
  simp only [okText, decide_eq_true_eq] at hs
  have hb := byteOf_toNat (n := (s.size : Int)) (by omega) (by omega)
  have he : ((byteOf s.size).toNat % (most + 1)) = s.data.toList.length := by
    have : s.size = s.data.toList.length := rfl
    rw [Nat.mod_eq_of_lt (by omega)]
    omega
  simp only [eText, List.cons_append, pText, pNum, he, Int.toNat_natCast, Prod.mk.injEq]
  exact ⟨by simp, by simp⟩
theorem reads_rep {α : Type} {ok : α → Bool} {e : α → Bytes} {p : Rdr α} (h : Reads ok e p) : ∀ (xs : List α) (l : Bytes), xs.all ok = true → pRep p xs.length (xs.flatMap e ++ l) = (xs, l)
  | [], l, _ => rfl
  | x :: xs, l, hx => by
    simp only [List.all_cons, Bool.and_eq_true] at hx
    have h1 := h x (xs.flatMap e ++ l) hx.1
    have h2 := reads_rep h xs l hx.2
    simp only [List.flatMap_cons, List.length_cons, List.append_assoc, pRep, h1, h2]
theorem reads_many {α : Type} {ok : α → Bool} {e : α → Bytes} {p : Rdr α} {most : Nat} (hm : most < 256) (h : Reads ok e p) : Reads (okMany most ok) (eMany e) (pMany most p) := by
  intro xs l hx
  simp only [okMany, Bool.and_eq_true, decide_eq_true_eq] at hx
  have hb := byteOf_toNat (n := (xs.length : Int)) (by omega) (by omega)
  have he : ((byteOf xs.length).toNat % (most + 1)) = xs.length := by
    rw [Nat.mod_eq_of_lt (by omega)]
    omega
  simp only [eMany, List.cons_append, pMany, pNum, he, Int.toNat_natCast]
  exact reads_rep h xs l hx.2
theorem reads_file : Reads okFile eFile pFile := by
  rintro ⟨a, b, c⟩ l h
  simp only [okFile, Bool.and_eq_true] at h
  simp only [eFile, pFile, List.append_assoc, reads_text (by decide) _ _ h.1, reads_text (by decide) _ _ h.2.1, reads_num (by decide) _ _ h.2.2, Prod.mk.injEq, PFile.mk.injEq, true_and, and_true]
  omega
theorem reads_var : Reads okVar eVar pVar := by
  rintro ⟨a, b, c, d⟩ l h
  simp only [okVar, Bool.and_eq_true] at h
  obtain ⟨h1, h2, h3⟩ := h
  simp only [okNum, Bool.and_eq_true, decide_eq_true_eq] at h3
  have h4 : okNum (6 : Nat) (if d then c + 3 else c) = true := by
    simp only [okNum, Bool.and_eq_true, decide_eq_true_eq]
    cases d <;> simp <;> omega
  simp only [eVar, pVar, List.append_assoc, reads_text (by decide) _ _ h1, reads_many (by decide) (reads_text (by decide)) _ _ h2, reads_num (by decide) _ _ h4, Prod.mk.injEq, PVar.mk.injEq, true_and, and_true]
  cases d <;> simp <;> omega
theorem reads_out : Reads okOut eOut pOut := by
  rintro ⟨a, b⟩ l h
  simp only [okOut, Bool.and_eq_true] at h
  simp only [eOut, pOut, List.append_assoc, reads_text (by decide) _ _ h.1, reads_text (by decide) _ _ h.2]
theorem reads_eff : Reads okEff eEff pEff := by
  rintro ⟨a, b, c⟩ l h
  simp only [okEff, Bool.and_eq_true] at h
  simp only [eEff, pEff, List.append_assoc, reads_num (m := 3) (by decide) _ _ h.1, reads_text (by decide) _ _ h.2.1, reads_text (by decide) _ _ h.2.2, Prod.mk.injEq, PEff.mk.injEq, and_true]
  omega
theorem reads_outc : Reads okOutc eOutc pOutc := by
  rintro ⟨a, b, c⟩ l h
  simp only [okOutc, Bool.and_eq_true] at h
  simp only [eOutc, pOutc, List.append_assoc, reads_text (by decide) _ _ h.1, reads_num (m := 4) (by decide) _ _ h.2.1, reads_many (by decide) reads_eff _ _ h.2.2]
theorem reads_ver : Reads okVer eVer pVer := by
  rintro ⟨a, b, c, d⟩ l h
  simp only [okVer, Bool.and_eq_true] at h
  have h4 : okNum (2 : Nat) (if d then 1 else 0) = true := by cases d <;> decide
  simp only [eVer, pVer, List.append_assoc, reads_text (by decide) _ _ h.1, reads_text (by decide) _ _ h.2.1, reads_text (by decide) _ _ h.2.2, reads_num (m := 2) (by decide) _ _ h4, Prod.mk.injEq, PVer.mk.injEq, true_and, and_true]
  cases d <;> simp
/-- A plain case's bytes are decoded as it was. -/
theorem reads_case : Reads okCase eCase pCase := by
  rintro ⟨⟨a, b, c, d, e⟩, f, g⟩ l h
  simp only [okCase, Bool.and_eq_true] at h
  obtain ⟨h1, h2, h3, h4, h5, h6, h7⟩ := h
  simp only [eCase, pCase, List.append_assoc, reads_many (by decide) reads_file _ _ h1, reads_many (by decide) reads_var _ _ h2, reads_many (by decide) reads_out _ _ h3,
    reads_many (by decide) reads_outc _ _ h4, reads_many (by decide) reads_ver _ _ h5, reads_many (by decide) (reads_text (by decide)) _ _ h6, reads_many (by decide) (reads_num (m := 256) (by decide)) _ _ h7]

theorem pRep_succ {α : Type} (p : Rdr α) : ∀ k l, pRep p (k + 1) l = ((pRep p k l).1 ++ [(p (pRep p k l).2).1], (p (pRep p k l).2).2)
  | 0, l => rfl
  | k + 1, l => by
    have h := pRep_succ p k (p l).2
    show ((p l).1 :: (pRep p (k + 1) (p l).2).1, (pRep p (k + 1) (p l).2).2) = _
    rw [h]
    rfl
theorem pRep_length {α : Type} (p : Rdr α) : ∀ k l, (pRep p k l).1.length = k
  | 0, _ => rfl
  | k + 1, l => by simp [pRep, pRep_length p k]

/-! ### what is read is plain -/
def Plainly {α : Type} (ok : α → Bool) (p : Rdr α) : Prop := ∀ l, ok (p l).1 = true
theorem pNum_range {m : Nat} (h : 0 < m) : ∀ l, 0 ≤ (pNum m l).1 ∧ (pNum m l).1 < m
  | [] => by simp only [pNum]; omega
  | x :: l => by
    have := Nat.mod_lt x.toNat h
    simp only [pNum]
    omega
theorem plain_num {m : Nat} (h : 0 < m) : Plainly (okNum m) (pNum m) := fun l => by
  have := pNum_range h l
  simp only [okNum, Bool.and_eq_true, decide_eq_true_eq]
  exact this
theorem plain_text {most : Nat} : Plainly (okText most) (pText most) := fun l => by
  have := pNum_range (m := most + 1) (by omega) l
  simp only [okText, pText]
  apply decide_eq_true
  show ((pNum (most + 1) l).2.take (pNum (most + 1) l).1.toNat).toArray.size ≤ most
  simp only [List.size_toArray, List.length_take]
  omega
theorem plain_rep {α : Type} {ok : α → Bool} {p : Rdr α} (h : Plainly ok p) : ∀ n l, (pRep p n l).1.all ok = true ∧ (pRep p n l).1.length = n
  | 0, l => ⟨rfl, rfl⟩
  | n + 1, l => by
    have h1 := plain_rep h n (p l).2
    simp only [pRep, List.all_cons, List.length_cons, Bool.and_eq_true]
    exact ⟨⟨h l, h1.1⟩, by rw [h1.2]⟩
theorem plain_many {α : Type} {ok : α → Bool} {p : Rdr α} {most : Nat} (h : Plainly ok p) : Plainly (okMany most ok) (pMany most p) := fun l => by
  have h1 := plain_rep h (pNum (most + 1) l).1.toNat (pNum (most + 1) l).2
  have h2 := pNum_range (m := most + 1) (by omega) l
  simp only [okMany, pMany, Bool.and_eq_true]
  exact ⟨decide_eq_true (by rw [h1.2]; omega), h1.1⟩
theorem plain_file : Plainly okFile pFile := fun l => by
  have h := plain_num (m := 256) (by decide) (pText 200 (pText 12 l).2).2
  simp only [okFile, pFile, Bool.and_eq_true, plain_text _, true_and]
  rw [show ∀ x : Int, x + 1 - 1 = x from fun x => by omega]
  exact h
theorem plain_var : Plainly okVar pVar := fun l => by
  simp only [okVar, pVar, Bool.and_eq_true, plain_text _, plain_many plain_text _, true_and]
  simp only [okNum, Bool.and_eq_true, decide_eq_true_eq]
  omega
theorem plain_out : Plainly okOut pOut := fun l => by simp only [okOut, pOut, Bool.and_eq_true, plain_text _, true_and]
theorem plain_eff : Plainly okEff pEff := fun l => by
  have h := plain_num (m := 3) (by decide) l
  simp only [okEff, pEff, Bool.and_eq_true, plain_text _, and_true]
  rw [show ∀ x : Int, x + 1 - 1 = x from fun x => by omega]
  exact h
theorem plain_outc : Plainly okOutc pOutc := fun l => by
  simp only [okOutc, pOutc, Bool.and_eq_true, plain_text _, plain_many plain_eff _, true_and, and_true]
  exact plain_num (m := 4) (by decide) _
theorem plain_ver : Plainly okVer pVer := fun l => by simp only [okVer, pVer, Bool.and_eq_true, plain_text _, true_and]
/-- What is decoded is plain. -/
theorem plain_case : Plainly okCase pCase := fun l => by
  simp only [okCase, pCase, Bool.and_eq_true, plain_many plain_file _, plain_many plain_var _, plain_many plain_out _, plain_many plain_outc _, plain_many plain_ver _, plain_many plain_text _, true_and]
  exact plain_many (plain_num (m := 256) (by decide)) _
end Go.Proofs.YthgibbekfcenhaaGreatDoor
