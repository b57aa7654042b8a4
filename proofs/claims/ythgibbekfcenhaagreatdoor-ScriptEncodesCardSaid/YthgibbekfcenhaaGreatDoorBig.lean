/- An append of one element to a long row of the call's own. -/
import Derived.Test.YthgibbekfcenhaaGreatDoorEnvF
namespace Go.Proofs.YthgibbekfcenhaaGreatDoor
open Go.RowKit

theorem grow_more {n k c : Nat} (h : n ≤ c) : Builtin.growBy n k c = c := by
  cases k with
  | zero => rfl
  | succ k => unfold Builtin.growBy; rw [if_pos h]
theorem next_fit {n : Nat} (h : n ≤ 2600000000000) : Builtin.nextslicecap (n + 1) n * 64 ≤ 281474976710656 := by
  unfold Builtin.nextslicecap
  split
  · omega
  split
  · omega
  · have : Builtin.growBy (n + 1) 4 n = n + (n + 768) / 4 := by
      rw [show (4 : Nat) = 3 + 1 from rfl]
      unfold Builtin.growBy
      rw [if_neg (by omega), grow_more (by omega)]
    rw [this]
    omega
section
variable {P : Program} {w : World}
/-- As the library's law, for one element of 64 bytes behind a row that may be long. -/
theorem run_append_long (base : Nat) (t ty e : TypeId) (i : TypeInfo) (z : Value) (size : Nat) (ht : P.underlying t = some (.slice e)) (hi : P.info? e = some i) (hz : i.zero = some z)
    (hsize : i.size = size) (hby : i.bytes = 64) (hzs : z.cells.size = size) (hsz : 0 < size)
    (v : Value) (n : Nat) (xs : List Value) (hown : w.ownsRow base e size v n xs)
    (a : Addr) (c : Nat) (news : List Value) (hl : news.length = size) (hnews : ∀ j u, news[j]? = some u → w.cell? (a.add j) = some u) (h1 : ∀ u ∈ news, u.oneCell' = true)
    (hn : n ≤ 2600000000000) (hbase : base ≤ w.heap.size) :
    ∃ v' w', (Builtin.append_ #[t, t] ty #[v, .slice (some a) 1 c]).run P w = .ok v' w' ∧ w'.ownsRow base e size v' (n + 1) (xs ++ news) ∧ w.grownBy w' v.ownBlock ∧ (v'.ownBlock = v.ownBlock ∨ v'.ownBlock = some w.heap.size) := by
  by_cases hs : n ≤ 2000000000000
  · obtain ⟨v', w', k1, k2, k3, _, k5⟩ := run_append_own_at (P := P) (w := w) base t ty e i z size 64 ht hi hz hsize hby hzs hsz v n xs hown a 1 c news (by rw [hl, Nat.one_mul]) hnews h1 (by unfold maxLen; omega) (by omega) hbase
    exact ⟨v', w', k1, k2, k3, k5⟩
  subst hsize
  have hlen : (xs ++ news).length = (n + 1) * i.size := by rw [List.length_append, hown.1, hl, Nat.succ_mul]
  rcases hown.2 with ⟨_, h0⟩ | ⟨g, cap, cur, rfl, hbg, hg, hnc, hcm, hcs, htake⟩
  · omega
  by_cases hroom : n + 1 ≤ cap
  · have hfit : n * i.size + news.length ≤ cur.size := by rw [hl, hcs, ← Nat.succ_mul]; exact Nat.mul_le_mul_right _ hroom
    have hr := run_append_room (P := P) w t ty e i ht hi g n cap cur hg a 1 c news (by rw [hl, Nat.one_mul]) hnews h1 hroom hfit
    refine ⟨_, _, hr, ⟨hlen, .inr ⟨g, cap, _, rfl, hbg, setRow_heap w g cur _ e _ hg, hroom, hcm, ?_, ?_⟩⟩, ⟨rfl, rfl, rfl, by simp, fun k _ hk => setRow_other w g k _ (fun e => hk (by simp [Value.ownBlock, e]))⟩, Or.inl rfl⟩
    · simp only [List.size_toArray, List.length_append, List.length_take, List.length_drop, Array.length_toList]
      omega
    · rw [htake, ← hlen]
      exact List.take_left
  · obtain rfl : n = cap := by omega
    have holds : ∀ j u, xs[j]? = some u → w.cell? ((⟨g, 0, none⟩ : Addr).add j) = some u := hown.cells (g := g) rfl
    have hr := run_append_grow (P := P) w t ty e i z ht hi hz ⟨g, 0, none⟩ n n xs hown.1 holds a 1 c news (by rw [hl, Nat.one_mul]) hnews (by omega) (by omega) (by rw [hby]; exact next_fit hn)
    have hge := grownCap_ge w (n + 1) n e
    have hle : grownCap w (n + 1) n e ≤ maxLen := grownCap_le_maxLen w (n + 1) n e (by unfold maxLen; omega)
    refine ⟨_, _, hr, ⟨hlen, .inr ⟨w.heap.size, _, _, rfl, hbase, heap_alloc_new w.drew _, hge, hle, ?_, ?_⟩⟩, ⟨rfl, rfl, rfl, by simp, fun k hk _ => Below.heap_alloc w.drew _ k hk⟩, Or.inr rfl⟩
    · simp only [Array.size_append, List.size_toArray, size_zeroCells, hzs, hown.1, hl]
      rw [← Nat.succ_mul, ← Nat.add_mul]
      congr 1
      omega
    · simp only [Array.toList_append, List.append_assoc]
      rw [← List.append_assoc, ← hlen]
      exact List.take_left
end
section
variable {P : Program} {α : Type} {c : Cd α} {w : World} {ops : Array Oper} {rest : List Oper} {o : Oper} {a : Act} {Q : Exit → Act → World → Prop}
/-- 'append(s, x)', s a row of the call's own that may be long, an element 64 bytes. -/
theorem wpList_app1B {o2 : Oper} {t e : TypeId} {d : Tmp} {s x : Operand} {base : Nat} {F F1 : Fp} {v y : Value} {xs : List α} {z : α} (hT : SlT P t e c.size) (h64 : (P.info? e).map (·.bytes) = some 64)
    (hy : c.rd w F1 y.cells.toList z) (hO : Own c e w base F v xs) (hF1 : ∀ k, F1 k → k < w.heap.size → F k ∧ some k ≠ v.ownBlock) (hb : base ≤ w.heap.size) (hl : xs.length ≤ 2600000000000)
    (hside : (o.guard = none ∧ o2.guard = none ∧ o.op = .buildSlice t 1 #[(0, x)] ∧ o.dst = some d ∧ o2.op = .call { callee := .builtin .append, args := #[s, .tmp d], argTypes := #[t, t] }) ∧
      a.eval x = y ∧ decide (d < a.tmps.size) = true ∧ (a.put (some d) (.slice (some ⟨w.heap.size, 0, none⟩) 1 1)).eval s = v)
    (h : ∀ v1 w1, Own c e w1 base F v1 (xs ++ [z]) → Mod (fun k => some k = v.ownBlock) w w1 → (v1.ownBlock = v.ownBlock ∨ ∃ b, v1.ownBlock = some b ∧ w.heap.size ≤ b) →
      wpList P ops Q rest ((a.put (some d) (.slice (some ⟨w.heap.size, 0, none⟩) 1 1)).put o2.dst v1) w1) :
    wpList P ops Q (o :: o2 :: rest) a w := by
  obtain ⟨⟨hgd, hgd2, ho, hd, ho2⟩, hx, hdn0, hs⟩ := hside
  have hdn := of_decide_eq_true hdn0
  have hsize : y.cells.size = c.size := by have := c.len hy; simpa using this
  obtain ⟨i, zv, hi, hz, hsz, hzs, _⟩ := hT.info
  have hby : i.bytes = 64 := by rw [hi] at h64; simpa using h64
  refine wpList_plain hgd fun K hK => ?_
  have hr := run_buildSlice1 hT y hsize w
  unfold Oper.wp execOp
  simp only [ho, Sem.run_bind, List.map_toArray, List.map_cons, List.map_nil, hx, hr, Result.andThen_ok, Sem.run_pure, Oper.upon_value, hd]
  refine hK _ _ ?_
  obtain ⟨raw, k1, k2⟩ := hO.mod ((Mod.refl (fun _ => False) w).alloc (.cells y.cells e)) (fun _ _ q => q) (fun _ _ _ q => q)
  have hcell : ∀ j u, y.cells.toList[j]? = some u → (w.alloc (.cells y.cells e)).cell? ((⟨w.heap.size, 0, none⟩ : Addr).add j) = some u := by
    intro j u hj
    have e1 : (⟨w.heap.size, 0, none⟩ : Addr).add j = ⟨w.heap.size, j, none⟩ := by
      unfold Addr.add
      split
      · rename_i h0; simp
      · simp
    rw [e1]
    simp only [World.cell?, heap_alloc_new, Option.isSome_none, Bool.false_eq_true, if_false]
    rw [← hj, Array.getElem?_toList]
  obtain ⟨v1, w1, hrun, ho1, hg1, hat⟩ := run_append_long (P := P) (w := w.alloc (.cells y.cells e)) base t o2.type e i zv c.size hT.under hi hz hsz hby hzs hT.pos v xs.length raw k1 ⟨w.heap.size, 0, none⟩ 1 y.cells.toList (by rw [Array.length_toList, hsize]) hcell (c.one hy) hl (by simp; omega)
  refine wpList_append_run hrun ⟨⟨hgd2, ho2⟩, hs, ?_⟩ (h v1 w1 ⟨raw ++ y.cells.toList, ?_, ?_⟩ ?_ ?_)
  · simp [Act.put, Act.eval, hdn, Array.getD_eq_getD_getElem?]
  · rw [List.length_append]; exact ho1
  · have hm : Mod (fun k => some k = v.ownBlock) (w.alloc (.cells y.cells e)) w1 := ⟨hg1.os, hg1.tape, hg1.output, hg1.size, fun k hk hn => hg1.block k hk hn⟩
    have hnew : ∀ k, k < (w.alloc (.cells y.cells e)).heap.size → some k ≠ v.ownBlock → some k ≠ v1.ownBlock := by
      intro k hk hn
      rcases hat with q | q
      · rw [q]; exact hn
      · rw [q]; simp only [ne_eq, Option.some.injEq]; omega
    refine RdRaw.append (k2.keep fun k hk hl => ⟨hm.block k hl hk.2, hk.1, hnew k hl hk.2⟩) ⟨y.cells.toList, [], by simp, ?_, rfl⟩
    refine c.keep (c.alloc (c.bound hy) (.cells y.cells e)) fun k hk hl => ?_
    have q := hF1 k hk.1 hk.2
    exact ⟨hm.block k hl q.2, q.1, hnew k hl q.2⟩
  · exact ((Mod.refl _ w).alloc _).trans' ⟨hg1.os, hg1.tape, hg1.output, hg1.size, fun k hk hn => hg1.block k hk hn⟩ fun k _ q => q
  · rcases hat with q | q
    · exact .inl q
    · exact .inr ⟨_, q, by simp⟩
end
end Go.Proofs.YthgibbekfcenhaaGreatDoor
