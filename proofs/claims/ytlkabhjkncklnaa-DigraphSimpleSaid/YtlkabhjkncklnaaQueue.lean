
/-
A row of the call's own whose head was cut off ('q = q[1:]'): what it reads, and what an append does. Nothing here speaks of the program.
-/
import Derived.Test.YtlkabhjkncklnaaGM
namespace Go.Proofs.Ytlkabhjkncklnaa
set_option linter.unusedSimpArgs false
set_option linter.unusedVariables false
open Go.RowKit

/-- the call owns the row behind this slice, which begins d elements in; it reads as the list -/
def OwnQ {α : Type} (enc : α → List Value) (e size base : Nat) (w : World) (v : Value) (l : List α) : Prop :=
  (v = .slice none 0 0 ∧ l = []) ∨ ∃ g d cap cur, v = .slice (some ⟨g, d * size, none⟩) l.length cap ∧ base ≤ g ∧ w.heap[g]? = some (.cells cur e (0, 0)) ∧ l.length ≤ cap ∧ cap ≤ 9223372036854775807 ∧ (d + cap) * size ≤ cur.size ∧ (cur.toList.drop (d * size)).take (l.length * size) = flat enc l
section
variable {α : Type} {enc : α → List Value} {e size base : Nat} {w w' : World} {v : Value} {l : List α}
theorem Own.q (h : Own enc e size base w v l) : OwnQ enc e size base w v l := by
  have hl := h.1
  rcases h.2 with ⟨rfl, h0⟩ | ⟨g, cap, cur, rfl, hb, hg, hn, hm, hs, ht⟩
  · exact .inl ⟨rfl, List.eq_nil_of_length_eq_zero h0⟩
  · exact .inr ⟨g, 0, cap, cur, by rw [Nat.zero_mul], hb, hg, hn, by unfold maxLen at hm; exact hm, by rw [Nat.zero_add, hs]; exact Nat.le_refl _, by rw [Nat.zero_mul, List.drop_zero]; exact ht⟩
theorem OwnQ.form (h : OwnQ enc e size base w v l) : ∃ A c, v = .slice A l.length c ∧ l.length ≤ c ∧ c ≤ 9223372036854775807 := by
  rcases h with ⟨rfl, rfl⟩ | ⟨g, d, cap, cur, rfl, hb, hg, hn, hm, hs, ht⟩
  · exact ⟨none, 0, rfl, Nat.zero_le _, by omega⟩
  · exact ⟨_, _, rfl, hn, hm⟩
theorem OwnQ.blk (h : OwnQ enc e size base w v l) : ∀ q, v.ownBlock = some q → base ≤ q ∧ q < w.heap.size := by
  rcases h with ⟨rfl, rfl⟩ | ⟨g, d, cap, cur, rfl, hb, hg, hn, hm, hs, ht⟩
  · intro q hq
    simp [Value.ownBlock] at hq
  · intro q hq
    simp only [Value.ownBlock, Option.some.injEq] at hq
    subst hq
    exact ⟨hb, (Array.getElem?_eq_some_iff.1 hg).1⟩
theorem OwnQ.owS (h : OwnQ enc e size base w v l) : OwS (fun q => v.ownBlock = some q) w fun w' => OwnQ enc e size base w' v l := by
  rcases h with ⟨rfl, rfl⟩ | ⟨g, d, cap, cur, rfl, hb, hg, hn, hm, hs, ht⟩
  · exact fun w' _ _ => .inl ⟨rfl, rfl⟩
  · exact fun w' h1 h2 => .inr ⟨g, d, cap, cur, rfl, hb, (h2 g rfl (Array.getElem?_eq_some_iff.1 hg).1).trans hg, hn, hm, hs, ht⟩
theorem row_cell {g o : Nat} {cur : Array Value} {t : TypeId} {j : Nat} {u : Value} (hg : w.heap[g]? = some (.cells cur t (0, 0))) (h : (cur.toList.drop o)[j]? = some u) : w.cell? ⟨g, o + j, none⟩ = some u := by
  rw [cell_of_row w g (o + j) cur t (0, 0) hg]
  rw [List.getElem?_drop] at h
  simpa using h
theorem OwnQ.sl (he : ∀ x, (enc x).length = size) (h : OwnQ enc e size base w v l) : Sl (Pl enc) size w v l := by
  rcases h with ⟨rfl, rfl⟩ | ⟨g, d, cap, cur, rfl, hb, hg, hn, hm, hs, ht⟩
  · exact Sl.nil _ _ _
  · refine ⟨_, cap, rfl, hn, hm, fun k hk => ⟨g, d * size, enc l[k], rfl, (Array.getElem?_eq_some_iff.1 hg).1, he _, fun j u hu => ?_, rfl⟩⟩
    have hj : j < size := by rw [← he l[k]]; exact (List.getElem?_eq_some_iff.1 hu).1
    rw [← flat_get he l k hk j hj, ← ht] at hu
    have h1 : (cur.toList.drop (d * size))[k * size + j]? = some u := by
      rw [List.getElem?_take] at hu
      split at hu
      · exact hu
      · cases hu
    have := row_cell hg h1
    rw [← Nat.add_assoc] at this
    exact this
/-- the head is cut off -/
theorem OwnQ.tail {A : Option Addr} {n c : Nat} {x : α} (he : ∀ x, (enc x).length = size) (h : OwnQ enc e size base w (.slice A n c) (x :: l)) : OwnQ enc e size base w (.slice (if c = 1 then A else A.map (·.add (1 * size))) (n - 1) (c - 1)) l := by
  rcases h with ⟨-, h0⟩ | ⟨g, d, cap, cur, hv, hb, hg, hn, hm, hs, ht⟩
  · cases h0
  · injection hv with e1 e2 e3
    subst e1 e2 e3
    rw [List.length_cons] at hn ht
    rw [flat_cons] at ht
    have hlen : (l.length + 1) * size = size + l.length * size := by rw [Nat.add_mul, Nat.one_mul, Nat.add_comm]
    rw [hlen] at ht
    have hd : (d + 1) * size = d * size + size := by rw [Nat.add_mul, Nat.one_mul]
    have htl : (cur.toList.drop ((d + 1) * size)).take (l.length * size) = flat enc l := by
      have h1 := congrArg (List.drop size) ht
      rw [List.drop_left' (he x), List.drop_take, Nat.add_sub_cancel_left, List.drop_drop] at h1
      rw [hd]
      exact h1
    right
    by_cases hc : c = 1
    · have hl0 : l.length = 0 := by omega
      have hl : l = [] := List.eq_nil_of_length_eq_zero hl0
      subst hl
      refine ⟨g, d, c - 1, cur, ?_, hb, hg, Nat.zero_le _, by omega, ?_, by simp [flat]⟩
      · rw [if_pos hc]
        simp
      · refine Nat.le_trans (Nat.mul_le_mul_right _ ?_) hs
        omega
    · refine ⟨g, d + 1, c - 1, cur, ?_, hb, hg, by omega, by omega, by rw [show d + 1 + (c - 1) = d + c by omega]; exact hs, htl⟩
      rw [if_neg hc]
      simp [Addr.add, hd]
end
section
variable {P : Program} {α : Type} {enc : α → List Value} {e size bytes base t : Nat} {w : World} {v : Value} {l : List α}
theorem slice_one (hT : SliceT P t e size bytes) (A : Option Addr) (n c : Nat) (h1 : 1 ≤ n) (h2 : n ≤ c) (w : World) : (Instr.slice t (.slice A n c) (some (.int .i64 1)) none none).run P w = .ok (.slice (if c = 1 then A else A.map (·.add (1 * size))) (n - 1) (c - 1)) w := by
  obtain ⟨i, z, hi, hz, hs, hb, hzs⟩ := hT.info
  have hsz : Sem.run P (sizeOf e) w = .ok size w := by simp [sizeOf, typeInfo, hi, hs]
  have hk : (1 : Int) ≤ (n : Int) := by omega
  unfold Instr.slice Instr.sliceBounds Instr.sliceBound
  simp [run_underlying hT.ht, hsz, hk, asIntOf]
theorem run_append_room_at (t ty e : TypeId) (i : TypeInfo) (ht : P.underlying t = some (.slice e)) (hi : P.info? e = some i)
    (g o sLen sCap : Nat) (cur : Array Value) (hg : w.heap[g]? = some (.cells cur e (0, 0)))
    (a : Addr) (m c : Nat) (news : List Value) (hl : news.length = m * i.size) (hnews : ∀ j u, news[j]? = some u → w.cell? (a.add j) = some u) (h1 : ∀ u ∈ news, u.oneCell' = true)
    (hroom : sLen + m ≤ sCap) (hfit : o + sLen * i.size + news.length ≤ cur.size) :
    (Builtin.append_ #[t, t] ty #[.slice (some ⟨g, o, none⟩) sLen sCap, .slice (some a) m c]).run P w =
      .ok (.slice (some ⟨g, o, none⟩) (sLen + m) sCap) (w.setRow g (cur.toList.take (o + sLen * i.size) ++ news ++ cur.toList.drop (o + sLen * i.size + news.length)).toArray) := by
  have hf := run_firstCells_some (P := P) w i.size m a m c news hl hnews
  have hst := run_storeCells_at P g (o + sLen * i.size) e news 0 cur w hg (by simpa using hfit) h1
  simp only [Nat.add_zero] at hst
  have ha : (⟨g, o, none⟩ : Addr).add (sLen * i.size) = ⟨g, o + sLen * i.size, none⟩ := by unfold Addr.add; split <;> simp_all
  simp [Builtin.append_, run_underlying ht, sizeOf, typeInfo, hi, Builtin.lenOf, hroom, hf, ha, hst]
/-- an append onto such a row -/
theorem run_append_q (hT : SliceT P t e size bytes) (he : ∀ x, (enc x).length = size) (h1 : ∀ x, ∀ u ∈ enc x, u.oneCell' = true) (ty : TypeId) (hown : OwnQ enc e size base w v l)
    {v2 : Value} {m : List α} (hsrc : Sl (Pl enc) size w v2 m) (hlen : l.length + m.length ≤ 4611686018427387904) (hby : (l.length + m.length) * bytes ≤ 140737488355328) (hbase : base ≤ w.heap.size) :
    ∃ v' w', (Builtin.append_ #[t, t] ty #[v, v2]).run P w = .ok v' w' ∧ OwnQ enc e size base w' v' (l ++ m) ∧ w.grownBy w' v.ownBlock ∧ (v'.ownBlock = v.ownBlock ∨ v'.ownBlock = some w.heap.size) := by
  rcases hown with ⟨rfl, rfl⟩ | ⟨g, d, cap, cur, rfl, hb, hg, hn, hm, hs, ht⟩
  · obtain ⟨v', w', h2, h3, h4, h5, -⟩ := run_append_flat (P := P) hT he h1 ty (Own.nil enc e size base w) hsrc (by simpa using hlen) (by simpa using hby) hbase
    exact ⟨v', w', h2, h3.q, h4, h5⟩
  · have hown : OwnQ enc e size base w (.slice (some ⟨g, d * size, none⟩) l.length cap) l := .inr ⟨g, d, cap, cur, rfl, hb, hg, hn, hm, hs, ht⟩
    obtain ⟨i, z, hi, hz, hsi, hbi, hzs⟩ := hT.info
    obtain ⟨A, c, rfl, hc1, hc2⟩ := hsrc.form
    have hx1 : ∀ u ∈ flat enc m, u.oneCell' = true := by
      intro u hu
      obtain ⟨x, _, hxu⟩ := List.mem_flatMap.1 hu
      exact h1 x u hxu
    rcases A with _ | ⟨b, o, sp⟩
    · have hm0 : m = [] := by
        cases m with
        | nil => rfl
        | cons x m =>
          obtain ⟨_, _, _, hA, _⟩ := hsrc.at_ (k := 0) (by simp)
          cases hA
      subst hm0
      have hr : (Builtin.append_ #[t, t] ty #[.slice (some ⟨g, d * size, none⟩) l.length cap, .slice none 0 c]).run P w = .ok (.slice (some ⟨g, d * size, none⟩) l.length cap) w := by
        simp [Builtin.append_, run_underlying hT.ht, sizeOf, typeInfo, hi, Builtin.lenOf, Builtin.firstCells, hn, storeCells]
      exact ⟨_, w, hr, by simpa using hown, World.grownBy.refl w _, .inl rfl⟩
    · have hnews := hsrc.flat_cells he hT.pos
      have hfl := flat_length he m
      have hll := flat_length he l
      have hcl : (flat enc (l ++ m)).length = (l.length + m.length) * size := by rw [flat_length he, List.length_append]
      by_cases hroom : l.length + m.length ≤ cap
      · have hfit : d * size + l.length * size + (flat enc m).length ≤ cur.size := by
          refine Nat.le_trans ?_ hs
          rw [hfl, ← Nat.add_mul, ← Nat.add_mul]
          exact Nat.mul_le_mul_right _ (by omega)
        have hr := run_append_room_at (P := P) (w := w) t ty e i hT.ht hi g (d * size) l.length cap cur hg ⟨b, o, sp⟩ m.length c (flat enc m) (by rw [hsi]; exact hfl) hnews hx1 hroom (by rw [hsi]; exact hfit)
        rw [hsi] at hr
        refine ⟨_, _, hr, .inr ⟨g, d, cap, _, by rw [List.length_append], hb, setRow_heap w g cur _ e _ hg, by rw [List.length_append]; exact hroom, hm, ?_, ?_⟩, ⟨rfl, rfl, rfl, by simp, fun k _ hk => setRow_other w g k _ (fun e => hk (by simp [Value.ownBlock, e]))⟩, .inl rfl⟩
        · simp only [List.size_toArray, List.length_append, List.length_take, List.length_drop, Array.length_toList]
          omega
        · have h2 : (cur.toList.take (d * size + l.length * size)).length = d * size + l.length * size := by rw [List.length_take, Array.length_toList]; exact Nat.min_eq_left (Nat.le_trans (Nat.le_add_right _ _) hfit)
          rw [List.length_append, Nat.add_mul]
          simp only [List.append_assoc]
          rw [List.drop_append_of_le_length (by rw [h2]; omega), List.drop_take, Nat.add_sub_cancel_left, ht, flat_append]
          rw [show l.length * size + m.length * size = (flat enc l).length + m.length * size by rw [hll], List.take_length_add_append, List.take_left' hfl]
      · have holds : ∀ j u, (flat enc l)[j]? = some u → w.cell? ((⟨g, d * size, none⟩ : Addr).add j) = some u := (hown.sl he).flat_cells he hT.pos
        have hr := run_append_grow (P := P) w t ty e i z hT.ht hi hz ⟨g, d * size, none⟩ l.length cap (flat enc l) (by rw [hsi]; exact hll) holds ⟨b, o, sp⟩ m.length c (flat enc m) (by rw [hsi]; exact hfl) hnews (by omega) (by omega) (growslice_fits (by omega) (by rw [hbi]; exact hby))
        have hge := grownCap_ge w (l.length + m.length) cap e
        have hcm : grownCap w (l.length + m.length) cap e ≤ maxLen := grownCap_le_maxLen w (l.length + m.length) cap e (by unfold maxLen; omega)
        refine ⟨_, _, hr, .inr ⟨w.heap.size, 0, _, _, by rw [Nat.zero_mul, List.length_append], hbase, heap_alloc_new w.drew _, by rw [List.length_append]; exact hge, by unfold maxLen at hcm; exact hcm, ?_, ?_⟩, ⟨rfl, rfl, rfl, by simp, fun k hk _ => heap_alloc_old w.drew _ hk⟩, .inr rfl⟩
        · simp only [Array.size_append, List.size_toArray, size_zeroCells, hzs, hfl, hll, ← Nat.add_mul]
          rw [Nat.zero_add]
          exact Nat.mul_le_mul_right _ (by omega)
        · rw [Nat.zero_mul, List.drop_zero, List.length_append]
          simp only [Array.toList_append, List.append_assoc]
          rw [← List.append_assoc, ← flat_append]
          exact List.take_left' hcl
/-- .. at the operation -/
theorem wpl_append_q {ops : Array Oper} {rest : List Oper} {o : Oper} {a : Act} {Q : Exit → Act → World → Prop} (hgd : o.guard = none) (s x : Operand)
    (ho : o.op = .call { callee := .builtin .append, args := #[s, x], argTypes := #[t, t] }) (hT : SliceT P t e size bytes) (he : ∀ x, (enc x).length = size) (h1 : ∀ x, ∀ u ∈ enc x, u.oneCell' = true)
    (hs : a.eval s = v) (hown : OwnQ enc e size base w v l)
    {v2 : Value} {m : List α} (hx : a.eval x = v2) (hsrc : Sl (Pl enc) size w v2 m) (hlen : l.length + m.length ≤ 4611686018427387904) (hby : (l.length + m.length) * bytes ≤ 140737488355328) (hbase : base ≤ w.heap.size)
    (h : ∀ v' w', OwnQ enc e size base w' v' (l ++ m) → w.grownBy w' v.ownBlock → (v'.ownBlock = v.ownBlock ∨ v'.ownBlock = some w.heap.size) → wpList P ops Q rest (a.put o.dst v') w') : wpList P ops Q (o :: rest) a w := by
  refine wpList_plain hgd fun K hK => ?_
  obtain ⟨v', w', hr, h2, h3, h4⟩ := run_append_q hT he h1 o.type hown hsrc hlen hby hbase
  unfold Oper.wp execOp
  simp only [ho, resolve, invoke, builtin, Sem.run_bind, Sem.run_pure, Result.andThen_ok, List.map_toArray, List.map_cons, List.map_nil, hs, hx, hr]
  exact hK _ _ (h v' w' h2 h3 h4)
end
/-- a queue of the call's own whose elements lead to blocks of S, others than the queue's -/
structure NQ {α : Type} (R : Rd α) (e size : Nat) (S : Nat → Prop) (w : World) (v : Value) (css : List (Elm size)) (xs : List α) : Prop where
  own : OwnQ encC e size 0 w v css
  len : css.length = xs.length
  blk : ∀ q, v.ownBlock = some q → S q
  els : ∀ k (h1 : k < css.length) (h2 : k < xs.length), ∃ T : Nat → Prop, (∀ i, T i → S i ∧ v.ownBlock ≠ some i ∧ i < w.heap.size) ∧ OwS T w fun w' => R w' css[k].val xs[k]
section
variable {α : Type} {R : Rd α} {e size : Nat} {S S' : Nat → Prop} {w w' : World} {v v' : Value} {css : List (Elm size)} {xs : List α}
theorem NL.q (h : NL R e size S w v css xs) : NQ R e size S w v css xs := ⟨h.own.q, h.len, h.blk, h.els⟩
theorem NQ.step (h : NQ R e size S w v css xs) (h1 : w.heap.size ≤ w'.heap.size) (h2 : ∀ k, S k → k < w.heap.size → w'.heap[k]? = w.heap[k]?) : NQ R e size S w' v css xs := by
  refine ⟨h.own.owS w' h1 fun k hk hlt => h2 k (h.blk k hk) hlt, h.len, h.blk, fun k hk1 hk2 => ?_⟩
  obtain ⟨T, hT, ho⟩ := h.els k hk1 hk2
  exact ⟨T, fun i hi => ⟨(hT i hi).1, (hT i hi).2.1, Nat.lt_of_lt_of_le (hT i hi).2.2 h1⟩, ho.step h1 fun i hi hlt => h2 i (hT i hi).1 hlt⟩
theorem NQ.kp (h : NQ R e size S w v css xs) (hk : Kp w w') : NQ R e size S w' v css xs := h.step hk.size fun _ _ hlt => hk.block hlt
theorem NQ.kg {g : Nat} (h : NQ R e size S w v css xs) (hk : Kg w w' g) (hg : ¬ S g) : NQ R e size S w' v css xs :=
  h.step hk.size fun k hs hlt => hk.block k hlt (fun e => hg (by injection e with e; exact e ▸ hs))
theorem NQ.mono (h : NQ R e size S w v css xs) (hs : ∀ k, S k → S' k) : NQ R e size S' w v css xs :=
  ⟨h.own, h.len, fun q hq => hs q (h.blk q hq), fun k h1 h2 => by
    obtain ⟨T, hT, ho⟩ := h.els k h1 h2
    exact ⟨T, fun i hi => ⟨hs i (hT i hi).1, (hT i hi).2⟩, ho⟩⟩
theorem NQ.sl (h : NQ R e size S w v css xs) : Sl R size w v xs := sl_of (h.own.sl encC_len) h.len fun k h1 h2 => by
  obtain ⟨T, hT, ho⟩ := h.els k h1 h2
  exact ho.here
theorem NQ.form (h : NQ R e size S w v css xs) : ∃ A c, v = .slice A xs.length c ∧ xs.length ≤ c ∧ c ≤ 9223372036854775807 := h.sl.form
/-- an append of one element: w is the world in which it runs -/
theorem NQ.snoc (h : NQ R e size S w v css xs) {c : Elm size} {x : α} (own' : OwnQ encC e size 0 w' v' (css ++ [c])) (hg : w.grownBy w' v.ownBlock) (hat : v'.ownBlock = v.ownBlock ∨ v'.ownBlock = some w.heap.size) (T : Nat → Prop)
    (hT : ∀ i, T i → S' i ∧ v.ownBlock ≠ some i ∧ i < w.heap.size) (ho : OwS T w fun w2 => R w2 c.val x) (hS : ∀ i, S i → S' i) (hn : S' w.heap.size) : NQ R e size S' w' v' (css ++ [c]) (xs ++ [x]) := by
  have hlen := h.len
  have hgb : ∀ i, v.ownBlock ≠ some i → i < w.heap.size → w'.heap[i]? = w.heap[i]? := fun i hi hlt => hg.block i hlt (fun e => hi e.symm)
  have hne : ∀ i, v.ownBlock ≠ some i → i < w.heap.size → v'.ownBlock ≠ some i := fun i hi hlt e => by
    rcases hat with h1 | h1
    · exact hi (h1 ▸ e)
    · rw [h1] at e
      injection e with e
      omega
  refine ⟨own', by simp [h.len], fun q hq => ?_, fun k h1 h2 => ?_⟩
  · rcases hat with h1 | h1
    · exact hS q (h.blk q (h1 ▸ hq))
    · rw [h1] at hq
      injection hq with hq
      exact hq ▸ hn
  · by_cases hk : k < css.length
    · rw [List.getElem_append_left hk, List.getElem_append_left (by omega)]
      obtain ⟨T', hT', ho'⟩ := h.els k hk (by omega)
      exact ⟨T', fun i hi => ⟨hS i (hT' i hi).1, hne i (hT' i hi).2.1 (hT' i hi).2.2, Nat.lt_of_lt_of_le (hT' i hi).2.2 hg.size⟩, ho'.step hg.size fun i hi hlt => hgb i (hT' i hi).2.1 hlt⟩
    · have e1 : k = css.length := by simp at h1; omega
      subst e1
      have e2 : (css ++ [c])[css.length] = c := by simp
      have e3 : (xs ++ [x])[css.length]'h2 = x := by simp [hlen]
      rw [e2, e3]
      exact ⟨T, fun i hi => ⟨(hT i hi).1, hne i (hT i hi).2.1 (hT i hi).2.2, Nat.lt_of_lt_of_le (hT i hi).2.2 hg.size⟩, ho.step hg.size fun i hi hlt => hgb i (hT i hi).2.1 hlt⟩
theorem tail_blk (A : Option Addr) (n c k : Nat) : (Value.slice (if c = 1 then A else A.map (·.add k)) (n - 1) (c - 1)).ownBlock = (Value.slice A n c).ownBlock := by
  cases A with
  | none => split <;> rfl
  | some a =>
    split
    · rfl
    · simp only [Option.map_some, Value.ownBlock]
      unfold Addr.add
      split <;> rfl
/-- the head is cut off -/
theorem NQ.tail {A : Option Addr} {n c : Nat} {c0 : Elm size} {x : α} (h : NQ R e size S w (.slice A n c) (c0 :: css) (x :: xs)) : NQ R e size S w (.slice (if c = 1 then A else A.map (·.add (1 * size))) (n - 1) (c - 1)) css xs := by
  refine ⟨h.own.tail encC_len, by have := h.len; simpa using this, fun q hq => h.blk q (by rw [tail_blk] at hq; exact hq), fun k h1 h2 => ?_⟩
  obtain ⟨T, hT, ho⟩ := h.els (k + 1) (by simpa using h1) (by simpa using h2)
  exact ⟨T, fun i hi => ⟨(hT i hi).1, by rw [tail_blk]; exact (hT i hi).2.1, (hT i hi).2.2⟩, by simpa using ho⟩
end
end Go.Proofs.Ytlkabhjkncklnaa
