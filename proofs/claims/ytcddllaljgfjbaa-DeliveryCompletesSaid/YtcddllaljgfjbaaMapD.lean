
/-
Maps as lists of entries: what a deletion does, alone and while a range runs; the words for ranges. Nothing here speaks of the program.
-/
import Derived.Test.YtcddllaljgfjbaaMapA
import Derived.Maps.RangeWalk
namespace Go.Proofs.Ytcddllaljgfjbaa
set_option linter.unusedSimpArgs false
set_option linter.unusedVariables false
open Go.RowKit

section
set_option linter.unusedSectionVars false
variable {κ : Type} [DecidableEq κ]
def delL (x : κ) (l : List (κ × Value)) : List (κ × Value) := l.filter fun p => !decide (p.1 = x)
theorem getL_del (x y : κ) : ∀ l : List (κ × Value), getL y (delL x l) = if y = x then none else getL y l
  | [] => by unfold delL getL; simp
  | p :: l => by
    have ih := getL_del x y l
    unfold delL at ih ⊢
    by_cases h : p.1 = x
    · rw [List.filter_cons_of_neg (by simp [h]), ih]
      by_cases h2 : y = x
      · rw [if_pos h2, if_pos h2]
      · rw [if_neg h2, if_neg h2, getL, if_neg (fun e => h2 (e.trans h))]
    · rw [List.filter_cons_of_pos (by simp [h]), getL, ih]
      by_cases h2 : y = p.1
      · rw [if_pos h2, if_neg (fun e => h (h2.symm.trans e)), getL, if_pos h2]
      · rw [if_neg h2, getL, if_neg h2]
variable {encK : κ → Value} {w w' : World} {mb it : Nat} {l left : List (κ × Value)} {kt mt et : TypeId}
theorem MapZ.sub {es es' : Array MapEntry} {clock : Nat} {zs zs' : List (MapEntry × κ × Value)} (h : MapZ encK es clock zs) (hs : zs'.Sublist zs) (he : zs'.map (·.1) = es'.toList) : MapZ encK es' clock zs' :=
  ⟨he, fun z hz => h.kv z (hs.subset hz), fun z hz => h.old z (hs.subset hz), h.nod.sublist (hs.map _), h.key.sublist (hs.map _)⟩
theorem map_eraseIdx' {α β : Type} (f : α → β) : ∀ (l : List α) (i : Nat), (l.map f).eraseIdx i = (l.eraseIdx i).map f
  | [], i => by simp
  | x :: l, 0 => by simp
  | x :: l, i + 1 => by simp [map_eraseIdx' f l i]
theorem filter_eraseIdx {α : Type} (f : α → κ) (x : κ) : ∀ (l : List α) (i : Nat) (hi : i < l.length), (l.map f).Nodup → f l[i] = x → l.filter (fun z => !decide (f z = x)) = l.eraseIdx i
  | [], i, hi, _, _ => absurd hi (by simp)
  | y :: l, 0, _, hn, h => by
    rw [List.map_cons, List.nodup_cons] at hn
    have h' : f y = x := h
    rw [List.filter_cons_of_neg (by simp [h']), List.eraseIdx_cons_zero]
    refine List.filter_eq_self.2 fun z hz => ?_
    have : f z ≠ x := fun e => hn.1 (by rw [h', ← e]; exact List.mem_map.2 ⟨z, hz, rfl⟩)
    simpa using this
  | y :: l, i + 1, hi, hn, h => by
    rw [List.map_cons, List.nodup_cons] at hn
    have hi' : i < l.length := by simpa using hi
    have h' : f l[i] = x := by simpa using h
    have hy : f y ≠ x := fun e => hn.1 (by rw [e, ← h']; exact List.mem_map.2 ⟨_, List.getElem_mem hi', rfl⟩)
    rw [List.filter_cons_of_pos (by simpa using hy), List.eraseIdx_cons_succ, filter_eraseIdx f x l i hi' hn.2 h']
theorem MapZ.del {es : Array MapEntry} {clock : Nat} {zs : List (MapEntry × κ × Value)} (hb : w.heap[mb]? = some (.map es clock)) (h : MapZ encK es clock zs) (K : KeyT encK kt) (ht : Try.prog.underlying mt = some (.map kt et)) (x : κ) (ty : TypeId) :
    ∃ es', Sem.run Try.prog (Builtin.delete_ #[mt, kt] ty #[.map (some mb), encK x]) w = .ok (.tuple #[]) (putO w mb (.map es' clock)) ∧ MapZ encK es' clock (zs.filter fun z => !decide (z.2.1 = x)) := by
  have hf := K.find x w zs h.kv
  rw [h.ent] at hf
  cases hq : findL x (zs.map (·.2)) 0 with
  | none =>
    obtain ⟨h2, -⟩ := findL_none hq
    rw [hq] at hf
    have hz : (zs.filter fun z => !decide (z.2.1 = x)) = zs := List.filter_eq_self.2 fun z hz => by
      have := h2 z.2 (List.mem_map.2 ⟨z, hz, rfl⟩)
      simpa using this
    refine ⟨es, ?_, by rw [hz]; exact h⟩
    simp [Builtin.delete_, run_underlying ht, getMap hb, K.ck, hf, setMap _ hb, Result.andThen]
  | some q =>
    obtain ⟨i, v0⟩ := q
    obtain ⟨k, hk, hkl, h2, -⟩ := findL_some hq
    rw [Nat.zero_add] at hk
    subst hk
    rw [hq] at hf
    have hkz : i < zs.length := by simpa using hkl
    have hz2 : zs[i].2 = (x, v0) := by simpa using h2
    have hlen : zs.length = es.size := by have := congrArg List.length h.ent; simpa using this
    have hie : i < es.size := by omega
    have hfe : (zs.filter fun z => !decide (z.2.1 = x)) = zs.eraseIdx i := filter_eraseIdx (fun z => z.2.1) x zs i hkz h.key (by rw [hz2])
    refine ⟨es.eraseIdxIfInBounds i, ?_, ?_⟩
    · simp [Builtin.delete_, run_underlying ht, getMap hb, K.ck, hf, setMap _ hb, Result.andThen]
    · rw [hfe]
      refine h.sub (List.eraseIdx_sublist _ _) ?_
      rw [← map_eraseIdx', h.ent]
      unfold Array.eraseIdxIfInBounds
      rw [dif_pos hie]
      simp
theorem MapL.del (h : MapL encK w mb l) (K : KeyT encK kt) (ht : Try.prog.underlying mt = some (.map kt et)) (x : κ) (ty : TypeId) :
    ∃ w', Sem.run Try.prog (Builtin.delete_ #[mt, kt] ty #[.map (some mb), encK x]) w = .ok (.tuple #[]) w' ∧ MapL encK w' mb (delL x l) ∧ Kg w w' mb ∧ w'.heap.size = w.heap.size := by
  have hmb := h.lt
  obtain ⟨es, clock, zs, hb, h1, rfl⟩ := h
  obtain ⟨es', hrun, h2⟩ := h1.del hb K ht x ty
  refine ⟨_, hrun, ⟨es', clock, _, putO_get _ _ _ hmb, h2, ?_⟩, putO_kg _ _ _, by simp [putO]⟩
  unfold delL
  rw [List.filter_map]
  rfl
theorem Rng.del (h : Rng encK w mb it l left) (K : KeyT encK kt) (ht : Try.prog.underlying mt = some (.map kt et)) (x : κ) (ty : TypeId) :
    ∃ w', Sem.run Try.prog (Builtin.delete_ #[mt, kt] ty #[.map (some mb), encK x]) w = .ok (.tuple #[]) w' ∧ Rng encK w' mb it (delL x l) (delL x left) ∧ Kg w w' mb ∧ w'.heap.size = w.heap.size := by
  have hmb := h.map.lt
  have hne := h.ne
  obtain ⟨es, clock, zs, since, seen, c0, hb, h1, rfl, hr, hold, hsc, hcl, rfl⟩ := h
  obtain ⟨es', hrun, h2⟩ := h1.del hb K ht x ty
  refine ⟨_, hrun, ⟨es', clock, _, since, seen, c0, putO_get _ _ _ hmb, h2, ?_, ?_, fun z hz => hold z (List.mem_filter.1 hz).1, hsc, hcl, ?_⟩, putO_kg _ _ _, by simp [putO]⟩
  · unfold delL
    rw [List.filter_map]
    rfl
  · rw [← hr]
    simp [putO, Array.getElem?_setIfInBounds, Ne.symm hne]
  · unfold delL
    rw [List.filter_map, List.filter_filter, List.filter_filter]
    have e : ∀ y : MapEntry × κ × Value, ((!decide (y.2.1 = x)) && !seen.contains y.1.born) = (!seen.contains y.1.born && !decide (y.2.1 = x)) := fun y => Bool.and_comm _ _
    exact congrArg (List.map fun z : MapEntry × κ × Value => z.2) (List.filter_congr fun y _ => e y)
variable {ops : Array Oper} {rest : List Oper} {o : Oper} {a : Act} {Q : Exit → Act → World → Prop}
theorem wp_mapdel {K : Act → World → Prop} (m x : Operand) (t k : TypeId) (ho : o.op = Op.call { callee := Callee.builtin Builtin.delete, args := #[m, x], argTypes := #[t, k] }) {vm vk : Value} (hm : a.eval m = vm) (hx : a.eval x = vk)
    (hrun : Sem.run Try.prog (Builtin.delete_ #[t, k] o.type #[vm, vk]) w = .ok (.tuple #[]) w') (h : K (a.put o.dst (.tuple #[])) w') : Oper.wp Try.prog o a w K Q := by
  unfold Oper.wp execOp
  simp only [ho, resolve, invoke, builtin, Sem.run_bind, Sem.run_pure, Result.andThen_ok, List.map_toArray, List.map_cons, List.map_nil, hm, hx, hrun]
  exact h
theorem wpl_mapdel (hgd : o.guard = none) (m x : Operand) (t k : TypeId) (ho : o.op = Op.call { callee := Callee.builtin Builtin.delete, args := #[m, x], argTypes := #[t, k] }) {vm vk : Value} (hm : a.eval m = vm) (hx : a.eval x = vk)
    (hrun : Sem.run Try.prog (Builtin.delete_ #[t, k] o.type #[vm, vk]) w = .ok (.tuple #[]) w') (h : wpList Try.prog ops Q rest (a.put o.dst (.tuple #[])) w') : wpList Try.prog ops Q (o :: rest) a w := by
  refine wpList_plain hgd fun K hK => ?_
  unfold Oper.wp execOp
  simp only [ho, resolve, invoke, builtin, Sem.run_bind, Sem.run_pure, Result.andThen_ok, List.map_toArray, List.map_cons, List.map_nil, hm, hx, hrun]
  exact hK _ _ h
theorem wpl_mapdel0 (hgd : o.guard = none) (hd : o.dst = none) (m x : Operand) (t k : TypeId) (ho : o.op = Op.call { callee := Callee.builtin Builtin.delete, args := #[m, x], argTypes := #[t, k] }) {vm vk : Value} (hm : a.eval m = vm) (hx : a.eval x = vk)
    (hrun : Sem.run Try.prog (Builtin.delete_ #[t, k] o.type #[vm, vk]) w = .ok (.tuple #[]) w') (h : wpList Try.prog ops Q rest a w') : wpList Try.prog ops Q (o :: rest) a w := by
  refine wpl_mapdel hgd m x t k ho hm hx hrun ?_
  rw [hd]
  exact h
end
/-- how many entries are left -/
def leftN (w : World) (b r : Nat) : Nat :=
  match w.heap[b]?, w.heap[r]? with
  | some (.map es _), some (.mapIter _ _ seen _) => (leftOf es seen).size
  | _, _ => 0
section
set_option linter.unusedSectionVars false
variable {κ : Type} [DecidableEq κ] {encK : κ → Value} {w : World} {mb it : Nat} {l left : List (κ × Value)} {kt mt et : TypeId} {ops : Array Oper} {rest : List Oper} {o : Oper} {a : Act} {Q : Exit → Act → World → Prop}
theorem Rng.leftN (h : Rng encK w mb it l left) : leftN w mb it = left.length := by
  obtain ⟨es, clock, zs, since, seen, c0, hb, h1, rfl, hr, hold, hsc, hcl, rfl⟩ := h
  unfold Proofs.Ytcddllaljgfjbaa.leftN
  rw [hb, hr]
  dsimp only
  have hleft : (leftOf es seen).toList = (zs.filter fun z => !seen.contains z.1.born).map (·.1) := by
    unfold leftOf
    rw [Array.toList_filter, ← h1.ent, List.filter_map]
    rfl
  have h2 := congrArg List.length hleft
  rw [Array.length_toList] at h2
  rw [h2]
  simp
theorem wpl_range (hgd : o.guard = none) (t : TypeId) (m : Operand) (ho : o.op = Op.range t m) (hm : a.eval m = .map (some mb)) (h : MapL encK w mb l) (ht : Try.prog.underlying t = some (.map kt et))
    (hk : ∀ ob, Rng encK (w.alloc ob) mb w.heap.size l l → wpList Try.prog ops Q rest (a.put o.dst (.pointer (some ⟨w.heap.size, 0, none⟩))) (w.alloc ob)) : wpList Try.prog ops Q (o :: rest) a w := by
  refine wpList_plain hgd fun K hK => ?_
  obtain ⟨ob, hrun, hr⟩ := h.range ht
  unfold Oper.wp
  simp [execOp, ho, hm, hrun, Result.andThen]
  exact hK _ _ (hk ob hr)
theorem wpl_next (hgd : o.guard = none) (i : Operand) (ho : o.op = Op.next i false) (hi : a.eval i = .pointer (some ⟨it, 0, none⟩)) (h : Rng encK w mb it l left)
    (h0 : left = [] → wpList Try.prog ops Q rest (a.put o.dst (.tuple #[.bool false])) w)
    (hk : ∀ k v left' w', left.Perm ((k, v) :: left') → (k, v) ∈ l → Rng encK w' mb it l left' → Kg w w' it → w'.heap.size = w.heap.size → Sem.run Try.prog (Instr.entry (.pointer (some ⟨it, 0, none⟩))) w' = .ok (.tuple #[encK k, v]) w' → wpList Try.prog ops Q rest (a.put o.dst (.tuple #[.bool true, encK k, v])) w') : wpList Try.prog ops Q (o :: rest) a w := by
  refine wpList_plain hgd fun K hK => ?_
  unfold Oper.wp
  rcases h.next o.type with ⟨h1, hrun⟩ | ⟨k, v, left', w', h1, h2, hrun, h3, h4, h5, h6⟩
  · simp [execOp, ho, hi, hrun, Result.andThen]
    exact hK _ _ (h0 h1)
  · simp [execOp, ho, hi, hrun, Result.andThen]
    exact hK _ _ (hk k v left' w' h1 h2 h3 h4 h5 h6)
end
end Go.Proofs.Ytcddllaljgfjbaa
