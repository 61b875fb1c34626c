
/-
Appending to an empty row: a new one is made, nothing old changes. Nothing here speaks of the program.
-/
import Derived.Test.YtcddllaljgfjbaaSlc
import Derived.ArgAppend
namespace Go.Proofs.Ytcddllaljgfjbaa
set_option linter.unusedSimpArgs false
set_option linter.unusedVariables false
open Go.RowKit

section
variable {P : Program} {α : Type} {enc : α → List Value} {t e size bytes base : Nat} {w : World}
theorem run_append_zero (hT : SliceT P t e size bytes) (he : ∀ x, (enc x).length = size) (h1 : ∀ x, ∀ u ∈ enc x, u.oneCell' = true) (ty : TypeId) {g : Nat} (hown : Own enc e size base w (.slice (some ⟨g, 0, none⟩) 0 0) [])
    {v2 : Value} {m : List α} (hsrc : Sl (Pl enc) size w v2 m) (hlen : m.length ≤ 1000000000) (hby : m.length * bytes ≤ 140737488355328) (hbase : base ≤ w.heap.size) :
    ∃ v' w', (Builtin.append_ #[t, t] ty #[.slice (some ⟨g, 0, none⟩) 0 0, v2]).run P w = .ok v' w' ∧ Own enc e size base w' v' m ∧ Kp w w' := by
  obtain ⟨i, z, hi, hz, hs, hb, hzs⟩ := hT.info
  obtain ⟨A, c, rfl, hc1, hc2⟩ := hsrc.form
  have hx1 : ∀ u ∈ flat enc m, u.oneCell' = true := by
    intro u hu
    obtain ⟨x, _, hxu⟩ := List.mem_flatMap.1 hu
    exact h1 x u hxu
  cases m with
  | nil =>
    refine ⟨.slice (some ⟨g, 0, none⟩) 0 0, w, ?_, hown, Kp.refl w⟩
    cases A with
    | none => simp [Builtin.append_, run_underlying hT.ht, sizeOf, typeInfo, hi, Builtin.lenOf, Builtin.firstCells, storeCells]
    | some ad => simp [Builtin.append_, run_underlying hT.ht, sizeOf, typeInfo, hi, Builtin.lenOf, Builtin.firstCells, storeCells, loadCells, loadCellsFrom]
  | cons x m =>
    cases A with
    | none =>
      obtain ⟨_, _, _, hA, _⟩ := hsrc.at_ (k := 0) (by simp)
      cases hA
    | some ad =>
      obtain ⟨v', w', hrun, r1, r2⟩ := run_append_arg_grows (P := P) w t ty e i z size bytes hT.ht hi hz hs hb hzs hT.pos ⟨g, 0, none⟩ 0 0 [] (by simp) (fun j u h => by simp at h) ad (x :: m).length c (flat enc (x :: m)) (flat_length he _) (hsrc.flat_cells he hT.pos) (by simp) (by unfold maxLen; omega) (by rw [Nat.zero_add]; exact hby)
      refine ⟨v', w', hrun, Own.less ?_ hbase, (Kp.refl w).grown r2 (fun k hk => by cases hk)⟩
      unfold Own
      rw [Nat.zero_add, List.nil_append] at r1
      exact r1
theorem wp_append_zero {o : Oper} {a : Act} {K : Act → World → Prop} {Q : Exit → Act → World → Prop} (s x : Operand)
    (ho : o.op = .call { callee := .builtin .append, args := #[s, x], argTypes := #[t, t] }) (hT : SliceT P t e size bytes) (he : ∀ x, (enc x).length = size) (h1 : ∀ x, ∀ u ∈ enc x, u.oneCell' = true)
    {g : Nat} (hs : a.eval s = .slice (some ⟨g, 0, none⟩) 0 0) (hown : Own enc e size base w (.slice (some ⟨g, 0, none⟩) 0 0) [])
    {v2 : Value} {m : List α} (hx : a.eval x = v2) (hsrc : Sl (Pl enc) size w v2 m) (hlen : m.length ≤ 1000000000) (hby : m.length * bytes ≤ 140737488355328) (hbase : base ≤ w.heap.size)
    (h : ∀ v' w', Own enc e size base w' v' m → Kp w w' → K (a.put o.dst v') w') : Oper.wp P o a w K Q := by
  obtain ⟨v', w', hr, h2, h3⟩ := run_append_zero hT he h1 o.type hown hsrc hlen hby hbase
  unfold Oper.wp execOp
  simp only [ho, resolve, invoke, builtin, Sem.run_bind, Sem.run_pure, Result.andThen_ok, List.map_toArray, List.map_cons, List.map_nil, hs, hx, hr]
  exact h v' w' h2 h3
theorem wpl_append_zero {ops : Array Oper} {rest : List Oper} {o : Oper} {a : Act} {Q : Exit → Act → World → Prop} (hgd : o.guard = none) (s x : Operand)
    (ho : o.op = .call { callee := .builtin .append, args := #[s, x], argTypes := #[t, t] }) (hT : SliceT P t e size bytes) (he : ∀ x, (enc x).length = size) (h1 : ∀ x, ∀ u ∈ enc x, u.oneCell' = true)
    {g : Nat} (hs : a.eval s = .slice (some ⟨g, 0, none⟩) 0 0) (hown : Own enc e size base w (.slice (some ⟨g, 0, none⟩) 0 0) [])
    {v2 : Value} {m : List α} (hx : a.eval x = v2) (hsrc : Sl (Pl enc) size w v2 m) (hlen : m.length ≤ 1000000000) (hby : m.length * bytes ≤ 140737488355328) (hbase : base ≤ w.heap.size)
    (h : ∀ v' w', Own enc e size base w' v' m → Kp w w' → wpList P ops Q rest (a.put o.dst v') w') : wpList P ops Q (o :: rest) a w := by
  refine wpList_plain hgd fun K hK => ?_
  obtain ⟨v', w', hr, h2, h3⟩ := run_append_zero hT he h1 o.type hown hsrc hlen hby hbase
  unfold Oper.wp execOp
  simp only [ho, resolve, invoke, builtin, Sem.run_bind, Sem.run_pure, Result.andThen_ok, List.map_toArray, List.map_cons, List.map_nil, hs, hx, hr]
  exact hK _ _ (h v' w' h2 h3)
end
end Go.Proofs.Ytcddllaljgfjbaa
