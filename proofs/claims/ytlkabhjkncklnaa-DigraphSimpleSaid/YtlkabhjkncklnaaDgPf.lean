
/-
Graphs: what the laws say of paths: plain facts.
-/
import Derived.Test.YtlkabhjkncklnaaDgWk
namespace Go.Proofs.Ytlkabhjkncklnaa
set_option linter.unusedSimpArgs false
set_option linter.unusedVariables false
open Go.RowKit

theorem Wk.walk {n : Nat} {es : List Bool} {a : Nat} {l : List Nat} (h : Wk n es a l) : Walk n es l ∧ l.head? = some a := by
  induction h with
  | one => exact ⟨trivial, rfl⟩
  | snoc hw h1 h2 ih => exact ⟨walk_snoc n es _ _ hw.ne ih.1 h1 h2, by rw [List.head?_append, ih.2]; rfl⟩
theorem path_ok {n : Nat} {es : List Bool} {a b : Nat} (ha : a < n) (h : pathF n es a b ≠ []) : WkOk n es (pathF n es a b) ∧ (pathF n es a b).headD 0 = a ∧ (pathF n es a b).getLastD 0 = b := by
  have hm := path_min ha h
  obtain ⟨p1, p2, p3, -⟩ := path_some ha h
  refine ⟨⟨hm.nodup, hm.1.lt ha, p2⟩, ?_, p3⟩
  cases hp : pathF n es a b with
  | nil => exact absurd hp h
  | cons x l =>
    rw [hp] at p1
    simpa using p1
theorem path_near {n : Nat} {es : List Bool} {a b c : Nat} (ha : a < n) (hc : c < n) (h : pathF n es a b ≠ []) (he : hasE n es b c = true) : (pathF n es a c).length ≤ (pathF n es a b).length + 1 := by
  have hm := path_min ha h
  obtain ⟨-, -, p3, -⟩ := path_some ha h
  have hw : Wk n es a (pathF n es a b ++ [c]) := hm.1.snoc hc (by rw [p3]; exact he)
  by_cases h0 : pathF n es a c = []
  · rw [h0]; simp
  · have hm2 := path_min ha h0
    obtain ⟨-, -, q3, -⟩ := path_some ha h0
    have h1 := hm2.2 _ hw (by rw [last_snoc, q3])
    rcases slt_of_not h1 with h2 | h2
    · rw [h2]; simp
    · have := slt_le h2
      simpa using this
theorem path_reach {n : Nat} {es : List Bool} {a b : Nat} (ha : a < n) : decide (0 < ((pathF n es a b).length : Int)) = (((a : Int) == (b : Int)) || reachesF n es a b) := by
  rw [Bool.eq_iff_iff, decide_eq_true_iff, Bool.or_eq_true, reachesF_iff, beq_iff_eq]
  have h := path_zero (n := n) (es := es) (b := b) ha
  constructor
  · intro h1
    have h2 : ¬ (pathF n es a b).length = 0 := by omega
    have h3 := fun h4 => h2 (h.2 h4)
    have h4 : a = b ∨ Rp n es a b := Classical.byContradiction h3
    rcases h4 with h4 | h4
    · exact .inl (by omega)
    · exact .inr h4
  · intro h1
    have h2 : a = b ∨ Rp n es a b := by
      rcases h1 with h1 | h1
      · exact .inl (by omega)
      · exact .inr h1
    have h3 : ¬ (pathF n es a b).length = 0 := fun h4 => h.1 h4 h2
    omega
theorem edge_reach {n : Nat} {es : List Bool} {a b : Nat} (hb : b < n) (h : hasE n es a b = true) : reachesF n es a b = true := (reachesF_iff n es a b).2 ⟨b, hb, h, .refl⟩
end Go.Proofs.Ytlkabhjkncklnaa
