
/-
The branches of a system with cases: their solutions are the system's. No program in sight.
-/
import Derived.Test.YtfllmnaillilhaaPlain7
import Derived.Test.YtfllmnaillilhaaSys19
namespace Go.Proofs.Ytfllmnaillilhaa
set_option linter.unusedSimpArgs false
set_option linter.unusedVariables false
open Go.RowKit

/-- the branch for a case -/
def brS (s : Sys) (l : List Row) : Sys := ⟨s.box, s.rows ++ l, s.graphs, []⟩
theorem br_valid {s : Sys} (h : validS s = true) {l : List Row} (hl : l ∈ s.cases) (hn : s.rows.length + l.length ≤ 1024) : validS (brS s l) = true := by
  obtain ⟨p1, p2, ⟨p3, p4⟩, p5, p6, p7, p8⟩ := validS_parts h
  have hf := (validB_ok p4).2.2
  have hg := (validB_ok (p8 l hl).2).2.2
  unfold validS at h ⊢
  unfold brS
  dsimp only
  simp only [Bool.and_eq_true] at h ⊢
  refine ⟨⟨⟨⟨⟨h.1.1.1.1.1, ?_⟩, h.1.1.1.2⟩, by simp⟩, h.1.2⟩, by simp⟩
  unfold rowsOk validB
  rw [Bool.and_eq_true, Bool.and_eq_true]
  refine ⟨decide_eq_true (by simp; omega), p1, ?_⟩
  rw [Bool.not_eq_true', List.any_eq_false]
  intro r hr
  rcases List.mem_append.1 hr with hr | hr
  · rw [hf r hr]; simp
  · rw [hg r hr]; simp
theorem br_holds {s : Sys} (h : validS s = true) {l : List Row} (hl : l ∈ s.cases) (hn : s.rows.length + l.length ≤ 1024) (vs : List Int) (hc : containsB s.box vs = true) :
    holdsS (brS s l) vs = ((!s.rows.any (badR vs) && !s.graphs.any (badG vs)) && goodC vs l) := by
  unfold holdsS
  rw [br_valid h hl hn, show (brS s l).box = s.box from rfl, hc]
  unfold solvesB
  rw [show (brS s l).rows = s.rows ++ l from rfl, show (brS s l).graphs = s.graphs from rfl, show (brS s l).cases = [] from rfl, List.any_append]
  unfold goodC
  cases s.rows.any (badR vs) <;> cases s.graphs.any (badG vs) <;> cases l.any (badR vs) <;> rfl
theorem idxF_map {α β : Type} (p : β → Bool) (f : α → β) : ∀ (l : List α) (i : Nat), idxF p i (l.map f) = idxF (fun x => p (f x)) i l
  | [], _ => rfl
  | x :: l, i => by
    rw [List.map_cons]
    unfold idxF
    rw [idxF_map p f l (i + 1)]
theorem idxF_congr {α : Type} {p q : α → Bool} : ∀ (l : List α) (i : Nat), (∀ x ∈ l, p x = q x) → idxF p i l = idxF q i l
  | [], _, _ => rfl
  | x :: l, i, h => by
    unfold idxF
    rw [h x (by simp), idxF_congr l (i + 1) (fun y hy => h y (by simp [hy]))]
theorem idxF_false {α : Type} : ∀ (l : List α) (i : Nat), idxF (fun _ => false) i l = -1
  | [], _ => rfl
  | x :: l, i => by
    unfold idxF
    rw [if_neg (by simp), idxF_false l (i + 1)]
/-- which branch is the first that has a solution -/
theorem br_first {s : Sys} (h : validS s = true) (hn : ∀ l ∈ s.cases, s.rows.length + l.length ≤ 1024) (vs : List Int) (hc : containsB s.box vs = true) (hne : s.cases ≠ []) :
    (holdsS s vs = decide (0 ≤ idxF (fun x => holdsS x vs) 0 (s.cases.map (brS s)))) ∧ (0 ≤ idxF (fun x => holdsS x vs) 0 (s.cases.map (brS s)) → idxF (fun x => holdsS x vs) 0 (s.cases.map (brS s)) = idxF (goodC vs) 0 s.cases) := by
  have hS : holdsS s vs = ((!s.rows.any (badR vs) && !s.graphs.any (badG vs)) && s.cases.any (goodC vs)) := by
    unfold holdsS solvesB
    rw [h, hc]
    cases hcs : s.cases with
    | nil => exact absurd hcs hne
    | cons c cs => simp
  rw [idxF_map, idxF_congr s.cases 0 (fun l hl => br_holds h hl (hn l hl) vs hc), hS]
  cases hb : (!s.rows.any (badR vs) && !s.graphs.any (badG vs)) with
  | false =>
    have e : (fun x : List Row => false && goodC vs x) = fun _ => false := by funext x; rfl
    rw [e, idxF_false]
    exact ⟨rfl, fun h => by omega⟩
  | true =>
    have e : (fun x : List Row => true && goodC vs x) = goodC vs := by funext x; simp
    rw [e, Bool.true_and, idxF_any]
    exact ⟨rfl, fun _ => rfl⟩
end Go.Proofs.Ytfllmnaillilhaa
