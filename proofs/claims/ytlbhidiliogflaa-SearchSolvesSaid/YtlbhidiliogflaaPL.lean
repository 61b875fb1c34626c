/-
Simplifying keeps the solutions; normal rows hold for the same values. No program in sight.
The branches of a system with cases: their solutions are the system's. No program in sight.
-/
import Derived.Test.YtlbhidiliogflaaSH
import Derived.Test.YtlbhidiliogflaaPA
namespace Go.Proofs.Ytlbhidiliogflaa
set_option linter.unusedSimpArgs false
set_option linter.unusedVariables false
open Go.RowKit

end Go.Proofs.Ytlbhidiliogflaa
namespace Go.Proofs.Ytlbhidiliogflaa
set_option linter.unusedSimpArgs false
set_option linter.unusedVariables false
open Go.RowKit

/-- the branch for a case -/
def brS (s : Sys) (l : List Row) : Sys := ⟨s.box, s.rows ++ l, s.graphs, []⟩
theorem br_valid {s : Sys} (h : validS s = true) {l : List Row} (hl : l ∈ s.cases) (hn : s.rows.length + l.length ≤ 1024) : validS (brS s l) = true := by
  obtain ⟨p1, p2, ⟨p3, p4⟩, p5, p6, p7, p8⟩ := validS_parts h
  have hf := (validB_ok p4).2.2
  have hg := (validB_ok (p8 l hl).2).2.2
  unfold validS at h ⊢
  unfold brS
  dsimp only
  simp only [Bool.and_eq_true] at h ⊢
  refine ⟨⟨⟨⟨⟨h.1.1.1.1.1, ?_⟩, h.1.1.1.2⟩, by simp⟩, h.1.2⟩, by simp⟩
  unfold rowsOk validB
  rw [Bool.and_eq_true, Bool.and_eq_true]
  refine ⟨decide_eq_true (by simp; omega), p1, ?_⟩
  rw [Bool.not_eq_true', List.any_eq_false]
  intro r hr
  rcases List.mem_append.1 hr with hr | hr
  · rw [hf r hr]; simp
  · rw [hg r hr]; simp
theorem br_holds {s : Sys} (h : validS s = true) {l : List Row} (hl : l ∈ s.cases) (hn : s.rows.length + l.length ≤ 1024) (vs : List Int) (hc : containsB s.box vs = true) :
    holdsS (brS s l) vs = ((!s.rows.any (badR vs) && !s.graphs.any (badG vs)) && goodC vs l) := by
  unfold holdsS
  rw [br_valid h hl hn, show (brS s l).box = s.box from rfl, hc]
  unfold solvesB
  rw [show (brS s l).rows = s.rows ++ l from rfl, show (brS s l).graphs = s.graphs from rfl, show (brS s l).cases = [] from rfl, List.any_append]
  unfold goodC
  cases s.rows.any (badR vs) <;> cases s.graphs.any (badG vs) <;> cases l.any (badR vs) <;> rfl
end Go.Proofs.Ytlbhidiliogflaa
