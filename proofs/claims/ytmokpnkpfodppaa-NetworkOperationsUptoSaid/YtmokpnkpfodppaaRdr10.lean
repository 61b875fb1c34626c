
/-
The reader: lists of what is known of convergent cells, of lists.
-/
import Derived.Test.YtmokpnkpfodppaaRdr9
namespace Go.Proofs.Ytmokpnkpfodppaa
set_option linter.unusedSimpArgs false
set_option linter.unusedVariables false
open Go.RowKit

theorem merged_one {w : World} {cs : List Value} {x : Merged} (h : rdMerged w cs x) : cs.length = 3 ∧ ∀ u ∈ cs, u.oneCell' = true := by
  obtain ⟨v, rfl, h1⟩ := h
  obtain ⟨A, c, rfl, -, -⟩ := h1.form
  exact ⟨rfl, by simp [Value.oneCell']⟩
end Go.Proofs.Ytmokpnkpfodppaa
