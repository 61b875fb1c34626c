
/-
How lists of messages open.
-/
import Derived.Test.YtmokpnkpfodppaaNE
import Derived.Test.YtmokpnkpfodppaaCodOpen
namespace Go.Proofs.Ytmokpnkpfodppaa
set_option linter.unusedSimpArgs false
set_option linter.unusedVariables false
open Go.ChangeShapes Go.WideShapes Go.ChangeAt Go.RowKit

instance : Inhabited Message := ⟨zM⟩
section
variable {H : Type} {enc : TypeId × Value → H} {w : World} {base : Nat} {spare : Nat → Bool} {held : Bool}
theorem opMsgs {v : Value} {n : Nat} {y : DataW H × List MemPlace} (h : DataW.trod enc Try.prog w base spare held n 22 [v] = some y) : ∃ l, Msgs w v l ∧ (numL numMessage l).length ≤ bulk y.1 :=
  opSL (R := rdMsg) numMessage Try.underlying22 (size := 18) (by kernel_rfl) (by omega) opMessage h
end
theorem sum_mem {α : Type} (f : α → Nat) : ∀ (l : List α) (x : α), x ∈ l → f x ≤ (l.map f).sum
  | y :: l, x, h => by
    rw [List.map_cons, List.sum_cons]
    rcases List.mem_cons.1 h with rfl | h
    · omega
    · have := sum_mem f l x h
      omega
theorem numL_mem {α : Type} (f : α → List Int) {l : List α} {x : α} (h : x ∈ l) {n : Nat} (hn : (numL f l).length ≤ n) : (f x).length ≤ n := by
  rw [numL_len] at hn
  have := sum_mem (fun x => (f x).length) l x h
  omega
end Go.Proofs.Ytmokpnkpfodppaa
