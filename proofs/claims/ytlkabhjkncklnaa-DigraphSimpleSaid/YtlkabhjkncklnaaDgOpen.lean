
/-
How lists of truth values open.
-/
import Derived.Test.YtlkabhjkncklnaaOpen
import Derived.Test.YtlkabhjkncklnaaDgAw
import Derived.Lib.SmallJoins
namespace Go.Proofs.Ytlkabhjkncklnaa
set_option linter.unusedSimpArgs false
set_option linter.unusedVariables false
open Go.ChangeShapes Go.WideShapes Go.ChangeAt Go.RowKit

section
variable {H : Type} {enc : TypeId × Value → H} {w : World} {base : Nat} {spare : Nat → Bool} {held : Bool}
theorem opBools {v : Value} {n : Nat} {y : DataW H × List MemPlace} (h : DataW.trod enc Try.prog w base spare held n 22 [v] = some y) : ∃ l, Bools w v l :=
  opS Try.underlying22 (by kernel_rfl) (by omega) (opBool Try.underlying4) h
end
end Go.Proofs.Ytlkabhjkncklnaa
