
/-
How slices of small numbers open.
-/
import Derived.Test.YtcddllaljgfjbaaCsO
import Derived.Test.YtcddllaljgfjbaaSK
namespace Go.Proofs.Ytcddllaljgfjbaa
set_option linter.unusedSimpArgs false
set_option linter.unusedVariables false
open Go.ChangeShapes Go.WideShapes Go.ChangeAt Go.RowKit

theorem u8_rng {x : Int} (h : (Lit.int .u8 x).wf = true) : 0 ≤ x ∧ x ≤ 255 := by
  simp only [Lit.wf, Bool.and_eq_true, decide_eq_true_eq] at h
  have h1 : IntKind.u8.min = 0 := by kernel_rfl
  have h2 : IntKind.u8.max = 255 := by kernel_rfl
  rw [h1, h2] at h
  exact h
section
variable {H : Type} {enc : TypeId × Value → H} {w : World} {base : Nat} {spare : Nat → Bool} {held : Bool}
theorem opU8s {v : Value} {n : Nat} {y : DataW H × List MemPlace} (h : DataW.trod enc Try.prog w base spare held n 71 [v] = some y) : ∃ l, U8s w v l :=
  opS Try.underlying71 (by kernel_rfl) (by omega) (fun n cs y h => by
    obtain ⟨x, rfl, -, hw⟩ := DataW.trod_int Try.underlying5 h
    exact ⟨x, rfl, (u8_rng hw).1, (u8_rng hw).2⟩) h
end
end Go.Proofs.Ytcddllaljgfjbaa
