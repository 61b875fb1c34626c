
/-
How lists of bytes open.
-/
import Derived.Test.YtbcekihjcgnhkaaOpen
import Derived.Test.YtbcekihjcgnhkaaBkFw
import Derived.Lib.SmallJoins
namespace Go.Proofs.Ytbcekihjcgnhkaa
set_option linter.unusedSimpArgs false
set_option linter.unusedVariables false
open Go.ChangeShapes Go.WideShapes Go.ChangeAt Go.RowKit

theorem u8_wfF {x : Int} (h : (Lit.int .u8 x).wf = true) : 0 ≤ x ∧ x < 256 := by
  have h1 : (decide (IntKind.u8.min ≤ x) && decide (x ≤ IntKind.u8.max)) = true := h
  rw [show IntKind.u8.min = 0 by decide, show IntKind.u8.max = 255 by decide] at h1
  simp only [Bool.and_eq_true, decide_eq_true_eq] at h1
  omega
section
variable {H : Type} {enc : TypeId × Value → H} {w : World} {base : Nat} {spare : Nat → Bool} {held : Bool}
def PlF (_ : World) (cs : List Value) (x : Int) : Prop := cs = encU8f x ∧ 0 ≤ x ∧ x < 256
theorem opU8f (n : Nat) (cs : List Value) (y : DataW H × List MemPlace) (h : DataW.trod enc Try.prog w base spare held n 5 cs = some y) : ∃ x : Int, PlF w cs x := by
  obtain ⟨x, rfl, -, hw⟩ := DataW.trod_int Try.underlying5 h
  exact ⟨x, rfl, (u8_wfF hw).1, (u8_wfF hw).2⟩
theorem slF {v : Value} {l : List Int} (h : Sl PlF 1 w v l) : U8s w v l ∧ ∀ x ∈ l, 0 ≤ x ∧ x < 256 := by
  refine ⟨by simpa using h.imp (S := Pl encU8f) id (fun cs x hx => hx.1), fun x hx => ?_⟩
  obtain ⟨k, hk, rfl⟩ := List.getElem_of_mem hx
  obtain ⟨A, c, rfl, h1, h2, h3⟩ := h
  obtain ⟨b, o, cs, -, -, -, -, hr⟩ := h3 k hk
  exact ⟨hr.2.1, hr.2.2⟩
theorem opU8fs {v : Value} {n : Nat} {y : DataW H × List MemPlace} (h : DataW.trod enc Try.prog w base spare held n 30 [v] = some y) : ∃ l, U8s w v l ∧ ∀ x ∈ l, 0 ≤ x ∧ x < 256 := by
  obtain ⟨l, hl⟩ := opS (R := PlF) (size := 1) Try.underlying30 (by kernel_rfl) (by omega) opU8f h
  exact ⟨l, slF hl⟩
end
end Go.Proofs.Ytbcekihjcgnhkaa
