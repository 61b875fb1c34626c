
/-
How priorities, needs and requests open.
-/
import Derived.Test.YtbcekihjcgnhkaaOpen
import Derived.Test.YtbcekihjcgnhkaaBkN
import Derived.Lib.SmallJoins
namespace Go.Proofs.Ytbcekihjcgnhkaa
set_option linter.unusedSimpArgs false
set_option linter.unusedVariables false
open Go.ChangeShapes Go.WideShapes Go.ChangeAt Go.RowKit

section
variable {H : Type} {enc : TypeId × Value → H} {P : Program} {w : World} {base : Nat} {spare : Nat → Bool} {held : Bool}
theorem opF {t : Nat} {fs : Array Field} (ht : P.underlying t = some (.struct fs)) {n : Nat} {cs : List Value} {y : DataW H × List MemPlace} (h : DataW.trod enc P w base spare held n t cs = some y) :
    cs.length = P.cellsOf t ∧ ∀ (i : Nat) (f : Field) (sz : Nat), fs[i]? = some f → P.cellsOf f.type = sz → ∃ m d p, DataW.trod enc P w base spare held m f.type ((cs.drop f.offset).take sz) = some (d, p) := by
  obtain ⟨xs, m, -, rfl, hlen, hxl, hf⟩ := DataW.trod_struct ht h
  refine ⟨hlen, fun i f sz hi hs => ?_⟩
  have h1 := hf i f hi
  have hil : i < fs.size := (Array.getElem?_eq_some_iff.1 hi).1
  have hil' : i < xs.length := by omega
  rw [hs, List.getElem?_eq_getElem hil'] at h1
  exact ⟨m, (xs[i]).1, (xs[i]).2, h1⟩
theorem opI {t : Nat} {u : Value} (ht : P.underlying t = some (.int .i64)) (h : ∃ m d p, DataW.trod enc P w base spare held m t [u] = some (d, p)) : ∃ x : Int, u = .int .i64 x := by
  obtain ⟨m, d, p, h⟩ := h
  obtain ⟨x, hx, -⟩ := DataW.trod_int ht h
  injection hx with hx
  exact ⟨x, hx⟩
end
section
variable {H : Type} {enc : TypeId × Value → H} {w : World} {base : Nat} {spare : Nat → Bool} {held : Bool}
theorem opPr (n : Nat) (cs : List Value) (y : DataW H × List MemPlace) (h : DataW.trod enc Try.prog w base spare held n 23 cs = some y) : ∃ p : Pr, cs = prL p := by
  obtain ⟨hl, hf⟩ := opF Try.underlying23 h
  rw [show Try.prog.cellsOf 23 = 4 by kernel_rfl] at hl
  match cs, hl with
  | [u0, u1, u2, u3], _ =>
    obtain ⟨a, rfl⟩ := opI Try.underlying3 (u := u0) (hf 0 _ 1 rfl (by kernel_rfl))
    obtain ⟨b, rfl⟩ := opI Try.underlying3 (u := u1) (hf 1 _ 1 rfl (by kernel_rfl))
    obtain ⟨c, rfl⟩ := opI Try.underlying3 (u := u2) (hf 2 _ 1 rfl (by kernel_rfl))
    obtain ⟨d, rfl⟩ := opI Try.underlying3 (u := u3) (hf 3 _ 1 rfl (by kernel_rfl))
    exact ⟨(a, b, c, d), rfl⟩
end
end Go.Proofs.Ytbcekihjcgnhkaa
