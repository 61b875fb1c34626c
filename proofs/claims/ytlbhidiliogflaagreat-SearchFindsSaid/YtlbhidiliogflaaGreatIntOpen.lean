
/-
How boxes, rows and terms open.
-/
import Derived.Test.YtlbhidiliogflaaGreatOpen
import Derived.Test.YtlbhidiliogflaaGreatIA
import Derived.Lib.SmallJoins
namespace Go.Proofs.YtlbhidiliogflaaGreat
set_option linter.unusedSimpArgs false
set_option linter.unusedVariables false
open Go.ChangeShapes Go.WideShapes Go.ChangeAt Go.RowKit

instance : Inhabited Rng := ⟨⟨0, 0⟩⟩
instance : Inhabited Term := ⟨⟨0, 0⟩⟩
instance : Inhabited Row := ⟨⟨[], 0⟩⟩
theorem opField_int {P : Program} {H : Type} {enc : TypeId × Value → H} {w : World} {base : Nat} {spare : Nat → Bool} {held : Bool} {t m : Nat} {v : Value} {z : DataW H × List MemPlace} (ht : P.underlying t = some (.int .i64)) (h : DataW.trod enc P w base spare held m t [v] = some z) : ∃ x : Int, v = .int .i64 x := by
  obtain ⟨x, hx, -⟩ := DataW.trod_int ht h
  injection hx with hx
  exact ⟨x, hx⟩
section
variable {H : Type} {enc : TypeId × Value → H} {w : World} {base : Nat} {spare : Nat → Bool} {held : Bool}
theorem two_of {cs : List Value} {a b : Value} (hl : cs.length = 2) (h0 : cs[0]? = some a) (h1 : cs[1]? = some b) : cs = [a, b] := by
  match cs, hl with
  | [x, y], _ => simp at h0 h1; rw [h0, h1]
theorem opRng (n : Nat) (cs : List Value) (y : DataW H × List MemPlace) (h : DataW.trod enc Tryz.prog w base spare held n 57 cs = some y) : ∃ x : Rng, Pl encRng w cs x := by
  obtain ⟨hl, hf⟩ := opFields Tryz.underlying57 (by kernel_rfl) (by kernel_rfl) h
  obtain ⟨v0, m0, z0, c0, t0⟩ := hf 0 _ rfl
  obtain ⟨v1, m1, z1, c1, t1⟩ := hf 1 _ rfl
  obtain ⟨x0, rfl⟩ := opField_int Tryz.underlying3 t0
  obtain ⟨x1, rfl⟩ := opField_int Tryz.underlying3 t1
  exact ⟨⟨x0, x1⟩, two_of hl c0 c1⟩
theorem opTerm (n : Nat) (cs : List Value) (y : DataW H × List MemPlace) (h : DataW.trod enc Tryz.prog w base spare held n 48 cs = some y) : ∃ x : Term, Pl encTerm w cs x := by
  obtain ⟨hl, hf⟩ := opFields Tryz.underlying48 (by kernel_rfl) (by kernel_rfl) h
  obtain ⟨v0, m0, z0, c0, t0⟩ := hf 0 _ rfl
  obtain ⟨v1, m1, z1, c1, t1⟩ := hf 1 _ rfl
  obtain ⟨x0, rfl⟩ := opField_int Tryz.underlying3 t0
  obtain ⟨x1, rfl⟩ := opField_int Tryz.underlying3 t1
  exact ⟨⟨x0, x1⟩, two_of hl c0 c1⟩
theorem opTerms {v : Value} {n : Nat} {y : DataW H × List MemPlace} (h : DataW.trod enc Tryz.prog w base spare held n 49 [v] = some y) : ∃ l, Terms w v l :=
  opS Tryz.underlying49 (by kernel_rfl) (by omega) opTerm h
theorem opRow (n : Nat) (cs : List Value) (y : DataW H × List MemPlace) (h : DataW.trod enc Tryz.prog w base spare held n 51 cs = some y) : ∃ x : Row, rdRow w cs x := by
  obtain ⟨hl, hf⟩ := opFields Tryz.underlying51 (by kernel_rfl) (by kernel_rfl) h
  obtain ⟨v0, m0, z0, c0, t0⟩ := hf 0 _ rfl
  obtain ⟨v1, m1, z1, c1, t1⟩ := hf 1 _ rfl
  obtain ⟨l, hlr⟩ := opTerms t0
  obtain ⟨x1, rfl⟩ := opField_int Tryz.underlying3 t1
  exact ⟨⟨l, x1⟩, v0, two_of hl c0 c1, hlr⟩
theorem opRngs {v : Value} {n : Nat} {y : DataW H × List MemPlace} (h : DataW.trod enc Tryz.prog w base spare held n 22 [v] = some y) : ∃ l, Rngs w v l :=
  opS Tryz.underlying22 (by kernel_rfl) (by omega) opRng h
theorem opRows {v : Value} {n : Nat} {y : DataW H × List MemPlace} (h : DataW.trod enc Tryz.prog w base spare held n 23 [v] = some y) : ∃ l, RowsL w v l :=
  opS Tryz.underlying23 (by kernel_rfl) (by omega) opRow h
theorem opInts {v : Value} {n : Nat} {y : DataW H × List MemPlace} (h : DataW.trod enc Tryz.prog w base spare held n 30 [v] = some y) : ∃ l, Ints w v l :=
  opS Tryz.underlying30 (by kernel_rfl) (by omega) (opInt Tryz.underlying3) h
end
end Go.Proofs.YtlbhidiliogflaaGreat
