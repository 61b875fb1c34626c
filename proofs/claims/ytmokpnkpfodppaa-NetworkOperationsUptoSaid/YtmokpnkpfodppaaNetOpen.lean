
/-
How lists of messages open.
-/
import Derived.Test.YtmokpnkpfodppaaNE
import Derived.Test.YtmokpnkpfodppaaCodOpen
namespace Go.Proofs.Ytmokpnkpfodppaa
set_option linter.unusedSimpArgs false
set_option linter.unusedVariables false
open Go.ChangeShapes Go.WideShapes Go.ChangeAt Go.RowKit

instance : Inhabited Message := ⟨zM⟩
section
variable {H : Type} {enc : TypeId × Value → H} {w : World} {base : Nat} {spare : Nat → Bool} {held : Bool}
theorem opMsgs {v : Value} {n : Nat} {y : DataW H × List MemPlace} (h : DataW.trod enc Try.prog w base spare held n 22 [v] = some y) : ∃ l, Msgs w v l ∧ (numL numMessage l).length ≤ bulk y.1 :=
  opSL (R := rdMsg) numMessage Try.underlying22 (size := 18) (by kernel_rfl) (by omega) opMessage h
def numFate (f : Fate) : List Int := [f.delay, f.again]
theorem opFate (n : Nat) (cs : List Value) (y : DataW H × List MemPlace) (h : DataW.trod enc Try.prog w base spare held n 47 cs = some y) : ∃ x : Fate, Pl encFate w cs x ∧ (numFate x).length ≤ bulk y.1 := by
  obtain ⟨hl, D, hs, hf⟩ := opF Try.underlying47 h
  rw [show Try.prog.cellsOf 47 = 3 by kernel_rfl] at hl
  match cs, hl with
  | [u0, u1, u2], _ =>
    obtain ⟨a, rfl⟩ := opB Try.underlying4 (u := u0) (hf 0 _ 1 rfl (by kernel_rfl))
    obtain ⟨b, rfl⟩ := opI Try.underlying3 (u := u1) (hf 1 _ 1 rfl (by kernel_rfl))
    obtain ⟨c, rfl⟩ := opI Try.underlying3 (u := u2) (hf 2 _ 1 rfl (by kernel_rfl))
    refine ⟨⟨a, b, c⟩, rfl, ?_⟩
    simp only [bsum, List.size_toArray, List.length_cons, List.length_nil] at hs
    have q0 := bulk_one (D 0)
    have q1 := bulk_one (D 1)
    have q2 := bulk_one (D 2)
    simp only [numFate, List.length_cons, List.length_nil]
    omega
theorem opFates {v : Value} {n : Nat} {y : DataW H × List MemPlace} (h : DataW.trod enc Try.prog w base spare held n 48 [v] = some y) : ∃ l, Fates w v l ∧ (numL numFate l).length ≤ bulk y.1 :=
  opSL (R := Pl encFate) numFate Try.underlying48 (size := 3) (by kernel_rfl) (by omega) opFate h
end
theorem numL_ge {α : Type} (f : α → List Int) (hf : ∀ x, 1 ≤ (f x).length) : ∀ l : List α, l.length ≤ (numL f l).length := fun l => by
  rw [numL_len]
  induction l with
  | nil => simp
  | cons x l ih =>
    have := hf x
    simp only [List.map_cons, List.sum_cons, List.length_cons]
    omega
theorem sum_mem {α : Type} (f : α → Nat) : ∀ (l : List α) (x : α), x ∈ l → f x ≤ (l.map f).sum
  | y :: l, x, h => by
    rw [List.map_cons, List.sum_cons]
    rcases List.mem_cons.1 h with rfl | h
    · omega
    · have := sum_mem f l x h
      omega
theorem numL_mem {α : Type} (f : α → List Int) {l : List α} {x : α} (h : x ∈ l) {n : Nat} (hn : (numL f l).length ≤ n) : (f x).length ≤ n := by
  rw [numL_len] at hn
  have := sum_mem (fun x => (f x).length) l x h
  omega
end Go.Proofs.Ytmokpnkpfodppaa
