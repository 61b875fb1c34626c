
/-
What the operations of a region yield, as a list. Nothing here speaks of the program.
-/
import Derived.Test.YtfllmnaillilhaaGrow2
namespace Go.Proofs.Ytfllmnaillilhaa.G2
set_option linter.unusedSimpArgs false
set_option linter.unusedVariables false
open Go.RowKit

def pvL (ps : List (Value → World → Prop)) (i : Nat) (v : Value) (w : World) : Prop := match ps[i]? with | some p => p v w | none => True
def eqv (u v : Value) (_ : World) : Prop := v = u
def Stab (p : Value → World → Prop) : Prop := ∀ v w1 w2, p v w1 → Kp w1 w2 → p v w2
def StabL (ps : List (Value → World → Prop)) : Prop := ∀ p ∈ ps, Stab p
theorem stabL_nil : StabL [] := fun _ h => by cases h
theorem stabL_cons {p : Value → World → Prop} {ps : List (Value → World → Prop)} (h : Stab p) (hs : StabL ps) : StabL (p :: ps) := fun q hq => by
  rcases List.mem_cons.1 hq with rfl | hq
  · exact h
  · exact hs q hq
theorem stab_eq (u : Value) : Stab (eqv u) := fun _ _ _ h _ => h
/-- a row made new -/
def newSl {α : Type} (enc : α → List Value) (size : Nat) (l : List α) (v : Value) (w : World) : Prop := ∃ p : Nat, v = .slice (some ⟨p, 0, none⟩) l.length l.length ∧ Sl (Pl enc) size w (.slice (some ⟨p, 0, none⟩) l.length l.length) l
theorem stab_newSl {α : Type} (enc : α → List Value) (size : Nat) (l : List α) : Stab (newSl enc size l) := fun _ _ _ ⟨p, e, h⟩ hk => ⟨p, e, h.keep (pl_stable _) hk⟩
theorem newSl_one {α : Type} {enc : α → List Value} {size : Nat} {x : α} {cs : List Value} (w : World) (t : TypeId) (hl : cs.length = size) (he : enc x = cs) : newSl enc size [x] (.slice (some ⟨w.heap.size, 0, none⟩) 1 1) (w.alloc (.cells cs.toArray t)) :=
  ⟨_, rfl, Sl.one (R := Pl enc) w cs t size x hl he.symm⟩
/-- what a call returns that makes memory of its own -/
def retOwn {α : Type} (enc : α → List Value) (e size base : Nat) (l : List α) (v : Value) (w : World) : Prop := Own enc e size base w v l
theorem stab_own {α : Type} (enc : α → List Value) (e size base : Nat) (l : List α) : Stab (retOwn enc e size base l) := fun _ _ _ h hk => h.kp hk
theorem pvL_keep {ps : List (Value → World → Prop)} (h : StabL ps) : ∀ (j : Nat) v w1 w2, pvL ps j v w1 → Kp w1 w2 → pvL ps j v w2 := by
  intro j v w1 w2 hp hk
  unfold pvL at hp ⊢
  cases hj : ps[j]? with
  | none => trivial
  | some p =>
    rw [hj] at hp
    exact h p (List.mem_of_getElem? hj) v w1 w2 hp hk
end Go.Proofs.Ytfllmnaillilhaa.G2
