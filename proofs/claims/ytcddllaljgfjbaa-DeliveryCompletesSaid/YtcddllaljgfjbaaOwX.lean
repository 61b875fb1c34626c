
/-
What stays while only some blocks change: the tools. Nothing here speaks of the program.
-/
import Derived.Test.YtcddllaljgfjbaaFxG
namespace Go.Proofs.Ytcddllaljgfjbaa
set_option linter.unusedSimpArgs false
set_option linter.unusedVariables false
open Go.RowKit

theorem Fx.setX {X : Nat → Prop} {a w : World} (h : Fx X a w) (p : Addr) (v : Value) (hp : X p.block ∨ a.heap.size ≤ p.block) : Fx X a (w.setCell p v) :=
  ⟨h.os, h.tape, h.output, Nat.le_trans h.size (Nat.le_of_eq (set_size w p v).symm), fun i hi hx => (set_block w p v i (fun e => by
    rcases hp with hp | hp
    · exact hx (e ▸ hp)
    · omega)).trans (h.block i hi hx)⟩
theorem Bx.fx {X : Nat → Prop} {w w' : World} {b : Nat} {cs : List Value} (h : Bx w b cs) (k : Fx X w w') (hl : b < w.heap.size) (hx : ¬ X b) : Bx w' b cs := h.keep (k.block b hl hx)
theorem Own.fx {α : Type} {enc : α → List Value} {e size base : Nat} {w w' : World} {v : Value} {l : List α} {X : Nat → Prop} (h : Own enc e size base w v l) (k : Fx X w w') (hx : ∀ q, v.ownBlock = Option.some q → ¬ X q) : Own enc e size base w' v l :=
  h.owS w' k.size fun q hq hl => k.block q hl (hx q hq)
theorem Own.isSl {α : Type} {enc : α → List Value} {e size base : Nat} {w : World} {v : Value} {l : List α} (h : Own enc e size base w v l) : ∃ A n c, v = .slice A n c := by
  obtain ⟨A, c, h, -⟩ := h.form
  exact ⟨A, _, c, h⟩
/-- R in every later world in which at most X has changed -/
def OwF (X : Nat → Prop) (w : World) (R : World → Prop) : Prop := ∀ w', Fx X w w' → R w'
theorem OwF.here {X : Nat → Prop} {w : World} {R : World → Prop} (h : OwF X w R) : R w := h w (Fx.refl X w)
theorem OwF.fx {X : Nat → Prop} {w w' : World} {R : World → Prop} (h : OwF X w R) (k : Fx X w w') : OwF X w' R := fun w2 h2 => h w2 (k.trans h2)
theorem OwF.kp {X : Nat → Prop} {w w' : World} {R : World → Prop} (h : OwF X w R) (k : Kp w w') : OwF X w' R := h.fx (k.fx X)
theorem OwF.imp {X : Nat → Prop} {w : World} {R Q : World → Prop} (h : OwF X w R) (hi : ∀ w', R w' → Q w') : OwF X w Q := fun w' h1 => hi w' (h w' h1)
theorem OwF.turn {F F' : Nat → Prop} {w w1 : World} {R : World → Prop} (h : OwF F w R) (k : Fx F w w1) (hF : ∀ q, F' q → q < w.heap.size → F q) : OwF F' w1 R := fun w2 k2 =>
  h w2 ⟨k2.os.trans k.os, k2.tape.trans k.tape, k2.output.trans k.output, Nat.le_trans k.size k2.size, fun i hi hx => (k2.block i (Nat.lt_of_lt_of_le hi k.size) (fun hf => hx (hF i hf hi))).trans (k.block i hi hx)⟩
theorem OwF.mono {F F' : Nat → Prop} {w : World} {R : World → Prop} (h : OwF F w R) (hF : ∀ q, F' q → F q) : OwF F' w R := fun w2 k2 => h w2 (k2.mono fun q _ hq => hF q hq)
theorem kp_owF {F : Nat → Prop} {w w1 : World} {R : World → Prop} (h : ∀ w', Kp w w' → R w') (k : Kp w w1) (hF : ∀ q, F q → w.heap.size ≤ q) : OwF F w1 R := fun w2 k2 => h w2 (((k.fx F).trans k2).kp fun q hq hf => by have := hF q hf; omega)
theorem OwF.and {X : Nat → Prop} {w : World} {R Q : World → Prop} (h : OwF X w R) (k : OwF X w Q) : OwF X w fun w2 => R w2 ∧ Q w2 := fun w2 h2 => ⟨h w2 h2, k w2 h2⟩
/-- rows of the call's own lie apart from what may change -/
theorem Own.owF {α : Type} {enc : α → List Value} {e size base : Nat} {w : World} {v : Value} {l : List α} {X : Nat → Prop} (h : Own enc e size base w v l) (hX : ∀ q, X q → q < base) : OwF X w fun w' => Own enc e size base w' v l :=
  fun w' k => h.fx k fun q hq e => by have h1 := h.ge q hq; have h2 := hX q e; omega
end Go.Proofs.Ytcddllaljgfjbaa
