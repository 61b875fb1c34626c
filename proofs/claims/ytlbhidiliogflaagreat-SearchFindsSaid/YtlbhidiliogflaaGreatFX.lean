/-
Regions that draw their order, of whose operations one changes what is there: each operation is looked at once, and knows that it has not run yet. Nothing here speaks of the program.
Only some blocks have changed; drawn regions with one or two changing operations; an append at an operation.
-/
import Derived.Test.YtlbhidiliogflaaGreatGM
import Derived.Deep.Cut
import Derived.Deep.CutRange
import Derived.Sort.Grow
namespace Go.Proofs.YtlbhidiliogflaaGreat.G2
set_option linter.unusedSimpArgs false
set_option linter.unusedVariables false
open Go.RowKit
section
variable {P : Program} {ops : Array Oper} {Q : Exit → Act → World → Prop} {fl : List Nat} {n N : Nat} {a0 : Act} {w0 : World} {PV : Nat → Value → World → Prop} {G : World → World → Prop}
variable {J : Array Bool → World → Prop} {R : Nat → World → World → Prop}
structure GrowJ (J : Array Bool → World → Prop) (ops : Array Oper) (n N : Nat) (a0 : Act) (PV : Nat → Value → World → Prop) (listed : Array Bool) (a : Act) (w : World) : Prop where
  kp : J listed w
  df : a.defers = a0.defers
  sz : a.tmps.size = N
  fr : ∀ t, growFree ops n t = true → a.tmps[t]? = a0.tmps[t]?
  pv : ∀ j, j < n → listed.getD j true = true → PV j (gVal ops a j) w
end
end Go.Proofs.YtlbhidiliogflaaGreat.G2
namespace Go.Proofs.YtlbhidiliogflaaGreat
set_option linter.unusedSimpArgs false
set_option linter.unusedVariables false
open Go.RowKit

theorem guard_get {T : Array Value} {i : Nat} {b : Bool} (h : T[i]?.getD undef = .bool b) : T[i]? = some (.bool b) := by
  cases hT : T[i]? with
  | none => rw [hT] at h; cases h
  | some v => rw [hT] at h; exact congrArg some h
/-! new blocks and draws alone -/
structure KpD (w w' : World) : Prop where
  kp : Kp w w'
  dr : w.drawn ≤ w'.drawn
theorem KpD.refl (w : World) : KpD w w := ⟨Kp.refl w, Nat.le_refl _⟩
theorem KpD.trans {a b c : World} (h : KpD a b) (k : KpD b c) : KpD a c := ⟨h.kp.trans k.kp, Nat.le_trans h.dr k.dr⟩
theorem KpD.drew {a w : World} (h : KpD a w) : KpD a w.drew := ⟨h.kp.drew, Nat.le_trans h.dr (Nat.le_succ _)⟩
theorem KpD.drewN {a w : World} (h : KpD a w) (n : Nat) : KpD a (w.drewN n) := ⟨h.kp.drewN n, Nat.le_trans h.dr (Nat.le_add_right _ _)⟩
theorem KpD.alloc {a w : World} (h : KpD a w) (o : Obj) : KpD a (w.alloc o) := ⟨h.kp.alloc o, h.dr⟩
theorem KpD.cellS {w w' : World} (h : KpD w w') {p : Addr} {v : Value} (hp : w.cell? p = some v) : w'.cell? p = some v := h.kp.cellS hp
theorem KpD.ex {w w' : World} (h : KpD w w') : ∃ q os, w' = Go.Sort.grow (w.drewN q) os := by
  refine ⟨w'.drawn - w.drawn, w'.heap.extract w.heap.size w'.heap.size, ?_⟩
  have h1 := h.kp.os
  have h2 := h.kp.tape
  have h3 := h.kp.output
  have h4 := h.kp.size
  have h5 : w'.heap = w.heap ++ w'.heap.extract w.heap.size w'.heap.size := by
    apply Array.ext_getElem?
    intro i
    by_cases hi : i < w.heap.size
    · rw [Array.getElem?_append_left hi]
      exact h.kp.block hi
    · rw [Array.getElem?_append_right (by omega), Array.getElem?_extract]
      by_cases h6 : i < w'.heap.size
      · rw [if_pos (by omega)]
        congr 1
        omega
      · rw [if_neg (by omega), Array.getElem?_eq_none (by omega)]
  have h6 := h.dr
  obtain ⟨a1, a2, a3, a4, a5⟩ := w'
  obtain ⟨b1, b2, b3, b4, b5⟩ := w
  simp only at h1 h2 h3 h5 h6
  subst h1 h2 h3
  simp only [Go.Sort.grow, World.drewN]
  rw [← h5]
  congr 1
  omega
/-! comparisons of integers -/
/-! only some blocks have changed -/
structure Fx (X : Nat → Prop) (w w' : World) : Prop where
  os : w'.os = w.os
  tape : w'.tape = w.tape
  output : w'.output = w.output
  size : w.heap.size ≤ w'.heap.size
  block : ∀ k, k < w.heap.size → ¬ X k → w'.heap[k]? = w.heap[k]?
section
variable {X Y S T : Nat → Prop} {w w' w2 : World}
theorem Fx.refl (X : Nat → Prop) (w : World) : Fx X w w := ⟨rfl, rfl, rfl, Nat.le_refl _, fun _ _ _ => rfl⟩
theorem Fx.trans (h : Fx X w w') (k : Fx X w' w2) : Fx X w w2 := ⟨k.os.trans h.os, k.tape.trans h.tape, k.output.trans h.output, Nat.le_trans h.size k.size, fun i hi hx => (k.block i (Nat.lt_of_lt_of_le hi h.size) hx).trans (h.block i hi hx)⟩
theorem Kp.fx (h : Kp w w') (X : Nat → Prop) : Fx X w w' := ⟨h.os, h.tape, h.output, h.size, fun _ hi _ => h.block hi⟩
theorem Kg.fx {g : Nat} (h : Kg w w' g) (hg : X g ∨ w.heap.size ≤ g) : Fx X w w' := ⟨h.os, h.tape, h.output, h.size, fun i hi hx => h.block i hi (fun e => by
  injection e with e
  subst e
  rcases hg with hg | hg
  · exact hx hg
  · omega)⟩
theorem Fx.mono (h : Fx X w w') (hs : ∀ k, k < w.heap.size → X k → Y k) : Fx Y w w' := ⟨h.os, h.tape, h.output, h.size, fun i hi hx => h.block i hi fun hx' => hx (hs i hi hx')⟩
theorem Fx.kp (h : Fx X w w') (hx : ∀ k, k < w.heap.size → ¬ X k) : Kp w w' := ⟨h.os, h.tape, h.output, h.size, fun i hi => h.block i hi (hx i hi)⟩
end
theorem Fx.grown {X : Nat → Prop} {a w w' : World} {row : Option Nat} (h : Fx X a w) (hg : w.grownBy w' row) (hr : ∀ g, row = some g → X g ∨ a.heap.size ≤ g) : Fx X a w' :=
  ⟨hg.os.trans h.os, hg.tape.trans h.tape, hg.output.trans h.output, Nat.le_trans h.size hg.size, fun i hi hx => (hg.block i (Nat.lt_of_lt_of_le hi h.size) (fun e => by
    rcases hr i e.symm with h1 | h1
    · exact hx h1
    · omega)).trans (h.block i hi hx)⟩
theorem _root_.Go.World.grownBy.fxg {w w' : World} {row : Option Nat} (h : w.grownBy w' row) (g : Nat) (hr : row = some g) : Fx (fun q => q = g) w w' := ⟨h.os, h.tape, h.output, h.size, fun i hi hx => h.block i hi (by rw [hr]; simp; exact hx)⟩
/-! a drawn region with one operation that changes what is there -/
/-! appending, at an operation -/
theorem wp_append_flat {P : Program} {α : Type} {enc : α → List Value} {t e size bytes base : Nat} {w : World} {v : Value} {l : List α} {o : Oper} {a : Act} {K : Act → World → Prop} {Q : Exit → Act → World → Prop} (s x : Operand)
    (ho : o.op = .call { callee := .builtin .append, args := #[s, x], argTypes := #[t, t] }) (hT : SliceT P t e size bytes) (he : ∀ x, (enc x).length = size) (h1 : ∀ x, ∀ u ∈ enc x, u.oneCell' = true)
    (hs : a.eval s = v) (hown : Own enc e size base w v l)
    {v2 : Value} {m : List α} (hx : a.eval x = v2) (hsrc : Sl (Pl enc) size w v2 m) (hlen : l.length + m.length ≤ 4611686018427387904) (hby : (l.length + m.length) * bytes ≤ 140737488355328) (hbase : base ≤ w.heap.size)
    (h : ∀ v' w', Own enc e size base w' v' (l ++ m) → w.grownBy w' v.ownBlock → (v'.ownBlock = v.ownBlock ∨ v'.ownBlock = some w.heap.size) → K (a.put o.dst v') w') : Oper.wp P o a w K Q := by
  obtain ⟨v', w', hr, h2, h3, h4, h5⟩ := run_append_flat hT he h1 o.type hown hsrc hlen hby hbase
  unfold Oper.wp execOp
  simp only [ho, resolve, invoke, builtin, Sem.run_bind, Sem.run_pure, Result.andThen_ok, List.map_toArray, List.map_cons, List.map_nil, hs, hx, hr]
  exact h v' w' h2 h3 h4
theorem Fx.cellS {X : Nat → Prop} {w w' : World} (h : Fx X w w') {p : Addr} {v : Value} (hp : w.cell? p = some v) (hx : ¬ X p.block) : w'.cell? p = some v := (World.cell?_of_block (h.block p.block (block_lt_of_cell hp) hx)).trans hp
theorem kp_range {w w' : World} (hk : Kp w w') {b o : Nat} {cs : List Value} (h : w.rangeAt b o cs) : w'.rangeAt b o cs := fun j u hu => hk.cellS (h j u hu)
end Go.Proofs.YtlbhidiliogflaaGreat
