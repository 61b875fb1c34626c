
/-
The reader's memory: its two cells; what a call of it keeps; how what is read answers to a parser; where a result lies.
-/
import Derived.Test.YtmeafoakbkjifaaCodB4
namespace Go.Proofs.Ytmeafoakbkjifaa
set_option linter.unusedSimpArgs false
set_option linter.unusedVariables false
open Go.RowKit

/-! how what is read answers to a parser -/
/-- from the numbers l, with the flag bad, x was read, and l' and bad' are left -/
def SpecP {α : Type} (P : Ps α) (l : List Int) (bad : Bool) (x : α) (l' : List Int) (bad' : Bool) : Prop :=
  if bad then bad' = true else match P l with | none => bad' = true | some (y, l1) => bad' = false ∧ x = y ∧ l' = l1
theorem SpecP.bind {α β : Type} {P : Ps α} {Q : α → Ps β} {l l1 l2 : List Int} {b b1 b2 : Bool} {x : α} {y : β} (h1 : SpecP P l b x l1 b1) (h2 : SpecP (Q x) l1 b1 y l2 b2) : SpecP (bindP P Q) l b y l2 b2 := by
  unfold SpecP bindP at *
  cases b with
  | true =>
    simp only [if_pos] at h1 ⊢
    subst h1
    simpa using h2
  | false =>
    simp only [Bool.false_eq_true, if_false] at h1 ⊢
    cases hP : P l with
    | none =>
      rw [hP] at h1
      dsimp only at h1 ⊢
      subst h1
      simpa using h2
    | some q =>
      obtain ⟨y1, l3⟩ := q
      rw [hP] at h1
      dsimp only at h1 ⊢
      obtain ⟨rfl, rfl, rfl⟩ := h1
      simpa using h2
theorem SpecP.ret {α : Type} (x : α) (l : List Int) (b : Bool) : SpecP (retP x) l b x l b := by
  unfold SpecP retP
  cases b <;> simp
theorem bindP_assoc {α β γ : Type} (P : Ps α) (Q : α → Ps β) (R : β → Ps γ) : bindP (bindP P Q) R = bindP P fun x => bindP (Q x) R := by
  funext l
  unfold bindP
  cases P l with
  | none => rfl
  | some q => rfl
theorem bindP_retP {α β : Type} (x : α) (Q : α → Ps β) : bindP (retP x) Q = Q x := rfl
theorem SpecP.of_eq {α : Type} {P Q : Ps α} (h : Q = P) {l l' : List Int} {b b' : Bool} {x : α} (hs : SpecP P l b x l' b') : SpecP Q l b x l' b' := h ▸ hs

/-! where a result lies -/
/-- what R says lies in the blocks from base up to top -/
def Ow (base top : Nat) (w : World) (R : World → Prop) : Prop := ∀ w' : World, w.heap.size ≤ w'.heap.size → (∀ k, base ≤ k → k < top → w'.heap[k]? = w.heap[k]?) → R w'
theorem Ow.here {base top : Nat} {w : World} {R : World → Prop} (h : Ow base top w R) : R w := h w (Nat.le_refl _) fun _ _ _ => rfl
theorem Ow.wide {base top base' top' : Nat} {w : World} {R : World → Prop} (h : Ow base top w R) (hb : base' ≤ base) (ht : top ≤ top') : Ow base' top' w R :=
  fun w' h1 h2 => h w' h1 fun k hk hk2 => h2 k (Nat.le_trans hb hk) (Nat.lt_of_lt_of_le hk2 ht)
theorem Ow.step {base top : Nat} {w w' : World} {R : World → Prop} (h : Ow base top w R) (h1 : w.heap.size ≤ w'.heap.size) (h2 : ∀ k, base ≤ k → k < top → w'.heap[k]? = w.heap[k]?) : Ow base top w' R :=
  fun w2 h3 h4 => h w2 (Nat.le_trans h1 h3) fun k hk hk2 => (h4 k hk hk2).trans (h2 k hk hk2)
theorem Ow.imp {base top : Nat} {w : World} {R S : World → Prop} (h : Ow base top w R) (hi : ∀ w', R w' → S w') : Ow base top w S := fun w' h1 h2 => hi w' (h w' h1 h2)
theorem Ow.and {base top : Nat} {w : World} {R S : World → Prop} (h : Ow base top w R) (h' : Ow base top w S) : Ow base top w fun w' => R w' ∧ S w' := fun w' h1 h2 => ⟨h w' h1 h2, h' w' h1 h2⟩
theorem Ow.pure {base top : Nat} {w : World} {p : Prop} (h : p) : Ow base top w fun _ => p := fun _ _ _ => h
theorem Ow.kg {base top g : Nat} {w w' : World} {R : World → Prop} (h : Ow base top w R) (hk : Kg w w' g) (hg : g < base) (ht : top ≤ w.heap.size) : Ow base top w' R :=
  h.step hk.size fun k hb hk2 => hk.block k (by omega) (by simp; omega)
/-- a row of its own -/
theorem Own.ow {α : Type} {enc : α → List Value} {e size base : Nat} {w : World} {v : Value} {l : List α} (h : Own enc e size base w v l) : Ow base w.heap.size w fun w' => Own enc e size base w' v l := by
  intro w' h1 h2
  unfold Own World.ownsRow at *
  refine ⟨h.1, ?_⟩
  rcases h.2 with hn | ⟨g, cap, cur, hv, hb, hg, rest⟩
  · exact .inl hn
  · exact .inr ⟨g, cap, cur, hv, hb, (h2 g hb (Array.getElem?_eq_some_iff.1 hg).1).trans hg, rest⟩

/-! the reader's cells -/
structure Rdr (W0 w : World) (g : Nat) (l : List Int) (bad : Bool) : Prop where
  kp : Kp W0 w
  lo : W0.heap.size ≤ g
  len : l.length ≤ 1000000
  cells : ∃ v, Ints W0 v l ∧ w.cell? ⟨g, 0, none⟩ = some v ∧ w.frozen? ⟨g, 0, none⟩ = false ∧ w.cell? ⟨g, 1, none⟩ = some (.bool bad) ∧ w.frozen? ⟨g, 1, none⟩ = false
theorem Rdr.lt {W0 w : World} {g : Nat} {l : List Int} {bad : Bool} (h : Rdr W0 w g l bad) : g < w.heap.size := by obtain ⟨v, -, h1, -⟩ := h.cells; exact block_lt_of_cell h1
theorem Rdr.keep {W0 w w' : World} {g : Nat} {l : List Int} {bad : Bool} (h : Rdr W0 w g l bad) (hk : Kp w w') : Rdr W0 w' g l bad := by
  have hg := h.lt
  obtain ⟨v, h1, h2, h3, h4, h5⟩ := h.cells
  exact ⟨h.kp.trans hk, h.lo, h.len, v, h1, hk.cellS h2, (World.frozen?_of_block (hk.block hg)).trans h3, hk.cellS h4, (World.frozen?_of_block (hk.block hg)).trans h5⟩
/-- other blocks may change -/
theorem Rdr.keepG {W0 w w' : World} {g : Nat} {l : List Int} {bad : Bool} (h : Rdr W0 w g l bad) (hk : Kp W0 w') (hg : w'.heap[g]? = w.heap[g]?) : Rdr W0 w' g l bad := by
  obtain ⟨v, h1, h2, h3, h4, h5⟩ := h.cells
  exact ⟨hk, h.lo, h.len, v, h1, (World.cell?_of_block hg).trans h2, (World.frozen?_of_block hg).trans h3, (World.cell?_of_block hg).trans h4, (World.frozen?_of_block hg).trans h5⟩
theorem set_block (w : World) (p : Addr) (u : Value) (k : Nat) (h : k ≠ p.block) : (w.setCell p u).heap[k]? = w.heap[k]? := Below.heap_setCell w p u k h
theorem set_size (w : World) (p : Addr) (u : Value) : (w.setCell p u).heap.size = w.heap.size := by simp [World.setCell]
theorem Rdr.bad {W0 w : World} {g : Nat} {l : List Int} {bad : Bool} (h : Rdr W0 w g l bad) (b : Bool) : Rdr W0 (w.setCell ⟨g, 1, none⟩ (.bool b)) g l b := by
  obtain ⟨v, h1, h2, h3, h4, h5⟩ := h.cells
  refine ⟨h.kp.set (by have := h.lo; simpa using this) _, h.lo, h.len, v, h1, ?_, ?_, ?_, ?_⟩
  · rw [World.cell?_setCell_other _ _ _ _ (by simp), h2]
  · rw [World.frozen?_setCell, h3]
  · exact World.cell?_setCell_same _ _ _ h4
  · rw [World.frozen?_setCell, h5]
theorem Rdr.row {W0 w : World} {g : Nat} {l l' : List Int} {bad : Bool} (h : Rdr W0 w g l bad) {v : Value} (hv : Ints W0 v l') (hl : l'.length ≤ l.length) : Rdr W0 (w.setCell ⟨g, 0, none⟩ v) g l' bad := by
  have hlen := h.len
  obtain ⟨v0, h1, h2, h3, h4, h5⟩ := h.cells
  refine ⟨h.kp.set (by have := h.lo; simpa using this) _, h.lo, by omega, v, hv, ?_, ?_, ?_, ?_⟩
  · exact World.cell?_setCell_same _ _ _ h2
  · rw [World.frozen?_setCell, h3]
  · rw [World.cell?_setCell_other _ _ _ _ (by simp), h4]
  · rw [World.frozen?_setCell, h5]
theorem Sl.tail {b o n c : Nat} {w : World} {x : Int} {l : List Int} (h : Ints w (.slice (some ⟨b, o, none⟩) n c) (x :: l)) : Ints w (.slice (some ⟨b, o + 1, none⟩) l.length (c - 1)) l := by
  obtain ⟨A, c', he, h1, h2⟩ := h.form
  rw [List.length_cons] at *
  injection he with e1 e2 e3
  subst e1 e2 e3
  have h' := h
  refine ⟨_, _, rfl, by omega, by omega, fun k hk => ?_⟩
  obtain ⟨b', o', hA, hb, hc⟩ := h'.ints (k := k + 1) (by simpa using hk)
  injection hA with hA
  injection hA with e1 e2 _
  subst e1 e2
  refine ⟨b, o + 1, [.int .i64 l[k]], rfl, hb, rfl, fun j u hu => ?_, rfl⟩
  cases j with
  | zero =>
    simp only [List.getElem?_cons_zero, Option.some.injEq] at hu
    subst hu
    simp only [Nat.mul_one, Nat.add_zero]
    have e : o + 1 + k = o + (k + 1) := by omega
    rw [e]
    simpa using hc
  | succ j => simp at hu

/-- how a call ends that read a value: x is what the parser reads; it lies in new blocks -/
def ReadEnd {α : Type} (W0 : World) (g : Nat) (P : Ps α) (Q : World → Value → α → Prop) (l : List Int) (bad : Bool) (w : World) (e : Ending) (w' : World) : Prop :=
  ∃ v x l' bad', e = .returned v ∧ Ow w.heap.size w'.heap.size w' (fun w2 => Q w2 v x) ∧ SpecP P l bad x l' bad' ∧ Rdr W0 w' g l' bad' ∧ Kg w w' g
/-- a call reads a value -/
abbrev Reads {α : Type} (W0 : World) (g : Nat) (P : Ps α) (Q : World → Value → α → Prop) (l : List Int) (bad : Bool) (F : FuncId) (args : Array Value) (w : World) : Prop :=
  Calls Try.prog F args w (ReadEnd W0 g P Q l bad w)
def VI : World → Value → Int → Prop := fun _ v x => v = .int .i64 x
def VB : World → Value → Bool → Prop := fun _ v x => v = .bool x
/-- a value of several cells -/
def VA {α : Type} (R : Rd α) : World → Value → α → Prop := fun w v x => ∃ cs : List Value, v = .agg cs.toArray ∧ R w cs x
/-- a value of one cell -/
def V1 {α : Type} (R : Rd α) : World → Value → α → Prop := fun w v x => R w [v] x
end Go.Proofs.Ytmeafoakbkjifaa
