
/-
What Fix returns, for any input.
-/
import Derived.Test.YtmecjjfpgjpeoaaInt8
import Derived.Deep.LoopGhost
namespace Go.Proofs.Ytmecjjfpgjpeoaa
open Go.RowKit

section
variable {e base : Nat} {w : World} {g n c : Nat} {l : List Rng}
theorem Own.rngCell (h : Own encRng e 2 base w (.slice (some ⟨g, 0, none⟩) n c) l) (hn : n = l.length) {k : Nat} (hk : k < l.length) :
    w.cell? ⟨g, k * 2, none⟩ = some (.int .i64 l[k].lo) ∧ w.cell? ⟨g, k * 2 + 1, none⟩ = some (.int .i64 l[k].hi) := by
  have h0 := h.cellAt encRng_len hn hk (j := 0) (by omega)
  have h1 := h.cellAt encRng_len hn hk (j := 1) (by omega)
  exact ⟨by simpa [encRng] using h0, by simpa [encRng] using h1⟩
theorem Own.rngSet (h : Own encRng e 2 base w (.slice (some ⟨g, 0, none⟩) n c) l) (hn : n = l.length) {k : Nat} (hk : k < l.length) (x : Rng) :
    Own encRng e 2 base ((w.setCell ⟨g, k * 2, none⟩ (.int .i64 x.lo)).setCell ⟨g, k * 2 + 1, none⟩ (.int .i64 x.hi)) (.slice (some ⟨g, 0, none⟩) n c) (l.set k x) := by
  subst hn
  have h1 := Own.set (k := k) (j := 0) (u := .int .i64 x.lo) (x := ⟨x.lo, l[k].hi⟩) encRng_len h hk (by omega) (fun _ => rfl)
  have h2 := Own.set (l := l.set k ⟨x.lo, l[k].hi⟩) (g := g) (c := c) (k := k) (j := 1) (u := .int .i64 x.hi) (x := x) encRng_len (by simpa using h1) (by simpa using hk) (by omega) (fun _ => by simp [encRng])
  simpa using h2
end

/-! what the code computes -/
abbrev RngEq (a b : Rng) : Prop := a.lo = b.lo ∧ a.hi = b.hi
def termsPass (r : Row) : List Term → List Rng → Bool → Option (List Rng × Bool)
  | [], out, ch => some (out, ch)
  | t :: ts, out, ch =>
    let x := tightR r out t.cell
    if emptyR x then none
    else if RngEq x (pick out t.cell) then termsPass r ts out ch
    else termsPass r ts (out.set t.cell.toNat x) true
def rowsPass : List Row → List Rng → Bool → Option (List Rng × Bool)
  | [], out, ch => some (out, ch)
  | r :: rs, out, ch => match termsPass r r.terms out ch with
    | none => none
    | some (o, c) => rowsPass rs o c
def fixF (rows : List Row) : Nat → List Rng → Option (List Rng)
  | 0, _ => none
  | n + 1, out => match rowsPass rows out false with
    | none => none
    | some (o, false) => some o
    | some (o, true) => fixF rows n o
def width : List Rng → Nat
  | [] => 0
  | r :: l => (r.hi - r.lo).toNat + width l
def noSol (rows : List Row) : Bool := rows.any fun r => r.terms.isEmpty && decide (r.bound < 0)
def fixB (b : List Rng) (rows : List Row) : Option (List Rng) :=
  if validB b rows = true ∧ b.any emptyR = false ∧ noSol rows = false then fixF rows (width b + 1) b else none

theorem tight_sub (r : Row) (b : List Rng) (cell : Int) (h : emptyR (tightR r b cell) = false) :
    (pick b cell).lo ≤ (tightR r b cell).lo ∧ (tightR r b cell).lo ≤ (tightR r b cell).hi ∧ (tightR r b cell).hi ≤ (pick b cell).hi := by
  have h0 : (tightR r b cell).lo ≤ (tightR r b cell).hi := by unfold emptyR at h; simpa using h
  unfold tightR at h h0 ⊢
  cases hf : r.terms.find? (fun t => t.cell == cell) with
  | none => rw [hf] at h0; exact ⟨Int.le_refl _, h0, Int.le_refl _⟩
  | some t =>
    rw [hf] at h h0
    dsimp only at h h0 ⊢
    by_cases h1 : 0 < t.factor
    · simp only [h1, if_true] at h h0 ⊢
      split at h
      · simp [emptyR] at h
      · rename_i he
        simp only [he, Bool.false_eq_true, if_false] at h0 ⊢
        exact ⟨Int.le_refl _, h0, Int.min_le_left _ _⟩
    · simp only [h1, if_false] at h h0 ⊢
      split at h
      · simp [emptyR] at h
      · rename_i he
        simp only [he, Bool.false_eq_true, if_false] at h0 ⊢
        exact ⟨Int.le_max_left _ _, h0, Int.le_refl _⟩
theorem width_set : ∀ (l : List Rng) (k : Nat) (x : Rng), k < l.length → (pick l k).lo ≤ x.lo → x.lo ≤ x.hi → x.hi ≤ (pick l k).hi → ¬ RngEq x (pick l k) → width (l.set k x) < width l
  | [], k, _, hk, _, _, _, _ => absurd hk (by simp)
  | r :: l, 0, x, _, h1, h2, h3, h4 => by
    simp only [List.set_cons_zero, width]
    simp [pick, RngEq] at h1 h3 h4
    omega
  | r :: l, k + 1, x, hk, h1, h2, h3, h4 => by
    simp only [List.set_cons_succ, width]
    have := width_set l k x (by simpa using hk) (by simpa [pick] using h1) h2 (by simpa [pick] using h3) (by simpa [pick] using h4)
    omega
end Go.Proofs.Ytmecjjfpgjpeoaa
