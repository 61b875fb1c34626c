
/-
Elements of a row of the call's own: one is stored whole; a shorter row. Nothing here speaks of the program.
-/
import Derived.Test.YtcddllaljgfjbaaGM
import Derived.Deep.MidRow
namespace Go.Proofs.Ytcddllaljgfjbaa
set_option linter.unusedSimpArgs false
set_option linter.unusedVariables false
open Go.RowKit

theorem putV_cons {cs : List Value} {o : Nat} {v : Value} {vs : List Value} (hl : o < cs.length) : putV (cs.set o v) (o + 1) vs = putV cs o (v :: vs) := by
  have hset : cs.set o v = cs.take o ++ v :: cs.drop (o + 1) := by rw [List.set_eq_take_append_cons_drop, if_pos (by omega)]
  have ht : (cs.take o).length = o := by simp; omega
  unfold putV
  rw [hset, List.take_append, List.drop_append, ht, List.take_of_length_le (l := cs.take o) (by omega), List.drop_of_length_le (l := cs.take o) (by omega), List.length_cons]
  have e1 : o + 1 - o = 1 := by omega
  have e2 : o + 1 + vs.length - o = vs.length + 1 := by omega
  rw [e1, e2]
  simp [Nat.add_assoc, Nat.add_comm 1]
theorem owns_setCells {base e size g n c : Nat} : ∀ (vs : List Value) (o : Nat) (w : World) (xs : List Value), w.ownsRow base e size (.slice (some ⟨g, 0, none⟩) n c) n xs → o + vs.length ≤ xs.length → (w.setCells g o vs).ownsRow base e size (.slice (some ⟨g, 0, none⟩) n c) n (putV xs o vs)
  | [], o, w, xs, h, _ => by
    have : putV xs o [] = xs := by unfold putV; simp
    rw [this]
    exact h
  | v :: vs, o, w, xs, h, hl => by
    rw [List.length_cons] at hl
    have h1 := (World.ownsRow.stored h o v).1
    rw [World.setCells, ← putV_cons (by omega)]
    exact owns_setCells vs (o + 1) _ _ h1 (by rw [List.length_set]; omega)
section
variable {α : Type} {enc : α → List Value} {e size base g n c k : Nat} {w : World} {l : List α}
theorem flat_setRow (he : ∀ x, (enc x).length = size) (x : α) (hk : k < l.length) : putV (flat enc l) (k * size) (enc x) = flat enc (l.set k x) := by
  unfold putV
  rw [List.set_eq_take_append_cons_drop, if_pos hk, flat_append, flat_cons, ← flat_take he l k, he x]
  have : k * size + size = (k + 1) * size := by rw [Nat.add_mul, Nat.one_mul]
  rw [this, ← flat_drop he l (k + 1), List.append_assoc]
theorem Own.setRow (he : ∀ x, (enc x).length = size) (h : Own enc e size base w (.slice (some ⟨g, 0, none⟩) n c) l) (hn : n = l.length) (hk : k < l.length) (x : α) : Own enc e size base (w.setCells g (k * size) (enc x)) (.slice (some ⟨g, 0, none⟩) n c) (l.set k x) := by
  subst hn
  unfold Own at h ⊢
  have h1 : (k + 1) * size ≤ l.length * size := Nat.mul_le_mul_right _ hk
  have h2 := owns_setCells (enc x) (k * size) w _ h (by rw [flat_length he, he]; rw [Nat.add_mul, Nat.one_mul] at h1; exact h1)
  rw [flat_setRow he x hk] at h2
  rw [List.length_set]
  exact h2
theorem Own.thereRow (he : ∀ x, (enc x).length = size) (h : Own enc e size base w (.slice (some ⟨g, 0, none⟩) n c) l) (hn : n = l.length) (hk : k < l.length) : w.there g (k * size) size := fun j hj => by
  refine ⟨?_, h.frozen hn _⟩
  rw [h.cellAt he hn hk hj, List.getElem?_eq_getElem (by rw [he]; exact hj)]
  rfl
theorem Own.trunc (he : ∀ x, (enc x).length = size) (h : Own enc e size base w (.slice (some ⟨g, 0, none⟩) n c) l) (hn : n = l.length) {m : Nat} (hm : m ≤ n) : Own enc e size base w (.slice (some ⟨g, 0, none⟩) m c) (l.take m) := by
  subst hn
  have hml : (l.take m).length = m := by simp; omega
  unfold Own World.ownsRow at h ⊢
  refine ⟨by rw [flat_length he], ?_⟩
  rcases h.2 with ⟨h0, -⟩ | ⟨g', cap, cur, h1, h2, h3, h4, h5, h6, h7⟩
  · cases h0
  · injection h1 with a1 a2 a3
    injection a1 with a1
    injection a1 with a1
    subst a1 a3
    refine .inr ⟨g, c, cur, by rw [hml], h2, h3, by omega, h5, h6, ?_⟩
    rw [hml, flat_take he, ← h7, List.take_take]
    have : m * size ≤ l.length * size := Nat.mul_le_mul_right _ hm
    rw [Nat.min_eq_left this]
end
end Go.Proofs.Ytcddllaljgfjbaa
