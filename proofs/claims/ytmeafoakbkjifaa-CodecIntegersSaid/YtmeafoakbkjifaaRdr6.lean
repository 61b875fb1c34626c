
/-
The reader: a list under way: its row and what its elements lead to.
-/
import Derived.Test.YtmeafoakbkjifaaRdr5
namespace Go.Proofs.Ytmeafoakbkjifaa
set_option linter.unusedSimpArgs false
set_option linter.unusedVariables false
open Go.RowKit

/-- the cells of an element -/
abbrev Elm (size : Nat) : Type := { cs : List Value // cs.length = size ∧ ∀ u ∈ cs, u.oneCell' = true }
def encC {size : Nat} (c : Elm size) : List Value := c.val
theorem encC_len {size : Nat} (c : Elm size) : (encC c).length = size := c.property.1
theorem encC_one {size : Nat} (c : Elm size) : ∀ u ∈ encC c, u.oneCell' = true := c.property.2
theorem Own.kg {α : Type} {enc : α → List Value} {e size base g : Nat} {w w' : World} {v : Value} {l : List α} (h : Own enc e size base w v l) (hk : Kg w w' g) (hg : g < base) : Own enc e size base w' v l := by
  refine World.ownsRow.kept h hk ?_
  cases hv : v.ownBlock with
  | none => exact .inl rfl
  | some k =>
    refine .inr ?_
    have := h.ge k hv
    intro e1
    injection e1
    omega
/-- what the elements lead to lies elsewhere than the row -/
def Els {α : Type} {size : Nat} (R : Rd α) (base : Nat) (w : World) (s : Option Nat) (css : List (Elm size)) (xs : List α) : Prop :=
  css.length = xs.length ∧ ∀ k (h1 : k < css.length) (h2 : k < xs.length), ∃ b t, base ≤ b ∧ t ≤ w.heap.size ∧ (∀ q, s = some q → q < b ∨ t ≤ q) ∧ Ow b t w fun w' => R w' css[k].val xs[k]
section
variable {α : Type} {size : Nat} {R : Rd α} {base g : Nat} {w w' : World} {s s' : Option Nat} {css : List (Elm size)} {xs : List α}
theorem Els.nil (R : Rd α) (size base : Nat) (w : World) (s : Option Nat) : Els (size := size) R base w s [] [] := ⟨rfl, fun k h1 _ => absurd h1 (by simp)⟩
theorem Els.kg (h : Els R base w s css xs) (hk : Kg w w' g) (hg : g < base) : Els R base w' s css xs := by
  refine ⟨h.1, fun k h1 h2 => ?_⟩
  obtain ⟨b, t, hb, ht, hs, ho⟩ := h.2 k h1 h2
  exact ⟨b, t, hb, Nat.le_trans ht hk.size, hs, ho.kg hk (by omega) ht⟩
theorem Els.grow (h : Els R base w s css xs) (hk : w.grownBy w' s) (hs' : s' = s ∨ s' = some w.heap.size) : Els R base w' s' css xs := by
  refine ⟨h.1, fun k h1 h2 => ?_⟩
  obtain ⟨b, t, hb, ht, hs, ho⟩ := h.2 k h1 h2
  refine ⟨b, t, hb, Nat.le_trans ht hk.size, fun q hq => ?_, ho.step hk.size fun i hi1 hi2 => hk.block i (by omega) ?_⟩
  · rcases hs' with e | e
    · exact hs q (e ▸ hq)
    · rw [e] at hq
      injection hq with hq
      right
      omega
  · intro e
    rcases hs i e.symm with h3 | h3 <;> omega
theorem Els.snoc (h : Els R base w s css xs) (c : Elm size) (x : α) {b t : Nat} (hb : base ≤ b) (ht : t ≤ w.heap.size) (hs : ∀ q, s = some q → q < b ∨ t ≤ q) (ho : Ow b t w fun w' => R w' c.val x) : Els R base w s (css ++ [c]) (xs ++ [x]) := by
  have hl := h.1
  refine ⟨by simp [h.1], fun k h1 h2 => ?_⟩
  by_cases hk : k < css.length
  · rw [List.getElem_append_left hk, List.getElem_append_left (by omega)]
    exact h.2 k hk (by omega)
  · have e1 : k = css.length := by simp at h1; omega
    subst e1
    have e2 : (css ++ [c])[css.length] = c := by simp
    have e3 : (xs ++ [x])[css.length]'h2 = x := by simp [hl]
    rw [e2, e3]
    exact ⟨b, t, hb, ht, hs, ho⟩
theorem sl_of {v : Value} (h : Sl (Pl encC) size w v css) (hl : css.length = xs.length) (hr : ∀ k (h1 : k < css.length) (h2 : k < xs.length), R w css[k].val xs[k]) : Sl R size w v xs := by
  obtain ⟨A, c, rfl, h1, h2, h3⟩ := h
  refine ⟨A, c, by rw [hl], by omega, h2, fun k hk => ?_⟩
  obtain ⟨b, o, cs, hA, hb, hcs, hc, hp⟩ := h3 k (by omega)
  unfold Pl encC at hp
  subst hp
  exact ⟨b, o, _, hA, hb, hcs, hc, hr k (by omega) hk⟩
theorem Els.fin {e : Nat} {v : Value} (h : Els R base w s css xs) (own : Own encC e size base w v css) : Ow base w.heap.size w fun w' => Sl R size w' v xs := by
  intro w' h1 h2
  refine sl_of ((own.ow w' h1 h2).sl encC_len) h.1 fun k h3 h4 => ?_
  obtain ⟨b, t, hb, ht, hs, ho⟩ := h.2 k h3 h4
  exact ho w' h1 fun i hi1 hi2 => h2 i (by omega) (by omega)
end
theorem VA.inj {α : Type} {R : Rd α} {w : World} {cs : List Value} {x : α} (h : VA R w (.agg cs.toArray) x) : R w cs x := by
  obtain ⟨cs', h1, h2⟩ := h
  injection h1 with h1
  have : cs = cs' := by
    have := congrArg Array.toList h1
    simpa using this
  rw [this]
  exact h2
theorem fold_fill_go : ∀ (cs : List Value) (Z : Array Value) (k : Nat), k + cs.length = Z.size → (cs.zipIdx k).foldl (fun (a : Array Value) (x : Value × Nat) => a.setIfInBounds x.snd x.fst) Z = (Z.toList.take k ++ cs).toArray
  | [], Z, k, h => by
    simp only [List.zipIdx_nil, List.foldl_nil, List.append_nil]
    rw [List.take_of_length_le (by simpa using Nat.le_of_eq h.symm)]
  | c :: cs, Z, k, h => by
    rw [List.length_cons] at h
    rw [List.zipIdx_cons, List.foldl_cons, fold_fill_go cs _ (k + 1) (by simp; omega)]
    congr 1
    have hk : k < Z.toList.length := by simp; omega
    have e : (Z.setIfInBounds k c).toList = Z.toList.set k c := by simp
    rw [e, List.take_succ_eq_append_getElem (by rw [List.length_set]; exact hk), List.take_set_of_le (Nat.le_refl _), List.getElem_set_self]
    simp
theorem fold_fill (Z : Array Value) (cs : List Value) (h : cs.length = Z.size) : cs.zipIdx.foldl (fun (a : Array Value) (x : Value × Nat) => a.setIfInBounds x.snd x.fst) Z = cs.toArray := by
  rw [fold_fill_go cs Z 0 (by omega)]
  simp
/-- the length of a list -/
def lenK (n : Int) : Ps Nat := fun l => if n < 0 ∨ (l.length : Int) < n then none else some (n.toNat, l)
theorem lenP_eq : lenP = bindP intP lenK := by
  funext l
  cases l with
  | nil => rfl
  | cons n l => rfl
theorem SpecP.lenBad {n : Int} {l l1 l2 : List Int} {bad b1 : Bool} (x : Nat) (h : SpecP intP l bad n l1 b1) (hn : n < 0 ∨ (l1.length : Int) < n) : SpecP lenP l bad x l2 true := by
  rw [lenP_eq]
  refine h.bind ?_
  unfold SpecP lenK
  cases b1 with
  | true => simp
  | false => simp [hn]
theorem SpecP.lenOk {n : Int} {l l1 : List Int} {bad b1 : Bool} (h : SpecP intP l bad n l1 b1) (hn : ¬ (n < 0 ∨ (l1.length : Int) < n)) : SpecP lenP l bad n.toNat l1 b1 := by
  rw [lenP_eq]
  refine h.bind ?_
  unfold SpecP lenK
  cases b1 with
  | true => simp
  | false => simp [hn]
theorem loopP_none {α : Type} {P : Ps α} {l : List Int} {k : Nat} (h : loopP P k l = none) : ∀ d, loopP P (k + d) l = none
  | 0 => h
  | d + 1 => by
    rw [← Nat.add_assoc, loopP_snoc]
    unfold bindP
    rw [loopP_none h d]
theorem SpecP.early {α : Type} {P : Ps α} {l l' : List Int} {bad : Bool} {k n : Nat} {xs : List α} (h : SpecP (loopP P k) l bad xs l' true) (hkn : k ≤ n) : SpecP (loopP P n) l bad xs l' true := by
  unfold SpecP at *
  cases bad with
  | true => simp
  | false =>
    simp only [Bool.false_eq_true, if_false] at h ⊢
    cases h1 : loopP P k l with
    | some q => rw [h1] at h; exact absurd h.1 (by simp)
    | none =>
      have := loopP_none h1 (n - k)
      rw [show k + (n - k) = n by omega] at this
      rw [this]
      trivial
theorem SpecP.bad {α : Type} (P : Ps α) (l l' : List Int) (x : α) : SpecP P l true x l' true := by unfold SpecP; simp
end Go.Proofs.Ytmeafoakbkjifaa
