
/-
Two lists that belong together, and what is left of them: plain facts.
-/
import Derived.Test.YtlkabhjkncklnaaDgDf
import Derived.Test.YtlkabhjkncklnaaDgCs
namespace Go.Proofs.Ytlkabhjkncklnaa
set_option linter.unusedSimpArgs false
set_option linter.unusedVariables false
open Go.RowKit

theorem ints_inj {w : World} {v : Value} {a b : List Int} (h1 : Ints w v a) (h2 : Ints w v b) : a = b := by
  obtain ⟨A, c, rfl, -, -⟩ := h1.form
  obtain ⟨A', c', e, -, -⟩ := h2.form
  injection e with e1 e2 e3
  subst e1 e3
  refine List.ext_getElem e2 fun k hk1 hk2 => ?_
  obtain ⟨b1, o1, hA, -, i1⟩ := h1.ints hk1
  obtain ⟨b2, o2, hB, -, i2⟩ := h2.ints hk2
  rw [hA] at hB
  injection hB with hB
  injection hB with a1 a2
  subst a1 a2
  rw [i1] at i2
  injection i2 with i2
  injection i2
theorem filter_rel {α β : Type} {R : α → β → Prop} {p : α → Bool} {q : β → Bool} (hpq : ∀ r x, R r x → p r = q x) : ∀ (l : List α) (m : List β), l.length = m.length → (∀ (k : Nat) (r : α) (x : β), l[k]? = some r → m[k]? = some x → R r x) →
    (l.filter p).length = (m.filter q).length ∧ ∀ (k : Nat) (r : α) (x : β), (l.filter p)[k]? = some r → (m.filter q)[k]? = some x → R r x
  | [], [], _, _ => ⟨rfl, fun k r x h => by simp at h⟩
  | [], _ :: _, h, _ => by cases h
  | _ :: _, [], h, _ => by cases h
  | r :: l, x :: m, h, hR => by
    have h0 := hR 0 r x rfl rfl
    obtain ⟨h1, h2⟩ := filter_rel hpq l m (by simpa using h) fun k r x hr hx => hR (k + 1) r x (by simpa using hr) (by simpa using hx)
    rw [List.filter_cons, List.filter_cons, hpq r x h0]
    split
    · refine ⟨by simpa using h1, fun k r' x' hr hx => ?_⟩
      cases k with
      | zero =>
        simp only [List.getElem?_cons_zero, Option.some.injEq] at hr hx
        subst hr hx
        exact h0
      | succ k => exact h2 k r' x' (by simpa using hr) (by simpa using hx)
    · exact ⟨h1, h2⟩
/-- what an element's header stands for is struck -/
noncomputable def struckE (n k : Nat) (w : World) (r : Elm 1) : Bool := @decide (∃ x, Ints w (e0 r) (castL x) ∧ useB n x k = true) (Classical.propDecidable _)
theorem struckE_eq {n k : Nat} {w : World} {r : Elm 1} {x : List Nat} (h : Ints w (e0 r) (castL x)) : struckE n k w r = useB n x k := by
  unfold struckE
  rw [Bool.eq_iff_iff]
  constructor
  · intro h2
    obtain ⟨y, hy, h3⟩ := @of_decide_eq_true _ (Classical.propDecidable _) h2
    rw [castL_inj.1 (ints_inj h hy)]
    exact h3
  · exact fun h2 => @decide_eq_true _ (Classical.propDecidable _) ⟨x, h, h2⟩
theorem nl_elm {w : World} {S : Nat → Prop} {v : Value} {css : List (Elm 1)} {L : List (List Nat)} (h : NL rdL 28 1 S w v css L) {i : Nat} (h1 : i < css.length) (h2 : i < L.length) : Ints w (e0 css[i]) (castL L[i]) := by
  obtain ⟨T, -, ho⟩ := h.els i h1 h2
  obtain ⟨v, hv, hi⟩ := ho.here
  rw [e0_eq] at hv
  injection hv with hv
  rw [hv]
  exact hi
theorem nl_mem {w : World} {S : Nat → Prop} {v : Value} {css : List (Elm 1)} {L : List (List Nat)} (h : NL rdL 28 1 S w v css L) {r : Elm 1} (hr : r ∈ css) : ∃ x ∈ L, Ints w (e0 r) (castL x) := by
  obtain ⟨i, hi, rfl⟩ := List.getElem_of_mem hr
  have h2 : i < L.length := by rw [← h.len]; exact hi
  exact ⟨L[i], List.getElem_mem h2, nl_elm h hi h2⟩
/-- the row of what is left reads as the list of what is left -/
theorem sl_left {n k : Nat} {w w' : World} {S : Nat → Prop} {v v' : Value} {css : List (Elm 1)} {L : List (List Nat)} (h : NL rdL 28 1 S w v css L) (hk : Kp w w') (hs : Sl (Pl encC) 1 w' v' (css.filter fun r => !struckE n k w r)) : Sl rdL 1 w' v' (L.filter fun x => !useB n x k) := by
  obtain ⟨h1, h2⟩ := filter_rel (R := fun (r : Elm 1) (x : List Nat) => Ints w (e0 r) (castL x)) (p := fun r => !struckE n k w r) (q := fun x => !useB n x k) (fun r x hr => by rw [struckE_eq hr]) css L h.len fun i r x hr hx => by
    obtain ⟨i1, rfl⟩ := List.getElem?_eq_some_iff.1 hr
    obtain ⟨i2, rfl⟩ := List.getElem?_eq_some_iff.1 hx
    exact nl_elm h i1 i2
  refine sl_of hs h1 fun i i1 i2 => ?_
  exact ⟨_, e0_eq _, (h2 i _ _ (List.getElem?_eq_getElem i1) (List.getElem?_eq_getElem i2)).keep (pl_stable _) hk⟩
end Go.Proofs.Ytlkabhjkncklnaa
