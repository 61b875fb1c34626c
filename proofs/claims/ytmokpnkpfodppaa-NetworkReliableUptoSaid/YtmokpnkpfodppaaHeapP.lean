
/-
Heaps of copies in flight: plain facts.
-/
import Derived.Test.YtmokpnkpfodppaaHeapQ2
namespace Go.Proofs.Ytmokpnkpfodppaa
set_option linter.unusedSimpArgs false
set_option linter.unusedVariables false

/-- the heap's sift towards the root -/
def upL : Nat → List Par → Nat → List Par
  | 0, l, _ => l
  | f + 1, l, j => if j = 0 then l else if ltP (l.getD j default) (l.getD ((j - 1) / 2) default) then upL f (swapL l ((j - 1) / 2) j) ((j - 1) / 2) else l
/-- the child that comes first -/
def kidJ (l : List Par) (i n : Nat) : Nat := if 2 * i + 1 + 1 < n then (if ltP (l.getD (2 * i + 1 + 1) default) (l.getD (2 * i + 1) default) then 2 * i + 1 + 1 else 2 * i + 1) else 2 * i + 1
/-- .. away from it -/
def downL : Nat → List Par → Nat → Nat → List Par
  | 0, l, _, _ => l
  | f + 1, l, i, n => if n ≤ 2 * i + 1 then l else if ltP (l.getD (kidJ l i n) default) (l.getD i default) then downL f (swapL l i (kidJ l i n)) (kidJ l i n) n else l
theorem kidJ_cases (l : List Par) (i n : Nat) (h : 2 * i + 1 < n) : (kidJ l i n = 2 * i + 1 ∨ kidJ l i n = 2 * i + 1 + 1) ∧ kidJ l i n < n := by
  unfold kidJ
  split
  · split <;> omega
  · omega
theorem upL_len : ∀ (f : Nat) (l : List Par) (j : Nat), (upL f l j).length = l.length
  | 0, _, _ => rfl
  | f + 1, l, j => by
    rw [upL]
    split
    · rfl
    · split
      · rw [upL_len f, swapL_len]
      · rfl
theorem downL_len : ∀ (f : Nat) (l : List Par) (i n : Nat), (downL f l i n).length = l.length
  | 0, _, _, _ => rfl
  | f + 1, l, i, n => by
    rw [downL]
    split
    · rfl
    · split
      · rw [downL_len f, swapL_len]
      · rfl

theorem ltP_iff (p q : Par) : ltP p q = true ↔ (p.due < q.due ∨ p.due = q.due ∧ p.num < q.num) := by simp [ltP]
theorem ltP_not (p q : Par) : ltP p q = false ↔ ¬ (p.due < q.due ∨ p.due = q.due ∧ p.num < q.num) := by simp only [ltP, decide_eq_false_iff_not]
theorem ltP_asymm {p q : Par} (h : ltP p q = true) : ltP q p = false := by
  rw [ltP_iff] at h
  rw [ltP_not]
  omega
theorem ltP_le_trans {p q r : Par} (h1 : ltP q p = false) (h2 : ltP r q = false) : ltP r p = false := by
  rw [ltP_not] at *
  omega
theorem ltP_lt_le {p q r : Par} (h1 : ltP p q = true) (h2 : ltP r q = false) : ltP r p = false := ltP_le_trans (ltP_asymm h1) h2
theorem ltP_trans {p q r : Par} (h1 : ltP p q = true) (h2 : ltP q r = true) : ltP p r = true := by
  rw [ltP_iff] at *
  omega
theorem ltP_irrefl (p : Par) : ltP p p = false := by
  rw [ltP_not]
  omega
theorem ltP_tri {p q : Par} (h : p.num ≠ q.num) (h1 : ltP p q = false) : ltP q p = true := by
  rw [ltP_not] at h1
  rw [ltP_iff]
  omega

abbrev gt (l : List Par) (i : Nat) : Par := l.getD i default
theorem gt_swap (l : List Par) (a b k : Nat) (ha : a < l.length) (hb : b < l.length) : gt (swapL l a b) k = if k = b then gt l a else if k = a then gt l b else gt l k := by
  unfold gt swapL
  by_cases h1 : k = b
  · subst h1
    rw [if_pos rfl]
    simp [List.getD, hb]
  · rw [if_neg h1]
    by_cases h2 : k = a
    · subst h2
      rw [if_pos rfl]
      have : ¬ b = k := fun e => h1 e.symm
      simp [List.getD, List.getElem?_set, ha, this]
    · rw [if_neg h2]
      have e1 : ¬ b = k := fun e => h1 e.symm
      have e2 : ¬ a = k := fun e => h2 e.symm
      simp [List.getD, List.getElem?_set, e1, e2]
instance : DecidableEq Par := fun a b => by
  cases a; cases b
  simp only [Par.mk.injEq]
  infer_instance
theorem count_set_add {α : Type} [BEq α] [LawfulBEq α] : ∀ (l : List α) (i : Nat) (x a : α) (h : i < l.length), (l.set i x).count a + (if l[i] == a then 1 else 0) = l.count a + (if x == a then 1 else 0)
  | [], i, _, _, h => absurd h (by simp)
  | y :: l, 0, x, a, h => by
    rw [List.set_cons_zero, List.count_cons, List.count_cons]
    simp only [List.getElem_cons_zero]
    omega
  | y :: l, i + 1, x, a, h => by
    have ih := count_set_add l i x a (by simpa using h)
    rw [List.set_cons_succ, List.count_cons, List.count_cons]
    simp only [List.getElem_cons_succ]
    omega
theorem swapL_perm (l : List Par) (i j : Nat) (hi : i < l.length) (hj : j < l.length) : (swapL l i j).Perm l := by
  rw [List.perm_iff_count]
  intro a
  have h1 := count_set_add l i (l.getD j default) a hi
  have h2 := count_set_add (l.set i (l.getD j default)) j (l.getD i default) a (by simpa using hj)
  have e1 : l.getD i default = l[i] := by simp [List.getD, hi]
  have e2 : l.getD j default = l[j] := by simp [List.getD, hj]
  have e3 : (l.set i (l.getD j default))[j]'(by simpa using hj) = l[j] := by
    rw [List.getElem_set]
    split
    · rw [e2]
    · rfl
  rw [e3] at h2
  rw [← e2] at h2
  rw [← e1] at h1
  show List.count a ((l.set i (l.getD j default)).set j (l.getD i default)) = _
  generalize (if (l.getD i default == a) = true then 1 else 0) = u at *
  generalize (if (l.getD j default == a) = true then 1 else 0) = v at *
  omega
theorem upL_perm : ∀ (f : Nat) (l : List Par) (j : Nat), j < l.length → (upL f l j).Perm l
  | 0, l, _, _ => List.Perm.refl _
  | f + 1, l, j, h => by
    rw [upL]
    split
    · exact List.Perm.refl _
    · split
      · exact (upL_perm f _ _ (by rw [swapL_len]; omega)).trans (swapL_perm l _ _ (by omega) h)
      · exact List.Perm.refl _
theorem downL_perm : ∀ (f : Nat) (l : List Par) (i n : Nat), n ≤ l.length → i < l.length → (downL f l i n).Perm l
  | 0, l, _, _, _, _ => List.Perm.refl _
  | f + 1, l, i, n, h, hi => by
    rw [downL]
    split
    · exact List.Perm.refl _
    · rename_i h2
      obtain ⟨-, hk⟩ := kidJ_cases l i n (by omega)
      split
      · exact (downL_perm f _ _ n (by rw [swapL_len]; exact h) (by rw [swapL_len]; omega)).trans (swapL_perm l _ _ hi (by omega))
      · exact List.Perm.refl _

/-- the first n are a heap -/
def HeapN (l : List Par) (n : Nat) : Prop := ∀ i, 0 < i → i < n → ltP (gt l i) (gt l ((i - 1) / 2)) = false
theorem heap_min {l : List Par} {n : Nat} (h : HeapN l n) : ∀ k, k < n → ltP (gt l k) (gt l 0) = false := by
  intro k
  induction k using Nat.strongRecOn with
  | ind k ih =>
    intro hk
    by_cases h0 : k = 0
    · subst h0
      exact ltP_irrefl _
    · exact ltP_le_trans (ih ((k - 1) / 2) (by omega) (by omega)) (h k (by omega) hk)
theorem up_heap : ∀ (f : Nat) (l : List Par) (j : Nat), j < f → j < l.length →
    (∀ i, 0 < i → i < l.length → i ≠ j → ltP (gt l i) (gt l ((i - 1) / 2)) = false) →
    (∀ i, 0 < i → i < l.length → (i - 1) / 2 = j → 0 < j → ltP (gt l i) (gt l ((j - 1) / 2)) = false) → HeapN (upL f l j) l.length
  | 0, _, j, h, _, _, _ => by omega
  | f + 1, l, j, hf, hj, h1, h2 => by
    rw [upL]
    by_cases h0 : j = 0
    · rw [if_pos h0]
      intro i hi1 hi2
      exact h1 i hi1 hi2 (by omega)
    · rw [if_neg h0]
      by_cases hlt : ltP (gt l j) (gt l ((j - 1) / 2)) = true
      · rw [if_pos hlt]
        have hp : (j - 1) / 2 < l.length := by omega
        have key := fun k => gt_swap l ((j - 1) / 2) j k hp hj
        have := up_heap f (swapL l ((j - 1) / 2) j) ((j - 1) / 2) (by omega) (by rw [swapL_len]; omega) ?_ ?_
        · rwa [swapL_len] at this
        · intro i hi1 hi2 hne
          rw [swapL_len] at hi2
          rw [key i, key ((i - 1) / 2)]
          by_cases e : i = j
          · subst e
            rw [if_pos rfl, if_neg (by omega), if_pos rfl]
            exact ltP_asymm hlt
          · rw [if_neg e, if_neg hne]
            by_cases e1 : (i - 1) / 2 = j
            · rw [if_pos e1]
              exact h2 i hi1 hi2 e1 (by omega)
            · rw [if_neg e1]
              by_cases e2 : (i - 1) / 2 = (j - 1) / 2
              · rw [if_pos e2]
                exact ltP_lt_le hlt (by rw [← e2]; exact h1 i hi1 hi2 e)
              · rw [if_neg e2]
                exact h1 i hi1 hi2 e
        · intro i hi1 hi2 hpi hp0
          rw [swapL_len] at hi2
          rw [key i, key (((j - 1) / 2 - 1) / 2)]
          rw [if_neg (c := ((j - 1) / 2 - 1) / 2 = j) (by omega), if_neg (c := ((j - 1) / 2 - 1) / 2 = (j - 1) / 2) (by omega)]
          have hpp := h1 ((j - 1) / 2) hp0 hp (by omega)
          by_cases e : i = j
          · rw [if_pos e]
            exact hpp
          · rw [if_neg e, if_neg (by omega)]
            have hi' := h1 i hi1 hi2 e
            rw [hpi] at hi'
            exact ltP_le_trans hpp hi'
      · rw [if_neg hlt]
        intro i hi1 hi2
        by_cases e : i = j
        · subst e
          simpa using hlt
        · exact h1 i hi1 hi2 e
theorem down_heap : ∀ (f : Nat) (l : List Par) (i n : Nat), n ≤ i + f → n ≤ l.length → i < l.length → 
    (∀ k, 0 < k → k < n → (k - 1) / 2 ≠ i → ltP (gt l k) (gt l ((k - 1) / 2)) = false) →
    (0 < i → ∀ k, 0 < k → k < n → (k - 1) / 2 = i → ltP (gt l k) (gt l ((i - 1) / 2)) = false) → HeapN (downL f l i n) n
  | 0, l, i, n, hf, hn, hi, h1, h2 => by
    intro k hk1 hk2
    exact h1 k hk1 hk2 (by omega)
  | f + 1, l, i, n, hf, hn, hi, h1, h2 => by
    rw [downL]
    by_cases h0 : n ≤ 2 * i + 1
    · rw [if_pos h0]
      intro k hk1 hk2
      exact h1 k hk1 hk2 (by omega)
    · rw [if_neg h0]
      obtain ⟨hc, hkn⟩ := kidJ_cases l i n (by omega)
      have hmin : ∀ k, 0 < k → k < n → (k - 1) / 2 = i → ltP (gt l k) (gt l (kidJ l i n)) = false := by
        intro k hk1 hk2 hk3
        have hk4 : k = 2 * i + 1 ∨ k = 2 * i + 1 + 1 := by omega
        unfold kidJ
        split
        · split
          · rename_i h5
            rcases hk4 with rfl | rfl
            · exact ltP_asymm h5
            · exact ltP_irrefl _
          · rename_i h5
            rcases hk4 with rfl | rfl
            · exact ltP_irrefl _
            · simpa using h5
        · rcases hk4 with rfl | rfl
          · exact ltP_irrefl _
          · omega
      have hpk : (kidJ l i n - 1) / 2 = i := by omega
      have hjl : kidJ l i n < l.length := by omega
      generalize kidJ l i n = j at *
      by_cases hlt : ltP (gt l j) (gt l i) = true
      · rw [if_pos hlt]
        have key := fun k => gt_swap l i j k hi hjl
        refine down_heap f (swapL l i j) j n (by omega) (by rw [swapL_len]; exact hn) (by rw [swapL_len]; exact hjl) ?_ ?_
        · intro k hk1 hk2 hk3
          rw [key k, key ((k - 1) / 2), if_neg hk3]
          by_cases e : k = j
          · subst e
            rw [if_pos rfl, if_pos hpk]
            exact ltP_asymm hlt
          · rw [if_neg e]
            by_cases e2 : k = i
            · subst e2
              rw [if_pos rfl, if_neg (by omega)]
              exact h2 hk1 j (by omega) hkn hpk
            · rw [if_neg e2]
              by_cases e3 : (k - 1) / 2 = i
              · rw [if_pos e3]
                exact hmin k hk1 hk2 e3
              · rw [if_neg e3]
                exact h1 k hk1 hk2 e3
        · intro hj0 k hk1 hk2 hk3
          rw [key k, key ((j - 1) / 2), hpk, if_neg (c := i = j) (by omega), if_pos rfl, if_neg (by omega), if_neg (by omega)]
          have := h1 k hk1 hk2 (by omega)
          rwa [hk3] at this
      · rw [if_neg hlt]
        intro k hk1 hk2
        by_cases e : (k - 1) / 2 = i
        · rw [e]
          exact ltP_le_trans (by simpa using hlt) (hmin k hk1 hk2 e)
        · exact h1 k hk1 hk2 e
theorem downL_gt : ∀ (f : Nat) (l : List Par) (i n k : Nat), n ≤ l.length → i < n → n ≤ k → gt (downL f l i n) k = gt l k
  | 0, _, _, _, _, _, _, _ => rfl
  | f + 1, l, i, n, k, hn, hi, hk => by
    rw [downL]
    split
    · rfl
    · rename_i h0
      obtain ⟨-, hkn⟩ := kidJ_cases l i n (by omega)
      split
      · rw [downL_gt f _ _ n k (by rw [swapL_len]; exact hn) hkn hk, gt_swap l i _ k (by omega) (by omega), if_neg (by omega), if_neg (by omega)]
      · rfl

/-! the list in order -/
def SortP (S : List Par) : Prop := S.Pairwise fun p q => ltP p q = true
def insP (p : Par) : List Par → List Par
  | [] => [p]
  | q :: S => if ltP p q then p :: q :: S else q :: insP p S
theorem insP_perm (p : Par) : ∀ S, (insP p S).Perm (p :: S)
  | [] => List.Perm.refl _
  | q :: S => by
    rw [insP]
    split
    · exact List.Perm.refl _
    · exact ((insP_perm p S).cons q).trans (List.Perm.swap p q S)
theorem insP_mem (p q : Par) (S : List Par) : q ∈ insP p S ↔ q = p ∨ q ∈ S := by
  rw [(insP_perm p S).mem_iff, List.mem_cons]
theorem insP_sort (p : Par) : ∀ S, SortP S → (∀ q ∈ S, p.num ≠ q.num) → SortP (insP p S)
  | [], _, _ => List.pairwise_singleton _ _
  | q :: S, h, hn => by
    obtain ⟨h1, h2⟩ := List.pairwise_cons.1 h
    rw [insP]
    split
    · rename_i hlt
      refine List.pairwise_cons.2 ⟨fun x hx => ?_, h⟩
      rcases List.mem_cons.1 hx with rfl | hx
      · exact hlt
      · exact ltP_trans hlt (h1 x hx)
    · rename_i hlt
      refine List.pairwise_cons.2 ⟨fun x hx => ?_, insP_sort p S h2 fun y hy => hn y (by simp [hy])⟩
      rcases (insP_mem p x S).1 hx with rfl | hx
      · exact ltP_tri (hn q (by simp)) (by simpa using hlt)
      · exact h1 x hx
/-- a heap of what is in order -/
structure HeapOf (Q S : List Par) : Prop where
  heap : HeapN Q Q.length
  perm : Q.Perm S
  sort : SortP S
theorem heap_nil : HeapOf [] [] := ⟨fun _ _ h => absurd h (by simp), List.Perm.refl _, List.Pairwise.nil⟩
theorem heap_push {Q S : List Par} {p : Par} (h : HeapOf Q S) (hn : ∀ q ∈ S, p.num ≠ q.num) : HeapOf (upL (Q.length + 1) (Q ++ [p]) Q.length) (insP p S) := by
  refine ⟨?_, ?_, insP_sort p S h.sort hn⟩
  · rw [upL_len]
    refine up_heap _ _ _ (by omega) (by simp) ?_ ?_
    · intro i h1 h2 h3
      have h4 : i < Q.length := by simp at h2; omega
      have := h.heap i h1 h4
      have e1 : gt (Q ++ [p]) i = gt Q i := by simp [gt, List.getD, List.getElem?_append_left h4]
      have e2 : gt (Q ++ [p]) ((i - 1) / 2) = gt Q ((i - 1) / 2) := by
        have : (i - 1) / 2 < Q.length := by omega
        simp [gt, List.getD, List.getElem?_append_left this]
      rw [e1, e2]
      exact this
    · intro i h1 h2 h3 h4
      simp at h2
      omega
  · refine (upL_perm _ _ _ (by simp)).trans (List.Perm.trans ?_ (insP_perm p S).symm)
    exact (List.perm_append_comm).trans (h.perm.cons p)
theorem heap_first {Q S : List Par} {s : Par} (h : HeapOf Q (s :: S)) : gt Q 0 = s := by
  have hl : 0 < Q.length := by rw [h.perm.length_eq]; simp
  obtain ⟨h1, -⟩ := List.pairwise_cons.1 h.sort
  have hm : s ∈ Q := h.perm.mem_iff.2 (by simp)
  obtain ⟨k, hk, e⟩ := List.getElem_of_mem hm
  have hs : gt Q k = s := by simp [gt, List.getD, hk, e]
  have h2 := heap_min h.heap k hk
  rw [hs] at h2
  have h3 : gt Q 0 ∈ s :: S := by
    rw [← h.perm.mem_iff]
    have : gt Q 0 = Q[0] := by simp [gt, List.getD, hl]
    rw [this]
    exact List.getElem_mem hl
  rcases List.mem_cons.1 h3 with h4 | h4
  · exact h4
  · rw [h1 _ h4] at h2
    cases h2
theorem take_gt {l : List Par} {n i : Nat} (h : i < n) : gt (l.take n) i = gt l i := by
  simp [gt, List.getD, List.getElem?_take, h]
theorem heap_pop {Q S : List Par} {s : Par} (h : HeapOf Q (s :: S)) (n : Nat) (hn : n + 1 = Q.length) :
    gt (downL (n + 1) (swapL Q 0 n) 0 n) n = s ∧ HeapOf ((downL (n + 1) (swapL Q 0 n) 0 n).take n) S := by
  have h0 := heap_first h
  have hl : 0 < Q.length := by omega
  have key := fun k => gt_swap Q 0 n k hl (by omega)
  have hg : gt (downL (n + 1) (swapL Q 0 n) 0 n) n = s := by
    by_cases hn0 : n = 0
    · subst hn0
      rw [downL, if_pos (by omega), key 0, if_pos rfl, h0]
    · rw [downL_gt _ _ _ _ _ (by rw [swapL_len]; omega) (by omega) (Nat.le_refl _), key n, if_pos rfl, h0]
  have hp : (downL (n + 1) (swapL Q 0 n) 0 n).Perm Q := (downL_perm _ _ _ _ (by rw [swapL_len]; omega) (by rw [swapL_len]; omega)).trans (swapL_perm Q 0 n hl (by omega))
  have hlen : (downL (n + 1) (swapL Q 0 n) 0 n).length = n + 1 := by rw [downL_len, swapL_len]; omega
  have hH : HeapN (downL (n + 1) (swapL Q 0 n) 0 n) n := by
    refine down_heap _ _ _ _ (by omega) (by rw [swapL_len]; omega) (by rw [swapL_len]; omega) ?_ (fun h => by omega)
    intro k h1 h2 h3
    rw [key k, key ((k - 1) / 2), if_neg (by omega), if_neg (by omega), if_neg (by omega), if_neg h3]
    exact h.heap k h1 (by omega)
  generalize downL (n + 1) (swapL Q 0 n) 0 n = D at *
  refine ⟨hg, ?_, ?_, (List.pairwise_cons.1 h.sort).2⟩
  · intro i h1 h2
    have h3 : i < n := by rw [List.length_take] at h2; omega
    rw [take_gt h3, take_gt (by omega)]
    exact hH i h1 h3
  · have e : D = D.take n ++ [s] := by
      have hD : D[n]'(by omega) = s := by rw [← hg]; simp [gt, List.getD, hlen]
      have := List.take_append_getElem (l := D) (i := n) (h := by omega)
      rw [hD] at this
      rw [this, List.take_of_length_le (by omega)]
    have h5 : (D.take n ++ [s]).Perm (s :: S) := by rw [← e]; exact hp.trans h.perm
    exact (List.Perm.cons_inv (a := s) ((List.perm_append_comm (l₁ := [s])).trans h5))
end Go.Proofs.Ytmokpnkpfodppaa
