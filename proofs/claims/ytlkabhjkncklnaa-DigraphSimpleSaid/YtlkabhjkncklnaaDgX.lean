
/-
Graphs: the first path is there exactly if the vertex can be reached: plain facts.
-/
import Derived.Test.YtlkabhjkncklnaaDgP
namespace Go.Proofs.Ytlkabhjkncklnaa
set_option linter.unusedSimpArgs false
set_option linter.unusedVariables false
open Go.RowKit

/-- what can be reached, by edges or none -/
inductive Rs (n : Nat) (es : List Bool) (a : Nat) : Nat → Prop
  | refl : Rs n es a a
  | step {b c : Nat} : Rs n es a b → c < n → hasE n es b c = true → Rs n es a c
def seenB (s : List Bool) (v : Nat) : Prop := s.getD v false = true
theorem seen_set {s : List Bool} {k : Nat} (hk : k < s.length) (v : Nat) : seenB (s.set k true) v ↔ seenB s v ∨ v = k := by
  unfold seenB
  rw [List.getD_eq_getElem?_getD, List.getD_eq_getElem?_getD, List.getElem?_set]
  by_cases h : k = v
  · subst h
    simp [hk]
  · have : ¬ v = k := fun e => h e.symm
    simp [h, this]
theorem not_seen {s : List Bool} {k : Nat} (hk : k < s.length) : s.getD k true = false ↔ ¬ seenB s k := by
  unfold seenB
  simp [List.getD, List.getElem?_eq_getElem hk]
/-- a row of the search -/
theorem row_facts (n : Nat) (es : List Bool) (l : List Nat) (seen : List Bool) (q : List (List Nat)) (hs : seen.length = n) : ∀ k, k ≤ n →
    (bfsRow n es l (seen, q) k).1.length = n ∧ (∀ v, seenB (bfsRow n es l (seen, q) k).1 v ↔ seenB seen v ∨ (v < k ∧ hasE n es (l.getLastD 0) v = true)) ∧
    (∀ x ∈ q, x ∈ (bfsRow n es l (seen, q) k).2) ∧ (∀ v, seenB (bfsRow n es l (seen, q) k).1 v → seenB seen v ∨ ∃ x ∈ (bfsRow n es l (seen, q) k).2, x.getLastD 0 = v) ∧
    (∀ x ∈ (bfsRow n es l (seen, q) k).2, x ∈ q ∨ ∃ c, c < k ∧ x = l ++ [c] ∧ hasE n es (l.getLastD 0) c = true)
  | 0, _ => ⟨hs, fun v => ⟨.inl, fun h => h.resolve_right fun h => by omega⟩, fun x hx => hx, fun v h => .inl h, fun x hx => .inl hx⟩
  | k + 1, hk => by
    obtain ⟨a1, a2, a3, a4, a5⟩ := row_facts n es l seen q hs k (by omega)
    rw [bfsRow_succ]
    generalize bfsRow n es l (seen, q) k = p at *
    obtain ⟨s, q'⟩ := p
    dsimp only at a1 a2 a3 a4 a5
    unfold bfsIn
    dsimp only
    have hkl : k < s.length := by omega
    split
    · rename_i hc
      dsimp only
      refine ⟨by rw [List.length_set]; exact a1, fun v => ?_, fun x hx => List.mem_append_left _ (a3 x hx), fun v h => ?_, fun x hx => ?_⟩
      · rw [seen_set hkl, a2]
        constructor
        · rintro ((h | ⟨h, h'⟩) | rfl)
          · exact .inl h
          · exact .inr ⟨by omega, h'⟩
          · exact .inr ⟨by omega, hc.1⟩
        · rintro (h | ⟨h, h'⟩)
          · exact .inl (.inl h)
          · by_cases e : v = k
            · exact .inr e
            · exact .inl (.inr ⟨by omega, h'⟩)
      · rcases (seen_set hkl v).1 h with h | rfl
        · rcases a4 v h with h | ⟨x, hx, e⟩
          · exact .inl h
          · exact .inr ⟨x, List.mem_append_left _ hx, e⟩
        · exact .inr ⟨l ++ [v], List.mem_append_right _ (by simp), by simp⟩
      · rcases List.mem_append.1 hx with hx | hx
        · rcases a5 x hx with h | ⟨c, h1, h2⟩
          · exact .inl h
          · exact .inr ⟨c, by omega, h2⟩
        · simp only [List.mem_singleton] at hx
          exact .inr ⟨k, by omega, hx, hc.1⟩
    · rename_i hc
      refine ⟨a1, fun v => ?_, a3, a4, fun x hx => ?_⟩
      · rw [a2]
        constructor
        · rintro (h | ⟨h, h'⟩)
          · exact .inl h
          · exact .inr ⟨by omega, h'⟩
        · rintro (h | ⟨h, h'⟩)
          · exact .inl h
          · by_cases e : v = k
            · subst e
              have h2 : seenB s v := Classical.byContradiction fun hn => hc ⟨h', (not_seen hkl).2 hn⟩
              exact (a2 v).1 h2
            · exact .inr ⟨by omega, h'⟩
      · rcases a5 x hx with h | ⟨c, h1, h2⟩
        · exact .inl h
        · exact .inr ⟨c, by omega, h2⟩
structure BInv (n : Nat) (es : List Bool) (a t : Nat) (seen : List Bool) (q : List (List Nat)) : Prop where
  start : seenB seen a
  sound : ∀ v, seenB seen v → Rs n es a v
  last : ∀ l ∈ q, seenB seen (l.getLastD 0)
  closed : ∀ v, seenB seen v → (v ≠ t ∧ ∀ c, c < n → hasE n es v c = true → seenB seen c) ∨ ∃ l ∈ q, l.getLastD 0 = v
theorem bfs_complete (n : Nat) (es : List Bool) (a t : Nat) : ∀ (g : Nat) (seen : List Bool) (q : List (List Nat)), BInv n es a t seen q → BfsI n g seen q → bfs n es t g seen q = [] → ¬ Rs n es a t
  | g, seen, [], h, _, _ => by
    have hall : ∀ v, Rs n es a v → seenB seen v := fun v hv => by
      induction hv with
      | refl => exact h.start
      | step _ h2 h3 ih =>
        rcases h.closed _ ih with h4 | ⟨l, hl, -⟩
        · exact h4.2 _ h2 h3
        · simp at hl
    intro ht
    rcases h.closed t (hall t ht) with h4 | ⟨l, hl, -⟩
    · exact h4.1 rfl
    · simp at hl
  | 0, seen, l :: q, h, hi, _ => by
    have := hi.pot
    simp at this
  | g + 1, seen, l :: q, h, hi, he => by
    unfold bfs at he
    split at he
    · exact absurd he (hi.els l (List.mem_cons_self ..)).1
    · rename_i hne
      have hr := BfsI.row (es := es) hi n (Nat.le_refl _)
      obtain ⟨b1, b2, b3, b4, b5⟩ := row_facts n es l seen q hi.len n (Nat.le_refl _)
      refine bfs_complete n es a t g _ _ ⟨(b2 a).2 (.inl h.start), fun v hv => ?_, fun x hx => ?_, fun v hv => ?_⟩ hr he
      · rcases (b2 v).1 hv with hv | ⟨h1, h2⟩
        · exact h.sound v hv
        · exact .step (h.sound _ (h.last l (List.mem_cons_self ..))) h1 h2
      · rcases b5 x hx with hx | ⟨c, h1, rfl, h2⟩
        · exact (b2 _).2 (.inl (h.last x (List.mem_cons_of_mem _ hx)))
        · rw [show (l ++ [c]).getLastD 0 = c by simp]
          exact (b2 _).2 (.inr ⟨h1, h2⟩)
      · rcases b4 v hv with hv | ⟨x, hx, e⟩
        · rcases h.closed v hv with ⟨h1, h2⟩ | ⟨x, hx, e⟩
          · exact .inl ⟨h1, fun c hc hec => (b2 c).2 (.inl (h2 c hc hec))⟩
          · rcases List.mem_cons.1 hx with rfl | hx
            · subst e
              exact .inl ⟨hne, fun c hc hec => (b2 c).2 (.inr ⟨hc, hec⟩)⟩
            · exact .inr ⟨x, b3 x hx, e⟩
        · exact .inr ⟨x, hx, e⟩
/-- a walk along edges -/
def Walk (n : Nat) (es : List Bool) : List Nat → Prop
  | [] => True
  | [_] => True
  | a :: b :: r => (b < n ∧ hasE n es a b = true) ∧ Walk n es (b :: r)
theorem walk_snoc (n : Nat) (es : List Bool) (c : Nat) : ∀ l : List Nat, l ≠ [] → Walk n es l → c < n → hasE n es (l.getLastD 0) c = true → Walk n es (l ++ [c])
  | [], h, _, _, _ => absurd rfl h
  | [x], _, _, h1, h2 => ⟨⟨h1, h2⟩, trivial⟩
  | x :: y :: r, _, hw, h1, h2 => ⟨hw.1, walk_snoc n es c (y :: r) (by simp) hw.2 h1 (by simpa using h2)⟩
theorem bfs_sound (n : Nat) (es : List Bool) (a t : Nat) : ∀ (g : Nat) (seen : List Bool) (q : List (List Nat)), BfsI n g seen q → (∀ l ∈ q, l.head? = some a ∧ Walk n es l) → bfs n es t g seen q ≠ [] →
    (bfs n es t g seen q).head? = some a ∧ Walk n es (bfs n es t g seen q) ∧ (bfs n es t g seen q).getLastD 0 = t ∧ (bfs n es t g seen q).length ≤ n
  | g, seen, [], _, _, he => absurd (bfs_nil n es t g seen) he
  | 0, seen, l :: q, hi, _, _ => by
    have := hi.pot
    simp at this
  | g + 1, seen, l :: q, hi, hq, he => by
    unfold bfs at he ⊢
    split
    · rename_i ht
      have := (hi.els l (List.mem_cons_self ..)).2.2
      exact ⟨(hq l (List.mem_cons_self ..)).1, (hq l (List.mem_cons_self ..)).2, ht, by omega⟩
    · rename_i hne
      rw [if_neg hne] at he
      have hr := BfsI.row (es := es) hi n (Nat.le_refl _)
      obtain ⟨b1, b2, b3, b4, b5⟩ := row_facts n es l seen q hi.len n (Nat.le_refl _)
      refine bfs_sound n es a t g _ _ hr (fun x hx => ?_) he
      rcases b5 x hx with hx | ⟨c, h1, rfl, h2⟩
      · exact hq x (List.mem_cons_of_mem _ hx)
      · obtain ⟨h3, h4⟩ := hq l (List.mem_cons_self ..)
        have hl : l ≠ [] := (hi.els l (List.mem_cons_self ..)).1
        refine ⟨?_, walk_snoc n es c l hl h4 h1 h2⟩
        rw [List.head?_append, h3]
        rfl
theorem path_some {n : Nat} {es : List Bool} {a t : Nat} (ha : a < n) (h : pathF n es a t ≠ []) : (pathF n es a t).head? = some a ∧ Walk n es (pathF n es a t) ∧ (pathF n es a t).getLastD 0 = t ∧ (pathF n es a t).length ≤ n :=
  bfs_sound n es a t n _ _ (BfsI.start n a ha) (fun l hl => by simp only [List.mem_singleton] at hl; subst hl; exact ⟨rfl, trivial⟩) h
theorem path_none {n : Nat} {es : List Bool} {a t : Nat} (ha : a < n) (h : pathF n es a t = []) : ¬ Rs n es a t := by
  have h0 : ∀ v, ¬ seenB (List.replicate n false) v := fun v hv => by
    unfold seenB at hv
    rw [List.getD_eq_getElem?_getD, List.getElem?_replicate] at hv
    by_cases h1 : v < n
    · rw [if_pos h1] at hv
      cases hv
    · rw [if_neg h1] at hv
      cases hv
  refine bfs_complete n es a t n _ _ ⟨(seen_set (by simpa using ha) a).2 (.inr rfl), fun v hv => ?_, fun l hl => ?_, fun v hv => ?_⟩ (BfsI.start n a ha) h
  · rcases (seen_set (by simpa using ha) v).1 hv with hv | rfl
    · exact absurd hv (h0 v)
    · exact .refl
  · simp only [List.mem_singleton] at hl
    subst hl
    exact (seen_set (by simpa using ha) _).2 (.inr rfl)
  · rcases (seen_set (by simpa using ha) v).1 hv with hv | rfl
    · exact absurd hv (h0 v)
    · exact .inr ⟨[v], by simp, rfl⟩
end Go.Proofs.Ytlkabhjkncklnaa
