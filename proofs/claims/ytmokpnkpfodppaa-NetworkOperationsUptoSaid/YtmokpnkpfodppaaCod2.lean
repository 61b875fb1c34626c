
/-
Plain facts on records: which are well-formed; reading what was written gives it back, and nothing else does. No program in sight.
-/
import Derived.Test.YtmokpnkpfodppaaRdr14
namespace Go.Proofs.Ytmokpnkpfodppaa
set_option linter.unusedSimpArgs false
set_option linter.unusedVariables false
open Go.RowKit

theorem zero_L {α : Type} {f : α → List Int} {l : List α} (h : ∀ n ∈ numL f l, n = 0) : l = [] := by
  have := h (l.length : Int) (by simp [numL])
  exact List.eq_nil_of_length_eq_zero (by omega)
theorem zero_event {e : Event} (h : ∀ n ∈ numEvent e, n = 0) : e = zE := by
  obtain ⟨a, b, c, d, x, y, ⟨p, q, r, s⟩, u, v, w⟩ := e
  simp only [numEvent, numNeed, List.mem_append, List.mem_cons, List.not_mem_nil, or_false] at h
  have hd : d = [] := zero_L (f := numI) fun n hn => h n (by simp [numIs, hn])
  subst hd
  have h1 := h a (by simp)
  have h2 := h b (by simp)
  have h3 := h c (by simp)
  have h4 := h x (by simp)
  have h5 := h y (by simp)
  have h6 := h p (by simp)
  have h7 := h q (by simp)
  have h8 := h r (by simp)
  have h9 := h s (by simp)
  have h10 := h u (by simp)
  have h11 := h v (by simp)
  have h12 := h w (by simp)
  subst h1 h2 h3 h4 h5 h6 h7 h8 h9 h10 h11 h12
  rfl
theorem zero_base {b : Base} (h : ∀ n ∈ numBase b, n = 0) : b = zB := by
  obtain ⟨c, t, s, m, r, sh, p⟩ := b
  simp only [numBase, List.mem_append, List.mem_cons, List.not_mem_nil, or_false] at h
  have hc : c = [] := zero_L (f := numI) fun n hn => h n (by simp [numIs, hn])
  have hs : s = [] := zero_L (f := numI) fun n hn => h n (by simp [numIs, hn])
  have hm : m = [] := zero_L (f := numMerged) fun n hn => h n (by simp [hn])
  have hr : r = [] := zero_L (f := numIs) fun n hn => h n (by simp [hn])
  have hh : sh = [] := zero_L (f := numL numIs) fun n hn => h n (by simp [hn])
  have hp : p = [] := zero_L (f := numI) fun n hn => h n (by simp [numIs, hn])
  have ht := h t (by simp)
  subst hc hs hm hr hh hp ht
  rfl
theorem zero_entry {e : Entry} (h : ∀ n ∈ numEntry e, n = 0) : e = zN := by
  obtain ⟨a, b, c, d, x, v⟩ := e
  simp only [numEntry, List.mem_append, List.mem_cons, List.not_mem_nil, or_false] at h
  have hd : v = [] := zero_L (f := numI) fun n hn => h n (by simp [numIs, hn])
  subst hd
  have h1 := h a (by simp)
  have h2 := h b (by simp)
  have h3 := h c (by simp)
  have h4 := h d (by simp)
  have h5 := h x (by simp)
  subst h1 h2 h3 h4 h5
  rfl
theorem zE_zero : ∀ n ∈ numEvent zE, n = 0 := by decide
theorem zB_zero : ∀ n ∈ numBase zB, n = 0 := by decide
theorem zN_zero : ∀ n ∈ numEntry zN, n = 0 := by decide
theorem formed_iff (x : Record) : formedB x = true ↔ 0 ≤ x.kind ∧ x.kind ≤ 4 ∧ ∀ n ∈ numPart x false, n = 0 := by
  unfold formedB
  simp only [Bool.and_eq_true, decide_eq_true_eq, Bool.not_eq_true', List.any_eq_false, bne_iff_ne, ne_eq, Decidable.not_not, and_assoc]
theorem formed_kinds (x : Record) : formedB x = true ↔
    (x.kind = 0 ∧ x = ⟨0, x.event, zB, 0, 0, 0, zN⟩) ∨ (x.kind = 1 ∧ x = ⟨1, zE, x.base, 0, 0, 0, zN⟩) ∨ (x.kind = 2 ∧ x = ⟨2, zE, zB, x.term, x.vote, 0, zN⟩) ∨ (x.kind = 3 ∧ x = ⟨3, zE, zB, 0, 0, x.index, x.entry⟩) ∨ (x.kind = 4 ∧ x = ⟨4, zE, zB, 0, 0, x.index, zN⟩) := by
  rw [formed_iff]
  obtain ⟨k, e, b, t, v, i, n⟩ := x
  dsimp only
  constructor
  · rintro ⟨h0, h4, h⟩
    have hk : k = 0 ∨ k = 1 ∨ k = 2 ∨ k = 3 ∨ k = 4 := by omega
    rcases hk with rfl | rfl | rfl | rfl | rfl
    · left
      have hb := zero_base (b := b) fun n hn => h n (by simp [numPart, hn])
      have hn := zero_entry (e := n) fun n hn => h n (by simp [numPart, hn])
      have ht := h t (by simp [numPart])
      have hv := h v (by simp [numPart])
      have hi := h i (by simp [numPart])
      subst hb hn ht hv hi
      exact ⟨rfl, rfl⟩
    · right; left
      have hb := zero_event (e := e) fun n hn => h n (by simp [numPart, hn])
      have hn := zero_entry (e := n) fun n hn => h n (by simp [numPart, hn])
      have ht := h t (by simp [numPart])
      have hv := h v (by simp [numPart])
      have hi := h i (by simp [numPart])
      subst hb hn ht hv hi
      exact ⟨rfl, rfl⟩
    · right; right; left
      have he := zero_event (e := e) fun n hn => h n (by simp [numPart, hn])
      have hb := zero_base (b := b) fun n hn => h n (by simp [numPart, hn])
      have hn := zero_entry (e := n) fun n hn => h n (by simp [numPart, hn])
      have hi := h i (by simp [numPart])
      subst he hb hn hi
      exact ⟨rfl, rfl⟩
    · right; right; right; left
      have he := zero_event (e := e) fun n hn => h n (by simp [numPart, hn])
      have hb := zero_base (b := b) fun n hn => h n (by simp [numPart, hn])
      have ht := h t (by simp [numPart])
      have hv := h v (by simp [numPart])
      subst he hb ht hv
      exact ⟨rfl, rfl⟩
    · right; right; right; right
      have he := zero_event (e := e) fun n hn => h n (by simp [numPart, hn])
      have hb := zero_base (b := b) fun n hn => h n (by simp [numPart, hn])
      have hn := zero_entry (e := n) fun n hn => h n (by simp [numPart, hn])
      have ht := h t (by simp [numPart])
      have hv := h v (by simp [numPart])
      subst he hb hn ht hv
      exact ⟨rfl, rfl⟩
  · rintro (⟨hk, h⟩ | ⟨hk, h⟩ | ⟨hk, h⟩ | ⟨hk, h⟩ | ⟨hk, h⟩)
    all_goals
      injection h with h1 h2 h3 h4 h5 h6 h7
      subst hk
      refine ⟨by decide, by decide, ?_⟩
    · subst h3 h4 h5 h6 h7
      have : numPart ⟨0, e, zB, 0, 0, 0, zN⟩ false = numBase zB ++ [0, 0, 0] ++ numEntry zN := by simp [numPart]
      rw [this]; decide
    · subst h2 h4 h5 h6 h7
      have : numPart ⟨1, zE, b, 0, 0, 0, zN⟩ false = numEvent zE ++ [0, 0, 0] ++ numEntry zN := by simp [numPart]
      rw [this]; decide
    · subst h2 h3 h6 h7
      have : numPart ⟨2, zE, zB, t, v, 0, zN⟩ false = numEvent zE ++ numBase zB ++ [0] ++ numEntry zN := by simp [numPart]
      rw [this]; decide
    · subst h2 h3 h4 h5
      have : numPart ⟨3, zE, zB, 0, 0, i, n⟩ false = numEvent zE ++ numBase zB ++ [0, 0] := by simp [numPart]
      rw [this]; decide
    · subst h2 h3 h4 h5 h7
      have : numPart ⟨4, zE, zB, 0, 0, i, zN⟩ false = numEvent zE ++ numBase zB ++ [0, 0] ++ numEntry zN := by simp [numPart]
      rw [this]; decide
theorem ifP {α : Type} (c : Prop) [Decidable c] (P Q : Ps α) (l : List Int) : (if c then P else Q) l = if c then P l else Q l := by split <;> rfl
theorem recordP_some (l : List Int) (x : Record) (l' : List Int) : recordP l = some (x, l') ↔ formedB x = true ∧ l = numRecord x ++ l' := by
  rw [formed_kinds]
  unfold recordP
  rw [step_good intP_good]
  constructor
  · rintro ⟨k, l1, rfl, h⟩
    simp only [ifP] at h
    split at h
    · rename_i h0
      subst h0
      rw [step_good eventP_good] at h
      obtain ⟨e, l2, rfl, h⟩ := h
      rw [retP_some] at h
      obtain ⟨rfl, rfl⟩ := h
      exact ⟨.inl ⟨rfl, rfl⟩, by simp [numRecord, numPart, numI]⟩
    · split at h
      · rename_i h0
        subst h0
        rw [step_good baseP_good] at h
        obtain ⟨e, l2, rfl, h⟩ := h
        rw [retP_some] at h
        obtain ⟨rfl, rfl⟩ := h
        exact ⟨.inr (.inl ⟨rfl, rfl⟩), by simp [numRecord, numPart, numI]⟩
      · split at h
        · rename_i h0
          subst h0
          rw [bindP_some] at h
          obtain ⟨xs, l2, h1, h⟩ := h
          rw [loopP_good intP_good] at h1
          obtain ⟨h2, rfl⟩ := h1
          obtain ⟨a, b, rfl⟩ := len2 h2
          rw [retP_some] at h
          obtain ⟨rfl, rfl⟩ := h
          exact ⟨.inr (.inr (.inl ⟨rfl, rfl⟩)), by simp [numRecord, numPart, numI]⟩
        · split at h
          · rename_i h0
            subst h0
            rw [step_good intP_good] at h
            obtain ⟨i, l2, rfl, h⟩ := h
            rw [step_good entryP_good] at h
            obtain ⟨e, l3, rfl, h⟩ := h
            rw [retP_some] at h
            obtain ⟨rfl, rfl⟩ := h
            exact ⟨.inr (.inr (.inr (.inl ⟨rfl, rfl⟩))), by simp [numRecord, numPart, numI]⟩
          · split at h
            · rename_i h0
              subst h0
              rw [step_good intP_good] at h
              obtain ⟨i, l2, rfl, h⟩ := h
              rw [retP_some] at h
              obtain ⟨rfl, rfl⟩ := h
              exact ⟨.inr (.inr (.inr (.inr ⟨rfl, rfl⟩))), by simp [numRecord, numPart, numI]⟩
            · cases h
  · rintro ⟨h, rfl⟩
    obtain ⟨k, e, b, t, v, i, n⟩ := x
    dsimp only at h
    rcases h with ⟨hk, h⟩ | ⟨hk, h⟩ | ⟨hk, h⟩ | ⟨hk, h⟩ | ⟨hk, h⟩
    all_goals
      injection h with h1 h2 h3 h4 h5 h6 h7
      subst hk
    · subst h3 h4 h5 h6 h7
      refine ⟨0, numEvent e ++ l', by simp [numRecord, numPart, numI], ?_⟩
      rw [if_pos rfl, step_good eventP_good]
      exact ⟨e, l', rfl, rfl⟩
    · subst h2 h4 h5 h6 h7
      refine ⟨1, numBase b ++ l', by simp [numRecord, numPart, numI], ?_⟩
      rw [if_neg (by decide), if_pos rfl, step_good baseP_good]
      exact ⟨b, l', rfl, rfl⟩
    · subst h2 h3 h6 h7
      refine ⟨2, t :: v :: l', by simp [numRecord, numPart, numI], ?_⟩
      rw [if_neg (by decide), if_neg (by decide), if_pos rfl, bindP_some]
      exact ⟨[t, v], l', (loopP_good intP_good 2 _ _ _).2 ⟨rfl, rfl⟩, rfl⟩
    · subst h2 h3 h4 h5
      refine ⟨3, i :: (numEntry n ++ l'), by simp [numRecord, numPart, numI], ?_⟩
      rw [if_neg (by decide), if_neg (by decide), if_neg (by decide), if_pos rfl, step_good intP_good]
      refine ⟨i, numEntry n ++ l', rfl, ?_⟩
      rw [step_good entryP_good]
      exact ⟨n, l', rfl, rfl⟩
    · subst h2 h3 h4 h5 h7
      refine ⟨4, i :: l', by simp [numRecord, numPart, numI], ?_⟩
      rw [if_neg (by decide), if_neg (by decide), if_neg (by decide), if_neg (by decide), if_pos rfl, step_good intP_good]
      exact ⟨i, l', rfl, rfl⟩
end Go.Proofs.Ytmokpnkpfodppaa
