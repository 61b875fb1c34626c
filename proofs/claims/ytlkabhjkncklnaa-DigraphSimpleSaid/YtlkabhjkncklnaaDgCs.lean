
/-
Graphs: without an edge, the cycles are those that do not use it, in the same order: plain facts.
-/
import Derived.Test.YtlkabhjkncklnaaDgPd
import Derived.Test.YtlkabhjkncklnaaDgUs
import Derived.Test.YtlkabhjkncklnaaDgPf
namespace Go.Proofs.Ytlkabhjkncklnaa
set_option linter.unusedSimpArgs false
set_option linter.unusedVariables false
open Go.RowKit

theorem hasE_unset {n : Nat} {es : List Bool} {k x y : Nat} : hasE n (es.set k false) x y = true ↔ hasE n es x y = true ∧ x * n + y ≠ k := by
  unfold hasE
  rw [List.getD_eq_getElem?_getD, List.getD_eq_getElem?_getD, List.getElem?_set]
  by_cases e : k = x * n + y
  · rw [if_pos e]
    split <;> simp [e]
  · rw [if_neg e]
    have : ¬ x * n + y = k := fun h => e h.symm
    simp [this]
theorem walk_of_get (n : Nat) (es : List Bool) : ∀ x : List Nat, (∀ k (h : k + 1 < x.length), x[k + 1] < n ∧ hasE n es x[k] x[k + 1] = true) → Walk n es x
  | [], _ => trivial
  | [_], _ => trivial
  | a :: b :: r, h => ⟨h 0 (by simp), walk_of_get n es (b :: r) fun k hk => h (k + 1) (by simpa using hk)⟩
/-- every edge of a closed walk -/
def EdgesOk (n : Nat) (es : List Bool) (x : List Nat) : Prop := ∀ i, i < x.length → hasE n es (x.getD i 0) (x.getD ((i + 1) % x.length) 0) = true
theorem edges_iff {n : Nat} {es : List Bool} {x : List Nat} (hne : x ≠ []) (hlt : ∀ y ∈ x, y < n) : EdgesOk n es x ↔ Walk n es x ∧ hasE n es (x.getLastD 0) (x.headD 0) = true := by
  have hp := List.length_pos_iff.2 hne
  rw [getLastD_eq hne, headD_eq hne]
  constructor
  · intro h
    constructor
    · refine walk_of_get n es x fun k hk => ⟨hlt _ (List.getElem_mem _), ?_⟩
      have h1 := h k (by omega)
      rw [Nat.mod_eq_of_lt hk, getD_at (by omega), getD_at hk] at h1
      exact h1
    · have h1 := h (x.length - 1) (by omega)
      rw [show x.length - 1 + 1 = x.length by omega, Nat.mod_self, getD_at (by omega), getD_at hp] at h1
      exact h1
  · rintro ⟨h1, h2⟩ i hi
    by_cases e : i + 1 < x.length
    · rw [Nat.mod_eq_of_lt e, getD_at hi, getD_at e]
      exact (walk_get n es x i e h1).2
    · obtain rfl : i = x.length - 1 := by omega
      rw [show x.length - 1 + 1 = x.length by omega, Nat.mod_self, getD_at hi, getD_at hp]
      exact h2
theorem use_iff {n : Nat} {x : List Nat} {k : Nat} : useB n x k = false ↔ ∀ i, i < x.length → x.getD i 0 * n + x.getD ((i + 1) % x.length) 0 ≠ k :=
  ⟨fun h i hi e => (by rw [use_true hi e] at h; cases h), use_false⟩
theorem cycL_unset {n : Nat} {es : List Bool} {k : Nat} {x : List Nat} : CycL n (es.set k false) x ↔ CycL n es x ∧ useB n x k = false := by
  constructor
  · rintro ⟨⟨h1, h2, h3, h4, h5⟩, h6⟩
    have h7 := (edges_iff h1 h4).2 ⟨h2, h6⟩
    have h8 : EdgesOk n es x := fun i hi => (hasE_unset.1 (h7 i hi)).1
    obtain ⟨h9, h10⟩ := (edges_iff h1 h4).1 h8
    exact ⟨⟨⟨h1, h9, h3, h4, h5⟩, h10⟩, use_iff.2 fun i hi => (hasE_unset.1 (h7 i hi)).2⟩
  · rintro ⟨⟨⟨h1, h2, h3, h4, h5⟩, h6⟩, h0⟩
    have h7 := (edges_iff h1 h4).2 ⟨h2, h6⟩
    have h8 : EdgesOk n (es.set k false) x := fun i hi => hasE_unset.2 ⟨h7 i hi, use_iff.1 h0 i hi⟩
    obtain ⟨h9, h10⟩ := (edges_iff h1 h4).1 h8
    exact ⟨⟨h1, h9, h3, h4, h5⟩, h10⟩
theorem cycQ_spec {n : Nat} {es : List Bool} (ho : openB (n : Int) es.length = true) : (∀ x, x ∈ cycQ (n : Int) es ↔ CycL n es x) ∧ (cycQ (n : Int) es).Pairwise slt := by
  unfold cycQ
  rw [if_pos ho]
  have hs := cycR_spec (n := n) (es := es) n 0
  have e0 : levC n es 0 = startsC n := rfl
  rw [e0] at hs
  refine ⟨fun x => ?_, hs.2⟩
  rw [show ((n : Int)).toNat = n from rfl, hs.1]
  constructor
  · exact fun hx => hx.1
  · intro hx
    exact ⟨hx, List.length_pos_iff.2 hx.1.ne, by rw [Nat.zero_add]; exact nodup_len _ x hx.1.nd hx.1.lt⟩
theorem cyc_unset {n : Nat} {es : List Bool} {k : Nat} (ho : openB (n : Int) es.length = true) : cycQ (n : Int) (es.set k false) = (cycQ (n : Int) es).filter fun x => !useB n x k := by
  obtain ⟨a1, a2⟩ := cycQ_spec (es := es.set k false) (by rw [List.length_set]; exact ho)
  obtain ⟨b1, b2⟩ := cycQ_spec ho
  have b3 := b2.filter fun x => !useB n x k
  refine List.Perm.eq_of_pairwise (le := slt) (fun a b _ _ h3 h4 => absurd (slt_trans h3 h4) (slt_irrefl a)) a2 b3 ?_
  rw [List.perm_ext_iff_of_nodup (slt_nodup a2) (slt_nodup b3)]
  intro x
  rw [a1, List.mem_filter, b1, cycL_unset]
  simp
theorem cycL_wk {n : Nat} {es : List Bool} {x : List Nat} (h : CycL n es x) : WkOk n es x := ⟨h.1.nd, h.1.lt, h.1.walk⟩
/-- in order: not longer before shorter, and smaller first -/
theorem slt_cmp {a b : List Nat} (h : slt a b) : a.length ≤ b.length ∧ (a.length = b.length → cmpL (castL a) (castL b) < 0) := by
  refine ⟨slt_le h, fun e => ?_⟩
  rcases h with h | ⟨-, h⟩
  · rw [castL_len, castL_len] at h
    omega
  · exact (cmpL_lt _ _).2 h
end Go.Proofs.Ytlkabhjkncklnaa
