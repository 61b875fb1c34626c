
/-
Graphs: what an order is: plain facts.
-/
import Derived.Test.YtlkabhjkncklnaaDgPd
import Derived.Test.YtlkabhjkncklnaaDgWk
namespace Go.Proofs.Ytlkabhjkncklnaa
set_option linter.unusedSimpArgs false
set_option linter.unusedVariables false
open Go.RowKit

theorem nextD_least {n : Nat} {es : List Bool} {out : List Nat} : ∀ d, d ≤ n → ∀ v, nextD n es out d = some v → ∀ x, n - d ≤ x → x < v → freeB n es out x = false
  | 0, _, v, h, _, _, _ => by cases h
  | d + 1, hd, v, h, x, h1, h2 => by
    unfold nextD at h
    split at h
    · injection h with h
      omega
    · rename_i hf
      by_cases e : x = n - (d + 1)
      · rw [e]
        simpa using hf
      · exact nextD_least d (by omega) v h x (by omega) h2
/-- every vertex was the least that could stand where it stands -/
def OrdP (n : Nat) (es : List Bool) (out : List Nat) : Prop := ∀ k (h : k < out.length), nextD n es (out.take k) n = some out[k]
theorem OrdP.snoc {n : Nat} {es : List Bool} {out : List Nat} (h : OrdP n es out) {v : Nat} (hv : nextD n es out n = some v) : OrdP n es (out ++ [v]) := fun k hk => by
  rw [List.length_append, List.length_singleton] at hk
  by_cases e : k < out.length
  · rw [List.take_append_of_le_length (by omega), List.getElem_append_left e]
    exact h k e
  · obtain rfl : k = out.length := by omega
    rw [List.getElem_append_right (Nat.le_refl _)]
    simpa using hv
theorem orderF_ord {n : Nat} {es : List Bool} : ∀ (f : Nat) (out : List Nat), OrdP n es out → (orderF n es f out).2 = true → OrdP n es (orderF n es f out).1 ∧ (orderF n es f out).1.length = out.length + f
  | 0, out, h, _ => ⟨h, rfl⟩
  | f + 1, out, h, ho => by
    unfold orderF at ho ⊢
    cases hN : nextD n es out n with
    | none => rw [hN] at ho; cases ho
    | some v =>
      rw [hN] at ho
      obtain ⟨h1, h2⟩ := orderF_ord f (out ++ [v]) (h.snoc hN) ho
      refine ⟨h1, ?_⟩
      rw [h2]
      simp
      omega
theorem OrdP.lt {n : Nat} {es : List Bool} {out : List Nat} (h : OrdP n es out) {k : Nat} (hk : k < out.length) : out[k] < n := nextD_lt n es _ n (Nat.le_refl _) _ (h k hk)
theorem OrdP.free {n : Nat} {es : List Bool} {out : List Nat} (h : OrdP n es out) {k : Nat} (hk : k < out.length) : out[k] ∉ out.take k ∧ ∀ u, u < n → hasE n es u out[k] = true → u ∈ out.take k := (freeB_iff n es _ _).1 (nextD_free n (Nat.le_refl _) _ (h k hk))
theorem mem_take_get {l : List Nat} {i k : Nat} (h : i < l.length) (hk : i < k) : l[i] ∈ l.take k := by
  rw [List.mem_take_iff_getElem]
  exact ⟨i, by omega, rfl⟩
theorem OrdP.nd {n : Nat} {es : List Bool} {out : List Nat} (h : OrdP n es out) : out.Nodup := by
  refine List.pairwise_iff_getElem.2 fun i j hi hj hij e => ?_
  refine (h.free hj).1 ?_
  rw [← e]
  exact mem_take_get hi hij
/-- an edge leads to a later vertex -/
theorem OrdP.fwd {n : Nat} {es : List Bool} {out : List Nat} (h : OrdP n es out) {i j : Nat} (hi : i < out.length) (hj : j < out.length) (he : hasE n es out[i] out[j] = true) : i < j := by
  have h1 := (h.free hj).2 _ (h.lt hi) he
  obtain ⟨k, hk, e⟩ := List.mem_take_iff_getElem.1 h1
  have hkj : k < j := by omega
  by_cases hik : i = k
  · omega
  · rcases Nat.lt_or_ge i k with h2 | h2
    · exact absurd e.symm (List.pairwise_iff_getElem.1 h.nd i k hi (by omega) h2)
    · exact absurd e (List.pairwise_iff_getElem.1 h.nd k i (by omega) hi (by omega))
/-- a vertex below the one before it is its successor -/
theorem OrdP.step {n : Nat} {es : List Bool} {out : List Nat} (h : OrdP n es out) {k : Nat} (hk : k + 1 < out.length) (hl : out[k + 1] < out[k]) : hasE n es out[k] out[k + 1] = true := by
  have h0 := nextD_least n (Nat.le_refl _) _ (h k (by omega)) out[k + 1] (by omega) hl
  obtain ⟨h1, h2⟩ := h.free hk
  refine Classical.byContradiction fun hn => ?_
  rw [(freeB_iff n es _ _).2] at h0
  · cases h0
  · have ht : out.take (k + 1) = out.take k ++ [out[k]] := by rw [List.take_succ_eq_append_getElem]
    refine ⟨fun hin => h1 (by rw [ht]; exact List.mem_append_left _ hin), fun u hu he => ?_⟩
    have h3 := h2 u hu he
    rw [ht, List.mem_append, List.mem_singleton] at h3
    rcases h3 with h3 | rfl
    · exact h3
    · exact absurd he hn
theorem hasE_rep {n a b : Nat} (ha : a < n) (hb : b < n) : hasE n (List.replicate (n * n) true) a b = true := by
  unfold hasE
  rw [List.getD_eq_getElem?_getD, List.getElem?_eq_getElem (by rw [List.length_replicate]; exact idx_lt ha hb), List.getElem_replicate]
  rfl
theorem walk_rep {n : Nat} : ∀ l : List Nat, (∀ x ∈ l, x < n) → Walk n (List.replicate (n * n) true) l
  | [], _ => trivial
  | [_], _ => trivial
  | a :: b :: r, h => ⟨⟨h b (by simp), hasE_rep (h a (by simp)) (h b (by simp))⟩, walk_rep (b :: r) fun x hx => h x (List.mem_cons_of_mem _ hx)⟩
theorem OrdP.all {n : Nat} {es : List Bool} {out : List Nat} (h : OrdP n es out) : ∀ x ∈ out, x < n := fun x hx => by
  obtain ⟨i, hi, rfl⟩ := List.getElem_of_mem hx
  exact h.lt hi
theorem OrdP.wk {n : Nat} {es : List Bool} {out : List Nat} (h : OrdP n es out) : WkOk n (List.replicate (n * n) true) out := ⟨h.nd, h.all, walk_rep out h.all⟩
/-- the package's order of an acyclic graph, and nothing for another one -/
theorem order_ok {n : Nat} {es : List Bool} (ho : openB (n : Int) es.length = true) : (∃ out, orderPub (n : Int) es = (castL out, true) ∧ OrdP n es out ∧ out.length = n ∧ acyD (n : Int) es = true) ∨ (orderPub (n : Int) es = ([], false) ∧ acyD (n : Int) es = false) := by
  rw [acy_eq, orderPub_eq]
  cases ha : acyQ (n : Int) es with
  | true =>
    rw [if_pos rfl]
    have h2 := orderF_acyc ((acyQ_iff ho).1 ha) ((n : Int)).toNat [] (by simp)
    have h3 := orderF_ord n [] (fun k hk => by cases hk) h2
    exact .inl ⟨_, rfl, h3.1, by simpa using h3.2, rfl⟩
  | false =>
    rw [if_neg (by simp)]
    exact .inr ⟨rfl, rfl⟩
/-- a graph is acyclic exactly if there are no cycles -/
theorem cycP_zero {s : Int} {es : List Bool} {L : List (List Nat)} (ho : openB s es.length = true) (h : CycP s es L) : acyD s es = decide (L.length = 0) := by
  unfold acyD
  rw [ho, Bool.true_and]
  have hp := ((h.2 ho).1).length_eq
  rw [hp, Bool.eq_iff_iff, decide_eq_true_iff, decide_eq_true_iff, List.length_eq_zero_iff]
end Go.Proofs.Ytlkabhjkncklnaa
