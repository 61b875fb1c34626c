
/-
Graphs: an edge that a graph without cycles lacks closes a cycle exactly if it is one of the forbidden ones: plain facts.
-/
import Derived.Test.YtlkabhjkncklnaaDgPd
import Derived.Test.YtlkabhjkncklnaaDgSc
namespace Go.Proofs.Ytlkabhjkncklnaa
set_option linter.unusedSimpArgs false
set_option linter.unusedVariables false
open Go.RowKit

theorem hasE_set {n : Nat} {es : List Bool} {a b x y : Nat} (hb : b < n) (hy : y < n) (hk : a * n + b < es.length) : hasE n (es.set (a * n + b) true) x y = true ↔ hasE n es x y = true ∨ (x = a ∧ y = b) := by
  unfold hasE
  rw [List.getD_eq_getElem?_getD, List.getD_eq_getElem?_getD, List.getElem?_set]
  by_cases e : a * n + b = x * n + y
  · obtain ⟨rfl, rfl⟩ := idx_inj hb hy e
    rw [if_pos rfl, if_pos hk]
    simp
  · rw [if_neg e]
    constructor
    · exact .inl
    · rintro (h | ⟨rfl, rfl⟩)
      · exact h
      · exact absurd rfl e
theorem Rs.set {n : Nat} {es : List Bool} {a b x y : Nat} (hb : b < n) (hk : a * n + b < es.length) (h : Rs n es x y) : Rs n (es.set (a * n + b) true) x y := by
  induction h with
  | refl => exact .refl
  | step _ h1 h2 ih => exact .step ih h1 ((hasE_set hb h1 hk).2 (.inl h2))
theorem Rs.unset {n : Nat} {es : List Bool} {a b x y : Nat} (hb : b < n) (hk : a * n + b < es.length) (h : Rs n (es.set (a * n + b) true) x y) : Rs n es x y ∨ (Rs n es x a ∧ Rs n es b y) := by
  induction h with
  | refl => exact .inl .refl
  | step _ h1 h2 ih =>
    rcases (hasE_set hb h1 hk).1 h2 with h3 | ⟨rfl, rfl⟩
    · rcases ih with ih | ⟨i1, i2⟩
      · exact .inl (.step ih h1 h3)
      · exact .inr ⟨i1, .step i2 h1 h3⟩
    · rcases ih with ih | ⟨i1, i2⟩
      · exact .inr ⟨ih, .refl⟩
      · exact .inr ⟨i1, .refl⟩
theorem acyc_set {n : Nat} {es : List Bool} {a b : Nat} (ha : a < n) (hb : b < n) (hk : a * n + b < es.length) (hac : ∀ x, x < n → ¬ Rp n es x x) : (∀ x, x < n → ¬ Rp n (es.set (a * n + b) true) x x) ↔ ¬ (a = b ∨ Rp n es b a) := by
  constructor
  · intro h hc
    refine h a ha ⟨b, hb, (hasE_set hb hb hk).2 (.inr ⟨rfl, rfl⟩), ?_⟩
    rcases hc with rfl | hc
    · exact .refl
    · exact hc.rs.set hb hk
  · rintro h x hx ⟨c, h1, h2, h3⟩
    have key : Rs n es b a → False := fun hr => by
      rcases hr.cases' with e | e
      · exact h (.inl e.symm)
      · exact h (.inr e)
    rcases (hasE_set hb h1 hk).1 h2 with h4 | ⟨rfl, rfl⟩
    · rcases h3.unset hb hk with h5 | ⟨h5, h6⟩
      · exact hac x hx ⟨c, h1, h4, h5⟩
      · exact key ((h6.trans (.step .refl h1 h4)).trans h5)
    · rcases h3.unset hb hk with h5 | ⟨h5, -⟩
      · exact key h5
      · exact key h5
theorem mem_forb {n : Nat} {es ps R : List Bool} {a b : Nat} (ha : a < n) (hb : b < n) : (((a * n + b : Nat) : Int) ∈ forbRows n es ps R n) ↔ forbE n es ps R a b = true := by
  unfold forbRows forbRow
  rw [List.mem_flatMap]
  constructor
  · rintro ⟨c, hc, h⟩
    obtain ⟨d, hd, e⟩ := List.mem_map.1 h
    obtain ⟨hd1, hd2⟩ := List.mem_filter.1 hd
    obtain ⟨rfl, rfl⟩ := idx_inj (List.mem_range.1 hd1) hb (by omega : c * n + d = a * n + b)
    exact hd2
  · intro h
    exact ⟨a, List.mem_range.2 ha, List.mem_map.2 ⟨b, List.mem_filter.2 ⟨List.mem_range.2 hb, h⟩, rfl⟩⟩
theorem forb_rises {n : Nat} {es ps R : List Bool} : (forbRows n es ps R n).Pairwise (· < ·) := by
  unfold forbRows forbRow
  rw [List.pairwise_flatMap]
  constructor
  · intro a _
    rw [List.pairwise_map]
    exact (List.pairwise_lt_range.filter _).imp fun h => by omega
  · refine List.pairwise_lt_range.imp fun {a c} h x hx y hy => ?_
    obtain ⟨b, hb, rfl⟩ := List.mem_map.1 hx
    obtain ⟨d, hd, rfl⟩ := List.mem_map.1 hy
    have hb := List.mem_range.1 (List.mem_filter.1 hb).1
    have h2 : (a + 1) * n ≤ c * n := Nat.mul_le_mul_right n h
    rw [Nat.add_mul, Nat.one_mul] at h2
    omega
theorem forbQ_rises (s : Int) (es ps : List Bool) : Rises (forbQ s es ps) := by
  unfold forbQ
  split
  · exact fun k hk => List.pairwise_iff_getElem.1 forb_rises k (k + 1) (by omega) hk (by omega)
  · exact fun k hk => absurd hk (by simp)
theorem forbQ_len {n : Nat} (es ps : List Bool) (h6 : n ≤ 6) : (forbQ (n : Int) es ps).length ≤ 36 := by
  unfold forbQ
  split
  · exact Nat.le_trans (forbRows_len _ _ _ _ _) (Nat.mul_le_mul h6 h6)
  · simp
/-- a further edge closes a cycle exactly if it is forbidden -/
theorem acyQ_set {n : Nat} {es ps : List Bool} (ho : openB (n : Int) es.length = true) (ho2 : openB (n : Int) ps.length = true) (hl : es.length = n * n) (hac : acyQ (n : Int) es = true) {a b : Nat} (ha : a < n) (hb : b < n) (hp : hasE n ps a b = true) (he : hasE n es a b = false) : acyQ (n : Int) (es.set (a * n + b) true) = !decide (((a * n + b : Nat) : Int) ∈ forbQ (n : Int) es ps) := by
  have hk : a * n + b < es.length := by rw [hl]; exact idx_lt ha hb
  have hac := (acyQ_iff ho).1 hac
  have hq : forbQ (n : Int) es ps = forbRows n es ps (reachW n es) n := by
    unfold forbQ
    rw [if_pos ⟨ho, ho2⟩]
    rfl
  have hE : forbE n es ps (reachW n es) a b = true ↔ (a = b ∨ Rp n es b a) := by
    have h1 : forbE n es ps (reachW n es) a b = (decide (a = b) || (reachW n es).getD (b * n + a) false) := by
      unfold forbE
      rw [show ps.getD (a * n + b) false = true from hp, show es.getD (a * n + b) false = false from he]
      simp
    rw [h1, Bool.or_eq_true, decide_eq_true_iff, ← reachesF_iff, ← reachW_iff hl hb ha]
    rfl
  rw [hq, Bool.eq_iff_iff, Bool.not_eq_true', decide_eq_false_iff_not, mem_forb ha hb, hE, acyQ_iff (by rw [List.length_set]; exact ho)]
  exact acyc_set ha hb hk hac
theorem acyD_set {n : Nat} {es ps : List Bool} (ho : openB (n : Int) es.length = true) (ho2 : openB (n : Int) ps.length = true) (hl : es.length = n * n) (hl2 : ps.length = n * n) (hac : acyD (n : Int) es = true) {k : Nat} (h1 : k < es.length) (h2 : k < ps.length) (hp : ps[k] = true) (he : es[k] = false) : acyD (n : Int) (es.set k true) = !decide ((k : Int) ∈ forbQ (n : Int) es ps) := by
  have hn : 0 < n := by
    rcases Nat.eq_zero_or_pos n with rfl | h
    · rw [hl] at h1; omega
    · exact h
  have hd : k / n * n + k % n = k := Nat.div_add_mod' k n
  have hb := Nat.mod_lt k hn
  have ha : k / n < n := Nat.div_lt_of_lt_mul (by rw [← hl]; exact h1)
  generalize k / n = a at *
  generalize k % n = b at *
  subst hd
  rw [acy_eq] at hac ⊢
  exact acyQ_set ho ho2 hl hac ha hb (by rw [hasE_get h2]; exact hp) (by rw [hasE_get h1]; exact he)
end Go.Proofs.Ytlkabhjkncklnaa
