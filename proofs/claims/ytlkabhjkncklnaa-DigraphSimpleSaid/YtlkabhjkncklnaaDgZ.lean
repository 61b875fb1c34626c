
/-
Graphs: the reference's Forbidden and Acyclic: plain facts.
-/
import Derived.Test.YtlkabhjkncklnaaDgY
import Derived.Test.YtlkabhjkncklnaaDgT
namespace Go.Proofs.Ytlkabhjkncklnaa
set_option linter.unusedSimpArgs false
set_option linter.unusedVariables false
open Go.RowKit

theorem Rs.cases' {n : Nat} {es : List Bool} {a b : Nat} (h : Rs n es a b) : a = b ∨ Rp n es a b := by
  induction h with
  | refl => exact .inl rfl
  | step _ h2 h3 ih =>
    right
    rcases ih with rfl | ih
    · exact ⟨_, h2, h3, .refl⟩
    · obtain ⟨d, h4, h5, h6⟩ := ih
      exact ⟨d, h4, h5, .step h6 h2 h3⟩
theorem path_zero {n : Nat} {es : List Bool} {a b : Nat} (ha : a < n) : (pathF n es a b).length = 0 ↔ ¬ (a = b ∨ Rp n es a b) := by
  constructor
  · intro h h2
    refine path_none ha (List.eq_nil_of_length_eq_zero h) ?_
    rcases h2 with rfl | h2
    · exact .refl
    · exact h2.rs
  · intro h
    refine Classical.byContradiction fun h2 => h ?_
    have hne : pathF n es a b ≠ [] := fun e => h2 (by rw [e]; rfl)
    obtain ⟨p1, p2, p3, -⟩ := path_some ha hne
    exact (walkN_rs n es a _ a b .refl (walk_walkN n es _ a b p1 p2 p3)).cases'
theorem forb_at {n : Nat} {es ps : List Bool} (hl : es.length = n * n) {a b : Nat} (ha : a < n) (hb : b < n) : forbB n es ps (a * n + b) = forbE n es ps (reachW n es) a b := by
  have h1 : (a * n + b) % n = b := by rw [Nat.mul_comm, Nat.mul_add_mod, Nat.mod_eq_of_lt hb]
  have h2 : (a * n + b) / n = a := by rw [Nat.mul_comm, Nat.mul_add_div (by omega), Nat.div_eq_of_lt hb, Nat.add_zero]
  unfold forbB forbE
  rw [h1, h2]
  congr 2
  have h3 := path_zero (es := es) (a := b) (b := a) hb
  have h4 := (reachW_iff hl hb ha).trans (reachesF_iff n es b a)
  unfold mt at h4
  rw [Bool.eq_iff_iff]
  simp only [Bool.not_eq_true', decide_eq_false_iff_not, Bool.or_eq_true, decide_eq_true_eq]
  rw [h3, Classical.not_not, h4]
  constructor
  · rintro (h | h)
    · exact .inl h.symm
    · exact .inr h
  · rintro (h | h)
    · exact .inl h.symm
    · exact .inr h
theorem forb_rows {n : Nat} {es ps : List Bool} (hl : es.length = n * n) : ∀ k, k ≤ n → forbL n es ps (k * n) = forbRows n es ps (reachW n es) k
  | 0, _ => by simp [forbL, forbRows]
  | k + 1, hk => by
    have ih := forb_rows (ps := ps) hl k (by omega)
    have hj : ∀ j, j ≤ n → forbL n es ps (k * n + j) = forbRows n es ps (reachW n es) k ++ forbRow n es ps (reachW n es) k j := by
      intro j
      induction j with
      | zero => intro _; rw [Nat.add_zero, ih]; simp [forbRow]
      | succ j ihj =>
        intro hj
        rw [← Nat.add_assoc, forbL_succ, ihj (by omega), forbRow_succ, forb_at hl (by omega) (by omega), List.append_assoc]
    rw [Nat.add_mul, Nat.one_mul, hj n (Nat.le_refl _), forbRows_succ]
theorem forbPub_eq (s : Int) (es ps : List Bool) : forbPub s es ps = forbQ s es ps := by
  unfold forbPub forbQ
  split
  · rename_i h
    obtain ⟨n, rfl, -, -, hl⟩ := openB_iff h.1
    have hl2 : ps.length = n * n := by
      obtain ⟨n', e1, -, -, e2⟩ := openB_iff h.2
      rw [e2, show n' = n by omega]
    rw [hl2]
    exact forb_rows hl n (Nat.le_refl _)
  · rfl
end Go.Proofs.Ytlkabhjkncklnaa
