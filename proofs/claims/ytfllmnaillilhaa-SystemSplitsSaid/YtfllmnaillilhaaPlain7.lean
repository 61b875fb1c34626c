
/-
Simplifying keeps the solutions; normal rows hold for the same values. No program in sight.
-/
import Derived.Test.YtfllmnaillilhaaSE
import Derived.Test.YtfllmnaillilhaaPA
namespace Go.Proofs.Ytfllmnaillilhaa
set_option linter.unusedSimpArgs false
set_option linter.unusedVariables false
open Go.RowKit

theorem term_upper {b : List Rng} {vs : List Int} (h : containsB b vs = true) (t : Term) (ht : okT vs.length t) : t.factor * vs.getD t.cell.toNat 0 ≤ termV b (-1) (-1) t := by
  obtain ⟨h0, h1, -, -⟩ := ht
  obtain ⟨j, hj⟩ := Int.eq_ofNat_of_zero_le h0
  obtain ⟨k1, k2⟩ := (not_badV h).2 j (by omega)
  unfold termV
  rw [if_neg (by omega), hj]
  have e : (Int.ofNat j).toNat = j := rfl
  simp only [Int.toNat_natCast]
  split
  · exact Int.mul_le_mul_of_nonpos_left (by omega) k1
  · exact Int.mul_le_mul_of_nonneg_left k2 (by omega)
theorem value_upper {b : List Rng} {vs : List Int} (h : containsB b vs = true) : ∀ (l : List Term), (∀ t ∈ l, okT vs.length t) → valueL vs 0 l ≤ boundL b (-1) (-1) 0 l
  | [], _ => Int.le_refl _
  | t :: l, hok => by
    unfold boundL valueL
    rw [boundL_acc, valueL_acc]
    have h1 := term_upper h t (hok t (by simp))
    have h2 := value_upper h l (fun t ht => hok t (by simp [ht]))
    omega
theorem gcdI_dvd_l (a b : Int) : gcdI a b ∣ a := by unfold gcdI; exact Int.gcd_dvd_left ..
theorem gcdI_dvd_r (a b : Int) : gcdI a b ∣ b := by unfold gcdI; exact Int.gcd_dvd_right ..
theorem gcdL_dvd : ∀ (l : List Term) (g : Int), gcdL g l ∣ g ∧ ∀ t ∈ l, gcdL g l ∣ t.factor
  | [], g => ⟨Int.dvd_refl g, fun t ht => by simp at ht⟩
  | t :: l, g => by
    obtain ⟨h1, h2⟩ := gcdL_dvd l (gcdI g t.factor)
    refine ⟨Int.dvd_trans h1 (gcdI_dvd_l _ _), fun u hu => ?_⟩
    rcases List.mem_cons.1 hu with rfl | hu
    · exact Int.dvd_trans h1 (gcdI_dvd_r _ _)
    · exact h2 u hu
theorem divT_eq {g : Int} {t : Term} (h : g ∣ t.factor) : g * (divT g t).factor = t.factor := by
  show g * t.factor.tdiv g = t.factor
  exact Int.mul_tdiv_cancel' h
theorem value_div (vs : List Int) (g : Int) : ∀ (l : List Term), (∀ t ∈ l, g ∣ t.factor) → valueL vs 0 l = g * valueL vs 0 (l.map (divT g))
  | [], _ => by simp [valueL]
  | t :: l, h => by
    rw [List.map_cons]
    unfold valueL
    rw [valueL_acc vs l, valueL_acc vs (l.map (divT g)), value_div vs g l (fun u hu => h u (by simp [hu])), Int.mul_add, Int.zero_add, Int.zero_add, ← Int.mul_assoc, divT_eq (h t (by simp))]
    rfl
theorem norm_holds {n : Nat} {r : Row} (vs : List Int) (hf : fitsB n r = true) : holdsR vs (normR r) = holdsR vs r := by
  obtain ⟨ts, bd⟩ := r
  unfold holdsR normR
  dsimp only
  by_cases hn : ts = []
  · rw [if_pos hn]
    subst hn
    exact decide_eq_decide.2 (show (0 : Int) ≤ max (min bd 0) (-1) ↔ (0 : Int) ≤ bd by omega)
  · rw [if_neg hn]
    dsimp only
    have hall := fitsn_all hf
    obtain ⟨-, -, h3⟩ := gcdL_bd ts 0 (Int.le_refl _) (by omega) (fun t ht => by
      have := hall t ht
      unfold okT at this
      exact ⟨this.1.2.2.1, this.1.2.2.2, this.2⟩)
    have hg := h3 hn
    have hd := (gcdL_dvd ts 0).2
    generalize gcdL 0 ts = g at *
    rw [value_div vs g ts hd, decide_eq_decide, Int.le_ediv_iff_mul_le (by omega), Int.mul_comm]
theorem norm_bound {g bd : Int} (hg : 1 ≤ g) (h1 : -1000000000 ≤ bd) (h2 : bd ≤ 1000000000) : -1000000000 ≤ bd / g ∧ bd / g ≤ 1000000000 := by
  constructor
  · rw [Int.le_ediv_iff_mul_le (by omega)]
    omega
  · have : bd / g < 1000000001 := Int.ediv_lt_of_lt_mul (by omega) (by omega)
    omega
theorem fitsL_div {g : Int} {n : Int} : ∀ (l : List Term) (last : Int), (∀ t ∈ l, g ∣ t.factor) → fitsL n last l = true → fitsL n last (l.map (divT g)) = true
  | [], _, _, _ => rfl
  | t :: l, last, hd, h => by
    rw [List.map_cons]
    unfold fitsL at h ⊢
    by_cases hb : badT n last t
    · rw [if_pos hb] at h
      exact absurd h (by simp)
    · rw [if_neg hb] at h
      have he := divT_eq (hd t (by simp))
      unfold badT at hb
      have h1 := tdiv_le t.factor g (by omega) (by omega)
      have hne : (divT g t).factor ≠ 0 := fun e => by rw [e] at he; simp at he; omega
      rw [if_neg (fun h2 => by
        unfold badT at h2
        rw [show (divT g t).cell = t.cell from rfl] at h2
        have h3 : (divT g t).factor = t.factor.tdiv g := rfl
        rw [← h3] at h1
        omega)]
      exact fitsL_div l _ (fun u hu => hd u (by simp [hu])) h
theorem norm_fits {n : Nat} {r : Row} (hf : fitsB n r = true) : fitsB n (normR r) = true := by
  obtain ⟨ts, bd⟩ := r
  have hall := fitsn_all hf
  have hbd := (fitsB_ok hf).2.2
  unfold fitsB at hf ⊢
  unfold normR
  dsimp only at *
  rw [Bool.and_eq_true] at hf
  by_cases hn : ts = []
  · rw [if_pos hn]
    dsimp only
    unfold fitsL
    simp
    omega
  · rw [if_neg hn]
    dsimp only
    obtain ⟨-, -, h3⟩ := gcdL_bd ts 0 (Int.le_refl _) (by omega) (fun t ht => by
      have := hall t ht
      unfold okT at this
      exact ⟨this.1.2.2.1, this.1.2.2.2, this.2⟩)
    obtain ⟨b1, b2⟩ := norm_bound (h3 hn) hbd.1 hbd.2
    rw [fitsL_div ts (-1) (gcdL_dvd ts 0).2 hf.1, decide_eq_true ⟨b1, b2⟩]
    rfl
theorem add_all (vs : List Int) (out : List Row) (x : Row) : (simpAdd out x).all (holdsR vs) = (out.all (holdsR vs) && holdsR vs x) := by
  rcases idxF_cases (fun y : Row => eqT y.terms x.terms) 0 out with ⟨hi, -⟩ | ⟨j, hj, hi, hp, -⟩
  · unfold simpAdd
    rw [hi, if_neg (by omega), List.all_append]
    simp
  · have e1 : (((0 + j : Nat) : Int)).toNat = j := by omega
    have e2 : out.getD j ⟨[], 0⟩ = out[j] := by simp [List.getD, hj]
    have e3 : simpAdd out x = out.set j ⟨out[j].terms, min out[j].bound x.bound⟩ := by
      unfold simpAdd
      rw [hi, if_pos (by omega), e1, e2]
    have e4 : out[j].terms = x.terms := (eqT_iff _ _).1 hp
    rw [e3, Bool.eq_iff_iff, Bool.and_eq_true, List.all_eq_true, List.all_eq_true]
    unfold holdsR
    constructor
    · intro h
      have hz := h ⟨out[j].terms, min out[j].bound x.bound⟩ (List.mem_iff_getElem.2 ⟨j, by simpa using hj, by simp⟩)
      simp only [decide_eq_true_eq] at hz h ⊢
      refine ⟨fun y hy => ?_, by rw [← e4]; omega⟩
      obtain ⟨i, hil, rfl⟩ := List.getElem_of_mem hy
      by_cases hij : j = i
      · subst hij
        omega
      · exact h _ (List.mem_iff_getElem.2 ⟨i, by simpa using hil, by simp [hij]⟩)
    · rintro ⟨h1, h2⟩ y hy
      simp only [decide_eq_true_eq] at h1 h2 ⊢
      rcases List.mem_or_eq_of_mem_set hy with hy | rfl
      · exact h1 y hy
      · have := h1 out[j] (List.getElem_mem hj)
        dsimp only
        rw [← e4] at h2
        omega
theorem step_all {b : List Rng} {vs : List Int} (hb : boxB b = true) (hc : containsB b vs = true) (out : List Row) {r : Row} (hf : fitsB b.length r = true) : (simpStep b out r).all (holdsR vs) = (out.all (holdsR vs) && holdsR vs r) := by
  unfold simpStep
  by_cases h : (sumB (normR r) b).2 ≤ (normR r).bound
  · rw [if_pos h]
    have hn := norm_fits hf
    have hv : validB b [normR r] = true := by
      unfold validB
      rw [hb]
      simp [hn]
    unfold sumB at h
    rw [if_pos hv] at h
    dsimp only at h
    have hl := (not_badV hc).1
    have hu := value_upper hc (normR r).terms (fun t ht => by rw [← hl]; exact ((fitsn_all hn) t ht).1)
    have : holdsR vs r = true := by
      rw [← norm_holds vs hf]
      unfold holdsR
      exact decide_eq_true (by omega)
    rw [this, Bool.and_true]
  · rw [if_neg h, add_all, norm_holds vs hf]
theorem fold_all {b : List Rng} {vs : List Int} (hb : boxB b = true) (hc : containsB b vs = true) : ∀ (rows out : List Row), (∀ r ∈ rows, fitsB b.length r = true) → (rows.foldl (simpStep b) out).all (holdsR vs) = (out.all (holdsR vs) && rows.all (holdsR vs))
  | [], out, _ => by simp
  | r :: rows, out, h => by
    rw [List.foldl_cons, fold_all hb hc rows _ (fun x hx => h x (by simp [hx])), step_all hb hc out (h r (by simp)), List.all_cons, Bool.and_assoc]
theorem add_fits {n : Int} {out : List Row} {x : Row} (ho : ∀ r ∈ out, fitsB n r = true) (hx : fitsB n x = true) : (simpAdd out x).length ≤ out.length + 1 ∧ ∀ r ∈ simpAdd out x, fitsB n r = true := by
  unfold simpAdd
  split
  · rename_i h
    rw [List.length_set]
    refine ⟨by omega, fun r hr => ?_⟩
    rcases List.mem_or_eq_of_mem_set hr with hr | rfl
    · exact ho r hr
    · rcases idxF_cases (fun y : Row => eqT y.terms x.terms) 0 out with ⟨hi, -⟩ | ⟨j, hj, hi, hp, -⟩
      · omega
      · have e1 : (((0 + j : Nat) : Int)).toNat = j := by omega
        have e2 : out.getD j ⟨[], 0⟩ = out[j] := by simp [List.getD, hj]
        rw [hi, e1, e2]
        have h1 := ho out[j] (List.getElem_mem hj)
        unfold fitsB at h1 hx ⊢
        rw [Bool.and_eq_true, decide_eq_true_eq] at *
        dsimp only
        exact ⟨h1.1, by omega⟩
  · refine ⟨by simp, fun r hr => ?_⟩
    rcases List.mem_append.1 hr with hr | hr
    · exact ho r hr
    · rw [List.mem_singleton.1 hr]
      exact hx
theorem fold_fits {b : List Rng} {n : Nat} : ∀ (rows out : List Row), (∀ r ∈ rows, fitsB n r = true) → (∀ r ∈ out, fitsB n r = true) → (rows.foldl (simpStep b) out).length ≤ out.length + rows.length ∧ ∀ r ∈ rows.foldl (simpStep b) out, fitsB n r = true
  | [], out, _, ho => ⟨by simp, ho⟩
  | r :: rows, out, h, ho => by
    rw [List.foldl_cons]
    have hs : (simpStep b out r).length ≤ out.length + 1 ∧ ∀ r' ∈ simpStep b out r, fitsB n r' = true := by
      unfold simpStep
      split
      · exact ⟨by omega, ho⟩
      · exact add_fits ho (norm_fits (h r (by simp)))
    obtain ⟨h1, h2⟩ := fold_fits (b := b) rows (simpStep b out r) (fun x hx => h x (by simp [hx])) hs.2
    exact ⟨by rw [List.length_cons]; omega, h2⟩
theorem simp_len {s : Sys} (h : validS s = true) : (simpS s).rows.length ≤ s.rows.length := by
  have := (fold_fits (b := s.box) s.rows [] (validB_ok (validS_parts h).2.2.1.2).2.2 (by simp)).1
  rw [List.length_nil, Nat.zero_add] at this
  exact this
theorem simp_valid {s : Sys} (h : validS s = true) : validS (simpS s) = true := by
  have hf := fold_fits (b := s.box) s.rows [] (validB_ok (validS_parts h).2.2.1.2).2.2 (by simp)
  have hl := (validS_parts h).2.2.1.1
  unfold validS at h ⊢
  unfold simpS simpRows
  dsimp only
  simp only [Bool.and_eq_true] at h ⊢
  refine ⟨⟨⟨⟨⟨h.1.1.1.1.1, ?_⟩, h.1.1.1.2⟩, h.1.1.2⟩, h.1.2⟩, h.2⟩
  unfold rowsOk validB
  rw [Bool.and_eq_true, Bool.and_eq_true]
  refine ⟨decide_eq_true (by have := hf.1; simp at this; omega), h.1.1.1.1.1.1, ?_⟩
  rw [Bool.not_eq_true', List.any_eq_false]
  intro r hr
  rw [hf.2 r hr]
  simp
theorem any_bad (vs : List Int) (l : List Row) : l.any (badR vs) = !l.all (holdsR vs) := by
  induction l with
  | nil => rfl
  | cons r l ih =>
    rw [List.any_cons, List.all_cons, ih]
    unfold badR
    cases holdsR vs r <;> simp
theorem simp_holds {s : Sys} (h : validS s = true) (vs : List Int) (hc : containsB s.box vs = true) : holdsS (simpS s) vs = holdsS s vs := by
  unfold holdsS
  rw [simp_valid h, h, show (simpS s).box = s.box from rfl, hc]
  unfold solvesB
  rw [show (simpS s).graphs = s.graphs from rfl, show (simpS s).cases = s.cases from rfl, any_bad vs (simpS s).rows, any_bad vs s.rows]
  have := fold_all (validS_parts h).1 hc s.rows [] (validB_ok (validS_parts h).2.2.1.2).2.2
  rw [show (simpS s).rows = s.rows.foldl (simpStep s.box) [] from rfl, this]
  simp
end Go.Proofs.Ytfllmnaillilhaa
