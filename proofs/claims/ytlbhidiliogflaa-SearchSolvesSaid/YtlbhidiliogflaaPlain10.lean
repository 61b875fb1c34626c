
/-
The two tests for cycles agree.
-/
import Derived.Test.YtlbhidiliogflaaRA
namespace Go.Proofs.Ytlbhidiliogflaa
set_option linter.unusedSimpArgs false
set_option linter.unusedVariables false
open Go.RowKit

/-- vertices each of which an edge reaches from one of them -/
def Stuck (s : Nat) (E : Nat → Nat → Bool) (S : Nat → Prop) : Prop := ∀ v, v < s → S v → ∃ u, u < s ∧ S u ∧ E u v = true
theorem count_le : ∀ (l l' : List Bool), l.length = l'.length → (∀ v, l'.getD v false = true → l.getD v false = true) → l'.countP id ≤ l.countP id
  | [], [], _, _ => Nat.le_refl _
  | x :: l, y :: l', hl, h => by
    have ih := count_le l l' (by simpa using hl) (fun v hv => by simpa using h (v + 1) (by simpa using hv))
    have h0 := h 0
    simp only [List.getD_cons_zero] at h0
    cases x <;> cases y <;> simp_all <;> omega
theorem count_lt : ∀ (l l' : List Bool), l.length = l'.length → (∀ v, l'.getD v false = true → l.getD v false = true) → (∃ v, l.getD v false = true ∧ l'.getD v false = false) → l'.countP id < l.countP id
  | [], [], _, _, ⟨v, hv, _⟩ => by simp at hv
  | x :: l, y :: l', hl, h, ⟨v, hv, hv'⟩ => by
    have hs : ∀ v, l'.getD v false = true → l.getD v false = true := fun v hv => by simpa using h (v + 1) (by simpa using hv)
    have h0 := h 0
    simp only [List.getD_cons_zero] at h0
    cases v with
    | zero =>
      simp only [List.getD_cons_zero] at hv hv'
      have ih := count_le l l' (by simpa using hl) hs
      subst hv hv'
      simp
      omega
    | succ v =>
      have ih := count_lt l l' (by simpa using hl) hs ⟨v, by simpa using hv, by simpa using hv'⟩
      cases x <;> cases y <;> simp_all <;> omega
theorem getD_set_false (l : List Bool) (a v : Nat) : (l.set a false).getD v false = true ↔ l.getD v false = true ∧ v ≠ a := by
  by_cases h : a = v
  · subst h
    by_cases h2 : a < l.length <;> simp [List.getD, h2]
  · have : v ≠ a := fun e => h e.symm
    simp [List.getD, List.getElem?_set_ne h, this]
section
variable {s : Nat} {es : List Bool} {E : Nat → Nat → Bool}
theorem passQ_len : ∀ (l : List Nat) (left : List Bool), (passQ s es l left).length = left.length
  | [], _ => rfl
  | a :: r, left => by
    unfold passQ
    rw [passQ_len r]
    split <;> simp
theorem passQ_sub : ∀ (l : List Nat) (left : List Bool) (v : Nat), (passQ s es l left).getD v false = true → left.getD v false = true
  | [], _, _, h => h
  | a :: r, left, v, h => by
    unfold passQ at h
    have h1 := passQ_sub r _ v h
    split at h1
    · exact ((getD_set_false _ _ _).1 h1).1
    · exact h1
theorem freeQ_iff {left : List Bool} {a : Nat} : freeQ s es left a = true ↔ ∀ b, b < s → left.getD b false = true → es.getD (b * s + a) false = false := by
  unfold freeQ
  simp only [Bool.not_eq_true', List.any_eq_false, List.mem_range, Bool.and_eq_true, not_and]
  constructor
  · intro h b hb hl
    have := h b hb hl
    simpa using this
  · intro h b hb hl
    rw [h b hb hl]
    simp
theorem passQ_free : ∀ (l : List Nat) (left : List Bool) (v : Nat), v ∈ l → freeQ s es left v = true → (passQ s es l left).getD v false = false
  | a :: r, left, v, hv, hf => by
    unfold passQ
    by_cases h : v = a
    · subst h
      rw [if_pos hf]
      cases hq : (passQ s es r (left.set v false)).getD v false with
      | false => rfl
      | true => exact absurd rfl ((getD_set_false _ _ _).1 (passQ_sub r _ v hq)).2
    · refine passQ_free r _ v ((List.mem_cons.1 hv).resolve_left h) ?_
      split
      · exact freeQ_iff.2 fun b hb hl => freeQ_iff.1 hf b hb ((getD_set_false _ _ _).1 hl).1
      · exact hf
theorem passQ_stuck {S : Nat → Prop} (hS : Stuck s E S) (hE : ∀ u v, u < s → v < s → es.getD (u * s + v) false = E u v) : ∀ (l : List Nat) (left : List Bool), (∀ a ∈ l, a < s) → (∀ v, v < s → S v → left.getD v false = true) → ∀ v, v < s → S v → (passQ s es l left).getD v false = true
  | [], _, _, h => h
  | a :: r, left, hl, h => by
    unfold passQ
    refine passQ_stuck hS hE r _ (fun x hx => hl x (List.mem_cons_of_mem _ hx)) fun v hv hSv => ?_
    split
    · rename_i hf
      refine (getD_set_false _ _ _).2 ⟨h v hv hSv, fun e => ?_⟩
      subst e
      obtain ⟨u, hu, hSu, hEu⟩ := hS v hv hSv
      have := freeQ_iff.1 hf u hu (h u hu hSu)
      rw [hE u v hu hv, hEu] at this
      cases this
    · exact h v hv hSv
theorem roundsQ_stuck {S : Nat → Prop} (hS : Stuck s E S) (hE : ∀ u v, u < s → v < s → es.getD (u * s + v) false = E u v) : ∀ (n : Nat) (left : List Bool), (∀ v, v < s → S v → left.getD v false = true) → ∀ v, v < s → S v → (roundsQ s es n left).getD v false = true
  | 0, _, h => h
  | n + 1, left, h => by
    unfold roundsQ
    exact roundsQ_stuck hS hE n _ (passQ_stuck hS hE _ _ (fun a ha => List.mem_range.1 ha) h)
theorem roundsQ_none (hE : ∀ u v, u < s → v < s → es.getD (u * s + v) false = E u v) (hN : ∀ S, Stuck s E S → ∀ v, v < s → ¬ S v) : ∀ (n : Nat) (left : List Bool), left.length = s → left.countP id ≤ n → (roundsQ s es n left).countP id = 0
  | 0, left, _, h => by unfold roundsQ; omega
  | n + 1, left, hl, h => by
    unfold roundsQ
    refine roundsQ_none hE hN n _ (by rw [passQ_len, hl]) ?_
    by_cases h0 : left.countP id = 0
    · have := count_le left (passQ s es (List.range s) left) (by rw [passQ_len]) (fun v hv => passQ_sub _ _ v hv)
      omega
    · have hx : ∃ v, v < s ∧ left.getD v false = true ∧ ∀ u, u < s → left.getD u false = true → E u v = false := by
        refine Classical.byContradiction fun hno => ?_
        have hst : Stuck s E (fun v => left.getD v false = true) := fun v hv hSv => by
          refine Classical.byContradiction fun hn2 => hno ⟨v, hv, hSv, fun u hu hlu => ?_⟩
          cases he : E u v with
          | false => rfl
          | true => exact absurd ⟨u, hu, hlu, he⟩ hn2
        obtain ⟨x, hx, hxi⟩ := List.countP_pos_iff.1 (Nat.pos_of_ne_zero h0)
        obtain ⟨i, hi, rfl⟩ := List.getElem_of_mem hx
        exact hN _ hst i (by omega) (show left.getD i false = true by rw [List.getD, List.getElem?_eq_getElem hi]; simpa using hxi)
      obtain ⟨v, hv, hlv, hf⟩ := hx
      have hfr : freeQ s es left v = true := freeQ_iff.2 fun b hb hlb => by rw [hE b v hb hv]; exact hf b hb hlb
      have := count_lt left (passQ s es (List.range s) left) (by rw [passQ_len]) (fun v hv => passQ_sub _ _ v hv) ⟨v, hlv, passQ_free _ _ v (List.mem_range.2 hv) hfr⟩
      omega
theorem any_of_count {l : List Bool} (h : l.countP id = 0) : l.any id = false := by
  rw [List.any_eq_false]
  intro x hx
  have := List.countP_eq_zero.1 h x hx
  simpa using this
theorem acyQ_iff (hE : ∀ u v, u < s → v < s → es.getD (u * s + v) false = E u v) : acyQ s es = true ↔ ∀ S, Stuck s E S → ∀ v, v < s → ¬ S v := by
  constructor
  · intro h S hS v hv hSv
    have h1 := roundsQ_stuck hS hE s (List.replicate s true) (fun v hv _ => by simp [List.getD, hv]) v hv hSv
    unfold acyQ at h
    rw [Bool.not_eq_true', List.any_eq_false] at h
    have h2 : v < (roundsQ s es s (List.replicate s true)).length := by
      refine Classical.byContradiction fun hge => ?_
      simp [List.getD, List.getElem?_eq_none (Nat.le_of_not_lt hge)] at h1
    have h3 := h _ (List.getElem_mem h2)
    simp [List.getD, h2] at h1
    exact h3 (by simpa using h1)
  · intro h
    unfold acyQ
    rw [any_of_count (roundsQ_none hE h s _ (by simp) (by rw [List.countP_replicate]; simp))]
    rfl
end
section
variable {f s : Nat} {le vs : List Int}
theorem freeB_iff {gone : List Bool} {x : Nat} : freeB f s le vs gone x = true ↔ gone.getD x true = false ∧ ∀ u, u < s → gone.getD u true = false → edgB f s le vs u x = false := by
  unfold freeB
  simp only [Bool.and_eq_true, Bool.not_eq_true', List.any_eq_false, not_and]
  constructor
  · rintro ⟨h1, h2⟩
    refine ⟨h1, fun u hu hg => ?_⟩
    have := h2 (u : Int) (by unfold numsL; exact List.mem_map.2 ⟨u, List.mem_range.2 hu, rfl⟩)
    simp only [Int.toNat_natCast] at this
    simpa using this hg
  · rintro ⟨h1, h2⟩
    refine ⟨h1, fun r hr hg => ?_⟩
    obtain ⟨u, rfl, hu⟩ := numsL_mem hr
    simp only [Int.toNat_natCast] at hg ⊢
    rw [h2 u hu (by simpa using hg)]
    simp
theorem idx_free {gone : List Bool} : (idxF (fun r => freeB f s le vs gone r.toNat) 0 (numsL s) < 0 ∧ ∀ x, x < s → freeB f s le vs gone x = false) ∨ ∃ x, x < s ∧ idxF (fun r => freeB f s le vs gone r.toNat) 0 (numsL s) = (x : Int) ∧ freeB f s le vs gone x = true := by
  rcases idxF_cases (fun r => freeB f s le vs gone r.toNat) 0 (numsL s) with ⟨h1, h2⟩ | ⟨j, hj, h1, h2, -⟩
  · left
    rw [h1]
    refine ⟨by decide, fun x hx => ?_⟩
    rw [List.any_eq_false] at h2
    have := h2 (x : Int) (by unfold numsL; exact List.mem_map.2 ⟨x, List.mem_range.2 hx, rfl⟩)
    simp only [Int.toNat_natCast] at this
    simpa using this
  · right
    have hj' : j < s := by rw [numsL_len] at hj; exact hj
    refine ⟨j, hj', by rw [h1, Nat.zero_add], ?_⟩
    have e : (numsL s)[j] = (j : Int) := by simp [numsL]
    rw [e] at h2
    simpa using h2
theorem count_set_true {gone : List Bool} {x : Nat} (h : gone.getD x true = false) : gone.countP (! ·) = (gone.set x true).countP (! ·) + 1 := by
  induction gone generalizing x with
  | nil => simp at h
  | cons g gone ih =>
    cases x with
    | zero =>
      simp only [List.getD_cons_zero] at h
      subst h
      simp
    | succ x =>
      have := ih (x := x) (by simpa using h)
      simp only [List.set_cons_succ, List.countP_cons]
      omega
theorem getD_set_true (l : List Bool) (a v : Nat) : (l.set a true).getD v true = false ↔ l.getD v true = false ∧ v ≠ a := by
  by_cases h : a = v
  · subst h
    by_cases h2 : a < l.length <;> simp [List.getD, h2]
  · have : v ≠ a := fun e => h e.symm
    simp [List.getD, List.getElem?_set_ne h, this]
theorem acyF_yes {S : Nat → Prop} (hS : Stuck s (edgB f s le vs) S) : ∀ (n : Nat) (gone : List Bool), gone.countP (! ·) ≤ n → acyF f s le vs n gone = true → (∀ v, v < s → S v → gone.getD v true = false) → ∀ v, v < s → ¬ S v
  | 0, gone, hc, _, h => fun v hv hSv => by
    have h1 := h v hv hSv
    have h2 : v < gone.length := by
      refine Classical.byContradiction fun hge => ?_
      simp [List.getD, List.getElem?_eq_none (Nat.le_of_not_lt hge)] at h1
    have h3 : gone.countP (! ·) = 0 := by omega
    have h4 := List.countP_eq_zero.1 h3 _ (List.getElem_mem h2)
    simp [List.getD, h2] at h1
    simp [h1] at h4
  | n + 1, gone, hc, ha, h => by
    unfold acyF at ha
    rcases idx_free (f := f) (s := s) (le := le) (vs := vs) (gone := gone) with ⟨h1, -⟩ | ⟨x, hx, h1, h2⟩
    · rw [if_pos h1] at ha
      cases ha
    · rw [h1, if_neg (by omega), Int.toNat_natCast] at ha
      obtain ⟨f1, f2⟩ := freeB_iff.1 h2
      have hct := count_set_true f1
      refine acyF_yes hS n (gone.set x true) (by omega) ha fun v hv hSv => (getD_set_true _ _ _).2 ⟨h v hv hSv, fun e => ?_⟩
      subst e
      obtain ⟨u, hu, hSu, hEu⟩ := hS v hv hSv
      rw [f2 u hu (h u hu hSu)] at hEu
      cases hEu
theorem acyF_no : ∀ (n : Nat) (gone : List Bool), n ≤ gone.countP (! ·) → gone.length = s → acyF f s le vs n gone = false → ∃ S, Stuck s (edgB f s le vs) S ∧ ∃ v, v < s ∧ S v
  | 0, _, _, _, ha => by unfold acyF at ha; cases ha
  | n + 1, gone, hc, hl, ha => by
    unfold acyF at ha
    rcases idx_free (f := f) (s := s) (le := le) (vs := vs) (gone := gone) with ⟨h1, h2⟩ | ⟨x, hx, h1, h2⟩
    · refine ⟨fun v => gone.getD v true = false, fun v hv hg => ?_, ?_⟩
      · refine Classical.byContradiction fun hno => ?_
        have h3 := h2 v hv
        rw [freeB_iff.2 ⟨hg, fun u hu hgu => by
          cases he : edgB f s le vs u v with
          | false => rfl
          | true => exact absurd ⟨u, hu, hgu, he⟩ hno⟩] at h3
        cases h3
      · obtain ⟨y, hy, hyi⟩ := List.countP_pos_iff.1 (show 0 < gone.countP (! ·) by omega)
        obtain ⟨i, hi, rfl⟩ := List.getElem_of_mem hy
        exact ⟨i, by omega, show gone.getD i true = false by rw [List.getD, List.getElem?_eq_getElem hi]; simpa using hyi⟩
    · rw [h1, if_neg (by omega), Int.toNat_natCast] at ha
      have hct := count_set_true (freeB_iff.1 h2).1
      exact acyF_no n (gone.set x true) (by omega) (by simpa using hl) ha
theorem acyF_iff : acyF f s le vs s (List.replicate s false) = true ↔ ∀ S, Stuck s (edgB f s le vs) S → ∀ v, v < s → ¬ S v := by
  constructor
  · intro h S hS
    exact acyF_yes hS s _ (by rw [List.countP_replicate]; simp) h (fun v hv _ => by simp [List.getD, hv])
  · intro h
    cases ha : acyF f s le vs s (List.replicate s false) with
    | true => rfl
    | false =>
      obtain ⟨S, hS, v, hv, hSv⟩ := acyF_no s (List.replicate s false) (by rw [List.countP_replicate]; simp) (by simp) ha
      exact absurd hSv (h S hS v hv)
theorem edges_at {u v : Nat} (hu : u < s) (hv : v < s) : (edgesL f le vs (s * s)).getD (u * s + v) false = edgB f s le vs u v := by
  have h := at_row hu hv (Nat.le_refl (s * s))
  unfold edgesL edgB
  rw [show f + u * s + v = f + (u * s + v) by omega]
  generalize u * s + v = i at *
  simp only [List.getD, List.getElem?_map, List.getElem?_range h, Option.map_some, Option.getD_some]
end
/-- both tests agree -/
theorem acy_eq (g : Gr) (vs : List Int) : acyQ g.size.toNat (edgesL g.first.toNat g.least vs (g.size.toNat * g.size.toNat)) = acyG g vs := by
  have h1 := acyQ_iff (s := g.size.toNat) (es := edgesL g.first.toNat g.least vs (g.size.toNat * g.size.toNat)) (E := edgB g.first.toNat g.size.toNat g.least vs) (fun u v hu hv => edges_at hu hv)
  have h2 := acyF_iff (f := g.first.toNat) (s := g.size.toNat) (le := g.least) (vs := vs)
  unfold acyG
  rw [Bool.eq_iff_iff, h1, h2]
end Go.Proofs.Ytlbhidiliogflaa
