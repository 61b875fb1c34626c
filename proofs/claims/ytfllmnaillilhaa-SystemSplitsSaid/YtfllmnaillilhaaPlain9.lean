
/-
A cell gets a value: the solutions with that value stay, and there are as many. No program in sight.
-/
import Derived.Test.YtfllmnaillilhaaPlain7
import Derived.Test.YtfllmnaillilhaaSys23
namespace Go.Proofs.Ytfllmnaillilhaa
set_option linter.unusedSimpArgs false
set_option linter.unusedVariables false
open Go.RowKit

theorem sub_value {c x : Int} {vs : List Int} (hx : vs.getD c.toNat 0 = x) : ∀ (ts : List Term) (bd : Int), subB c x bd ts - valueL vs 0 (dropC c ts) = bd - valueL vs 0 ts
  | [], bd => by simp [subB, dropC, valueL]
  | t :: ts, bd => by
    by_cases h : t.cell = c
    · have e : dropC c (t :: ts) = dropC c ts := by simp [dropC, h]
      rw [e]
      unfold subB
      rw [if_pos h, sub_value hx ts]
      rw [show valueL vs 0 (t :: ts) = valueL vs (0 + t.factor * vs.getD t.cell.toNat 0) ts from rfl, valueL_acc vs ts (0 + t.factor * vs.getD t.cell.toNat 0), h, hx]
      omega
    · have e : dropC c (t :: ts) = t :: dropC c ts := by simp [dropC, h]
      rw [e]
      unfold subB
      rw [if_neg h]
      rw [show valueL vs 0 (t :: ts) = valueL vs (0 + t.factor * vs.getD t.cell.toNat 0) ts from rfl, valueL_acc vs ts (0 + t.factor * vs.getD t.cell.toNat 0), show valueL vs 0 (t :: dropC c ts) = valueL vs (0 + t.factor * vs.getD t.cell.toNat 0) (dropC c ts) from rfl, valueL_acc vs (dropC c ts) (0 + t.factor * vs.getD t.cell.toNat 0)]
      have := sub_value hx ts bd
      omega
theorem sub_holds {c x : Int} {vs : List Int} (hx : vs.getD c.toNat 0 = x) (r : Row) : badR vs (subRow c x r) = badR vs r := by
  have h := sub_value hx r.terms r.bound
  have e : holdsR vs (subRow c x r) = holdsR vs r := by
    unfold holdsR subRow
    rw [decide_eq_decide]
    dsimp only
    omega
  unfold badR
  rw [e]
theorem sub_any {c x : Int} {vs : List Int} (hx : vs.getD c.toNat 0 = x) (l : List Row) : (l.map (subRow c x)).any (badR vs) = l.any (badR vs) := by
  rw [List.any_map]
  congr 1
  funext r
  exact sub_holds hx r
theorem sub_solves {s : Sys} {c x : Int} {vs : List Int} (hx : vs.getD c.toNat 0 = x) : solvesB (subS s c x) vs = solvesB s vs := by
  unfold solvesB subS
  dsimp only
  rw [sub_any hx, List.any_map]
  have e : (goodC vs ∘ fun l => l.map (subRow c x)) = goodC vs := by
    funext l
    show goodC vs (l.map (subRow c x)) = goodC vs l
    unfold goodC
    rw [sub_any hx]
  rw [e]
  cases s.cases <;> simp
theorem fitsL_drop {n c : Int} : ∀ (l : List Term) (last last' : Int), last' ≤ last → fitsL n last l = true → fitsL n last' (dropC c l) = true
  | [], _, _, _, _ => rfl
  | t :: l, last, last', hl, h => by
    unfold fitsL at h
    by_cases hb : badT n last t
    · rw [if_pos hb] at h
      exact absurd h (by simp)
    · rw [if_neg hb] at h
      unfold badT at hb
      by_cases hc : t.cell = c
      · rw [show dropC c (t :: l) = dropC c l by simp [dropC, hc]]
        exact fitsL_drop l t.cell last' (by omega) h
      · rw [show dropC c (t :: l) = t :: dropC c l by simp [dropC, hc]]
        unfold fitsL
        rw [if_neg (by unfold badT; omega)]
        exact fitsL_drop l t.cell t.cell (Int.le_refl _) h
theorem sub_fits {n c x : Int} {r : Row} (hf : fitsB n r = true) (hi : inBd (subB c x r.bound r.terms) = true) : fitsB n (subRow c x r) = true := by
  unfold fitsB at hf ⊢
  unfold inBd at hi
  unfold subRow
  dsimp only
  simp only [Bool.and_eq_true, decide_eq_true_eq] at *
  exact ⟨fitsL_drop _ _ _ (Int.le_refl _) hf.1, hi⟩
theorem box_set : ∀ (b : List Rng) (c : Nat) (x : Int), boxL b = true → -1000000 ≤ x → x ≤ 1000000 → boxL (b.set c ⟨x, x⟩) = true
  | [], _, _, _, _, _ => rfl
  | r :: b, 0, x, h, h1, h2 => by
    unfold boxL at h
    rw [List.set_cons_zero]
    unfold boxL
    split at h
    · exact absurd h (by simp)
    · rw [if_neg (by unfold bad; dsimp only; omega)]
      exact h
  | r :: b, c + 1, x, h, h1, h2 => by
    unfold boxL at h
    rw [List.set_cons_succ]
    unfold boxL
    split at h
    · exact absurd h (by simp)
    · rename_i hb
      rw [if_neg hb]
      exact box_set b c x h h1 h2
theorem sub_rowsOk {b b' : List Rng} {l : List Row} {m c x : Int} (hb : boxB b' = true) (hl : b'.length = b.length) (h : rowsOk b l m = true) (hf : fineL c x l = true) : rowsOk b' (l.map (subRow c x)) m = true := by
  unfold rowsOk at h ⊢
  rw [Bool.and_eq_true] at h ⊢
  have hv := (validB_ok h.2).2.2
  refine ⟨by rw [List.length_map]; exact h.1, ?_⟩
  unfold validB
  rw [hb, Bool.true_and, Bool.not_eq_true', List.any_eq_false]
  intro r hr
  obtain ⟨y, hy, rfl⟩ := List.mem_map.1 hr
  unfold fineL at hf
  rw [hl, sub_fits (hv y hy) (List.all_eq_true.1 hf y hy)]
  simp
theorem sub_valid {s : Sys} {c : Nat} {x : Int} (h : validS s = true) (hc : c < s.box.length) (h1 : s.box[c].lo ≤ x) (h2 : x ≤ s.box[c].hi) (hf : (s.rows :: s.cases).all (fineL c x) = true) : validS (subS s c x) = true := by
  obtain ⟨p1, p2, -⟩ := validS_parts h
  have hbad := (validB_ok (validS_parts h).2.2.1.2).1 s.box[c] (List.getElem_mem hc)
  rw [List.all_cons, Bool.and_eq_true] at hf
  have hb : boxB (s.box.set c ⟨x, x⟩) = true := by
    unfold boxB at p1 ⊢
    rw [Bool.and_eq_true] at p1 ⊢
    unfold bad at hbad
    exact ⟨box_set _ _ _ p1.1 (by omega) (by omega), by rw [List.length_set]; exact p1.2⟩
  unfold validS at h ⊢
  unfold subS
  rw [Int.toNat_natCast]
  dsimp only
  simp only [Bool.and_eq_true, List.length_set, List.length_map] at h ⊢
  refine ⟨⟨⟨⟨⟨⟨hb, ?_⟩, sub_rowsOk hb (by simp) h.1.1.1.1.2 hf.1⟩, h.1.1.1.2⟩, h.1.1.2⟩, h.1.2⟩, ?_⟩
  · rw [Bool.not_eq_true', List.any_eq_false]
    intro r hr
    rcases List.mem_or_eq_of_mem_set hr with hr | rfl
    · exact List.any_eq_false.1 p2 r hr
    · simp [emptyR]
  · have h8 := h.2
    rw [Bool.not_eq_true', List.any_eq_false] at h8 ⊢
    intro l hl
    obtain ⟨y, hy, rfl⟩ := List.mem_map.1 hl
    have h9 := h8 y hy
    rw [sub_rowsOk (b := s.box) hb (by simp) (by simpa using h9) (List.all_eq_true.1 hf.2 y hy)]
    simp
theorem inB_set : ∀ (b : List Rng) (c : Nat) (x : Int) (vs : List Int) (hc : c < b.length), b[c].lo ≤ x → x ≤ b[c].hi → (inB (b.set c ⟨x, x⟩) vs ↔ (inB b vs ∧ vs.getD c 0 = x))
  | [], _, _, _, hc, _, _ => absurd hc (by simp)
  | r :: b, 0, x, [], _, _, _ => by simp [inB]
  | r :: b, c + 1, x, [], _, _, _ => by simp [inB]
  | r :: b, 0, x, v :: vs, hc, h1, h2 => by
    rw [List.set_cons_zero]
    unfold inB
    simp only [List.getElem_cons_zero, List.getD_cons_zero] at *
    constructor
    · rintro ⟨a1, a2, a3⟩
      exact ⟨⟨by omega, by omega, a3⟩, by omega⟩
    · rintro ⟨⟨a1, a2, a3⟩, a4⟩
      exact ⟨by omega, by omega, a3⟩
  | r :: b, c + 1, x, v :: vs, hc, h1, h2 => by
    rw [List.set_cons_succ]
    unfold inB
    rw [inB_set b c x vs (by simpa using hc) (by simpa using h1) (by simpa using h2), List.getD_cons_succ]
    constructor
    · rintro ⟨a1, a2, a3, a4⟩
      exact ⟨⟨a1, a2, a3⟩, a4⟩
    · rintro ⟨⟨a1, a2, a3⟩, a4⟩
      exact ⟨a1, a2, a3, a4⟩
theorem prod_set : ∀ (b : List Rng) (c : Nat) (x : Int), wide b → prodB (b.set c ⟨x, x⟩) ≤ prodB b
  | [], _, _, _ => Int.le_refl _
  | r :: b, 0, x, h => by
    rw [List.set_cons_zero]
    unfold prodB
    have h1 := h r (by simp)
    have h2 := prodB_pos b (fun y hy => h y (by simp [hy]))
    exact Int.mul_le_mul_of_nonneg_right (by dsimp only; omega) (by omega)
  | r :: b, c + 1, x, h => by
    rw [List.set_cons_succ]
    unfold prodB
    have h1 := h r (by simp)
    exact Int.mul_le_mul_of_nonneg_left (prod_set b c x (fun y hy => h y (by simp [hy]))) (by omega)
theorem wide_set {b : List Rng} (h : wide b) (c : Nat) (x : Int) : wide (b.set c ⟨x, x⟩) := fun r hr => by
  rcases List.mem_or_eq_of_mem_set hr with hr | rfl
  · exact h r hr
  · exact Int.le_refl _
/-- the count of the values with this value of the cell -/
def cntV (s : Sys) (c : Nat) (x : Int) : Nat := cntS (solvesB s) (s.box.set c ⟨x, x⟩)
theorem cntV_bd {s : Sys} {c : Nat} {x : Int} (h : validS s = true) (hs : sizeB s.box ≤ 300) : cntV s c x ≤ 300 := by
  obtain ⟨p1, p2, -⟩ := validS_parts h
  have h1 := List.countP_le_length (p := solvesB s) (l := allS (s.box.set c ⟨x, x⟩))
  have h2 := allS_length _ (wide_set (wide_of p2) c x)
  have h3 := prod_set s.box c x (wide_of p2)
  have h4 := size_prod p1 p2 hs
  unfold cntV cntS
  omega
theorem sub_count {s : Sys} {c : Nat} {x : Int} (h : validS s = true) (hs : sizeB s.box ≤ 300) (hc : c < s.box.length) (h1 : s.box[c].lo ≤ x) (h2 : x ≤ s.box[c].hi) (hf : (s.rows :: s.cases).all (fineL c x) = true) : CountR (subS s c x) = ((cntV s c x : Int), 0) := by
  have hv := sub_valid h hc h1 h2 hf
  obtain ⟨p1, p2, -⟩ := validS_parts h
  obtain ⟨q1, q2, -⟩ := validS_parts hv
  have e : (subS s c x).box = s.box.set c ⟨x, x⟩ := by unfold subS; rw [Int.toNat_natCast]
  have hsz : ¬ 65536 < sizeB (subS s c x).box := by
    have h3 := prod_set s.box c x (wide_of p2)
    have h4 := size_prod p1 p2 hs
    unfold sizeB at hs h4 ⊢
    rw [if_pos ⟨p1, p2⟩] at hs h4
    rw [if_pos ⟨q1, q2⟩, sizeL_min _ 1 (wide_of q2) (by omega) (by omega)]
    rw [e] at *
    omega
  rw [CountR_2 hv hsz, e]
  unfold cntV cntS
  congr 2
  apply List.countP_congr
  intro vs hvs
  have hi := (inB_set s.box c x vs hc h1 h2).1 ((allS_mem _ _).1 hvs)
  rw [sub_solves (by rw [Int.toNat_natCast]; exact hi.2)]
theorem sub_has {s : Sys} {c : Nat} {x : Int} (h : validS s = true) (hc : c < s.box.length) (h1 : s.box[c].lo ≤ x) (h2 : x ≤ s.box[c].hi) (hf : (s.rows :: s.cases).all (fineL c x) = true) (vs : List Int) (hx : vs.getD c 0 = x) : holdsS (subS s c x) vs = holdsS s vs := by
  have hv := sub_valid h hc h1 h2 hf
  have e : (subS s c x).box = s.box.set c ⟨x, x⟩ := by unfold subS; rw [Int.toNat_natCast]
  unfold holdsS
  rw [hv, h, e, sub_solves (by rw [Int.toNat_natCast]; exact hx)]
  have hb : containsB (s.box.set c ⟨x, x⟩) vs = containsB s.box vs := by
    rw [Bool.eq_iff_iff, ← inB_iff, ← inB_iff, inB_set s.box c x vs hc h1 h2]
    exact ⟨fun a => a.1, fun a => ⟨a, hx⟩⟩
  rw [hb]
/-- the sum of the first k counts -/
def sumV (s : Sys) (c : Nat) (lo : Int) (k : Nat) : Nat := ((List.range k).map fun j : Nat => cntV s c (lo + (j : Int))).sum
theorem sumV_succ (s : Sys) (c : Nat) (lo : Int) (k : Nat) : sumV s c lo (k + 1) = sumV s c lo k + cntV s c (lo + (k : Int)) := by
  unfold sumV
  rw [List.range_succ, List.map_append, List.sum_append]
  simp
theorem sumV_bd {s : Sys} (c : Nat) (lo : Int) (h : validS s = true) (hs : sizeB s.box ≤ 300) : ∀ k, sumV s c lo k ≤ 300 * k
  | 0 => by simp [sumV]
  | k + 1 => by
    rw [sumV_succ]
    have := sumV_bd c lo h hs k
    have := cntV_bd (c := c) (x := lo + (k : Int)) h hs
    omega
theorem sumV_all {s : Sys} {c : Nat} (hc : c < s.box.length) : cntS (solvesB s) s.box = sumV s c s.box[c].lo (s.box[c].hi - s.box[c].lo + 1).toNat := by
  rw [cnt_split (solvesB s) s.box c hc]
  unfold sumV rngL
  rw [List.map_map]
  rfl
theorem SubR_val {s : Sys} {c : Nat} {x : Int} (h : validS s = true) (hc : c < s.box.length) (h1 : s.box[c].lo ≤ x) (h2 : x ≤ s.box[c].hi) : SubR s c x = if (s.rows :: s.cases).all (fineL c x) then (subS s c x, 0) else (zSys, 8) := by
  unfold SubR
  rw [h, if_pos rfl, pick_at s.box c hc, if_pos ⟨by omega, by omega, h1, h2⟩]
end Go.Proofs.Ytfllmnaillilhaa
