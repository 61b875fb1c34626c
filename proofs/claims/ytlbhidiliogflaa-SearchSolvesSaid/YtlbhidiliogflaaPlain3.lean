
/-
Plain facts on fixed boxes: fixed again they stay, and each end of each range leaves every row room. No program in sight.
-/
import Derived.Test.YtlbhidiliogflaaPA
import Derived.Test.YtlbhidiliogflaaKB
namespace Go.Proofs.Ytlbhidiliogflaa
set_option linter.unusedSimpArgs false
set_option linter.unusedVariables false
open Go.RowKit

theorem boundL_split (M : List Rng) (n wo : Int) : ∀ (l : List Term) (last : Int), -1 ≤ last → fitsL n last l = true →
    boundL M (-1) 1 0 l = boundL M wo 1 0 l + (match l.find? (fun t => t.cell == wo) with | none => 0 | some t => termV M (-1) 1 t)
  | [], _, _, _ => by simp [boundL]
  | t :: l, last, h0, h => by
    unfold fitsL at h
    split at h
    · simp at h
    · rename_i hb
      unfold badT at hb
      have hokl := (fitsL_ok n l t.cell (by omega) h).1
      have ih := boundL_split M n wo l t.cell (by omega) h
      unfold boundL
      rw [boundL_acc _ _ _ l (0 + _), boundL_acc _ _ _ l (0 + termV M wo 1 t), ih]
      by_cases hc : t.cell = wo
      · have hnone : l.find? (fun t => t.cell == wo) = none := by
          rw [List.find?_eq_none]
          intro x hx
          have := hokl x hx
          simp
          omega
        rw [hnone]
        have hz : termV M wo 1 t = 0 := by unfold termV; rw [if_pos hc]
        simp [hc, hz]
        omega
      · have hz : termV M (-1) 1 t = termV M wo 1 t := by unfold termV; rw [if_neg (by omega), if_neg hc]
        rw [List.find?_cons, show (t.cell == wo) = false by simpa using hc, hz]
        dsimp only
        omega
theorem boundL_agree (M L : List Rng) (wo : Int) (h : ∀ c : Int, 0 ≤ c → c ≠ wo → pick M c = pick L c) : ∀ (l : List Term) (acc : Int), (∀ t ∈ l, 0 ≤ t.cell) → boundL M wo 1 acc l = boundL L wo 1 acc l
  | [], _, _ => rfl
  | t :: l, acc, h0 => by
    unfold boundL
    have hz : termV M wo 1 t = termV L wo 1 t := by
      unfold termV
      by_cases hc : t.cell = wo
      · rw [if_pos hc, if_pos hc]
      · rw [if_neg hc, if_neg hc, h t.cell (h0 t (by simp)) hc]
    rw [hz]
    exact boundL_agree M L wo h l _ (fun t ht => h0 t (by simp [ht]))
theorem pick_with (L : List Rng) (j : Nat) (x : Rng) (c : Int) (h0 : 0 ≤ c) (hc : c ≠ j) : pick (withL L j x) c = pick L c := by
  obtain ⟨k, rfl⟩ := Int.eq_ofNat_of_zero_le h0
  unfold pick withL
  rw [if_pos (by omega)]
  simp only [Int.toNat_natCast, List.getD_eq_getElem?_getD]
  rw [List.getElem?_set_ne (by omega)]
theorem pick_with_self (L : List Rng) (j : Nat) (x : Rng) (hj : j < L.length) : pick (withL L j x) j = x := by
  unfold pick withL
  rw [if_pos (by omega)]
  simp [List.getD, hj]
theorem closed_le {rows : List Row} {L : List Rng} {n : Nat} (hr : ∀ r ∈ rows, fitsB n r = true) (hC : Closed rows L) {r : Row} (hrr : r ∈ rows) {t : Term} {c : Int} (hf : r.terms.find? (fun t => t.cell == c) = some t) (e : Int) (h1 : (pick L c).lo ≤ e) (h2 : e ≤ (pick L c).hi) :
    boundL L c 1 0 r.terms + t.factor * e ≤ r.bound := by
  have hm := List.mem_of_find?_eq_some hf
  have hcell : t.cell = c := by have := List.find?_some hf; simpa using this
  obtain ⟨c1, c2⟩ := hC r hrr t hm
  rw [hcell] at c1 c2
  have c3 := tightO_of_ne r L c c1
  rw [tightR_of_ne r L c c3] at c2
  have hnz := (fitsn_all (hr r hrr) t hm).2
  unfold tightO at c2
  rw [hf] at c2
  dsimp only at c2
  generalize boundL L c 1 0 r.terms = s at *
  generalize pick L c = p at *
  obtain ⟨pl, ph⟩ := p
  dsimp only at *
  by_cases h0 : 0 < t.factor
  · rw [if_pos h0] at c2
    injection c2 with _ c4
    have : e ≤ (r.bound - s) / t.factor := by omega
    have := (Int.le_ediv_iff_mul_le h0).1 this
    rw [Int.mul_comm]
    omega
  · rw [if_neg h0] at c2
    injection c2 with c4 _
    have : -e ≤ (r.bound - s) / -t.factor := by omega
    have := (Int.le_ediv_iff_mul_le (by omega)).1 this
    rw [Int.neg_mul_neg, Int.mul_comm] at this
    omega
theorem end_holds {rows : List Row} {L : List Rng} {n : Nat} (hfb : fineBox n L) (hr : ∀ r ∈ rows, fitsB n r = true) (hC : Closed rows L) (hn : noSol rows = false) {j : Nat} (hj : j < n) {e : Int} (h1 : (pick L j).lo ≤ e) (h2 : e ≤ (pick L j).hi) {r : Row} (hrr : r ∈ rows) :
    boundL (withL L j ⟨e, e⟩) (-1) 1 0 r.terms ≤ r.bound := by
  have hok := fitsn_all (hr r hrr)
  have hf : fitsL n (-1) r.terms = true := by have := hr r hrr; unfold fitsB at this; rw [Bool.and_eq_true] at this; exact this.1
  have hjl : j < L.length := by rw [hfb.1]; exact hj
  rw [boundL_split _ n j r.terms (-1) (by omega) hf, boundL_agree _ L j (fun c c0 hc => pick_with L j _ c c0 hc) r.terms 0 (fun t ht => (hok t ht).1.1)]
  cases hx : r.terms.find? (fun t => t.cell == (j : Int)) with
  | some t =>
    have hcell : t.cell = j := by have := List.find?_some hx; simpa using this
    have := closed_le hr hC hrr hx e h1 h2
    dsimp only
    unfold termV
    rw [hcell, if_neg (by omega), pick_with_self L j _ hjl]
    simpa using this
  | none =>
    have hs := boundL_split L n j r.terms (-1) (by omega) hf
    rw [hx] at hs
    rw [← hs]
    cases hts : r.terms with
    | nil =>
      unfold noSol at hn
      have := List.any_eq_false.1 hn r hrr
      rw [hts] at this
      simp at this
      simpa [boundL] using this
    | cons t l =>
      have hmem : t ∈ r.terms := by rw [hts]; simp
      have hfd : r.terms.find? (fun x => x.cell == t.cell) = some t := by rw [hts]; simp
      have hs2 := boundL_split L n t.cell r.terms (-1) (by omega) hf
      rw [hfd] at hs2
      rw [← hts, hs2]
      obtain ⟨⟨t0, t1, -, -⟩, -⟩ := hok t hmem
      obtain ⟨k, hk⟩ := Int.eq_ofNat_of_zero_le t0
      have hkl : k < L.length := by rw [hfb.1]; omega
      have hle : (pick L t.cell).lo ≤ (pick L t.cell).hi := by rw [hk, pick_at L k hkl]; exact hfb.2.2 _ (List.getElem_mem _)
      dsimp only
      unfold termV
      rw [if_neg (by omega)]
      split
      · exact closed_le hr hC hrr hfd _ (Int.le_refl _) hle
      · exact closed_le hr hC hrr hfd _ hle (Int.le_refl _)
theorem validB_rows {n : Nat} {out : List Rng} {rows : List Row} (h : fineBox n out) (hn : n ≤ 128) (hr : ∀ r ∈ rows, fitsB n r = true) : validB out rows = true := by
  have h0 := validB_fine (r := ⟨[], 0⟩) h hn (by simp [fitsB, fitsL])
  unfold validB at *
  rw [Bool.and_eq_true] at *
  refine ⟨h0.1, ?_⟩
  rw [Bool.not_eq_true', List.any_eq_false]
  intro r hrr
  rw [h.1, hr r hrr]
  simp
theorem fine_ne {n : Nat} {out : List Rng} (h : fineBox n out) : out.any emptyR = false := by
  rw [List.any_eq_false]
  intro r hr
  have := h.2.2 r hr
  unfold emptyR
  simp
  omega
/-- a fixed box fixed again stays as it is -/
theorem fix_fixed {b L : List Rng} {rows : List Row} (h : fixB b rows = some L) : fixB L rows = some L := by
  obtain ⟨c1, c2, c3, c4, c5, c6⟩ := fix_closed h
  obtain ⟨v1, v2, v3⟩ := validB_ok c1
  obtain ⟨L', hL', hS⟩ := fix_greatest (validB_rows c4 v2 v3) (fine_ne c4) c3 c6 (Sub.refl L)
  obtain ⟨-, -, -, -, d5, -⟩ := fix_closed hL'
  rw [hL', hS.antisymm d5]
theorem fine_with {n j : Nat} {L : List Rng} {e : Int} (h : fineBox n L) (hj : j < n) (h1 : (pick L j).lo ≤ e) (h2 : e ≤ (pick L j).hi) : fineBox n (withL L j ⟨e, e⟩) := by
  unfold withL
  rw [if_pos (by omega), Int.toNat_natCast]
  exact fineBox_set h hj h1 (Int.le_refl _) h2
theorem sum_end {b L : List Rng} {rows : List Row} (h : fixB b rows = some L) {j : Nat} (hj : j < L.length) {e : Int} (h1 : (pick L j).lo ≤ e) (h2 : e ≤ (pick L j).hi) {r : Row} (hrr : r ∈ rows) :
    (sumB r (withL L j ⟨e, e⟩)).1 ≤ r.bound := by
  obtain ⟨c1, c2, c3, c4, c5, c6⟩ := fix_closed h
  obtain ⟨v1, v2, v3⟩ := validB_ok c1
  have hj' : j < b.length := by rw [← c4.1]; exact hj
  unfold sumB
  rw [if_pos (validB_fine (fine_with c4 hj' h1 h2) v2 (v3 r hrr))]
  exact end_holds c4 v3 c6 c3 hj' h1 h2 hrr
end Go.Proofs.Ytlbhidiliogflaa
