
/-
Plain facts on boxes, rows and values: what holds for values in a box holds in the fixed box. No program in sight.
-/
import Derived.Test.YtmecjjfpgjpeoaaPlain1
import Derived.Test.YtmecjjfpgjpeoaaRef5
namespace Go.Proofs.Ytmecjjfpgjpeoaa
open Go.RowKit

/-- the box of one list of values -/
def sing (vs : List Int) : List Rng := vs.map fun v => ⟨v, v⟩
theorem sing_length (vs : List Int) : (sing vs).length = vs.length := by simp [sing]
theorem pick_sing (vs : List Int) (j : Nat) (hj : j < vs.length) : pick (sing vs) j = ⟨vs.getD j 0, vs.getD j 0⟩ := by
  rw [pick_at _ j (by rw [sing_length]; exact hj)]
  simp [sing, List.getD, hj]
theorem termV_sing (vs : List Int) (wo : Int) (t : Term) (h : okT vs.length t) : termV (sing vs) wo 1 t = if t.cell = wo then 0 else t.factor * vs.getD t.cell.toNat 0 := by
  obtain ⟨h0, h1, -, -⟩ := h
  obtain ⟨j, hj⟩ := Int.eq_ofNat_of_zero_le h0
  unfold termV
  rw [hj, pick_sing vs j (by omega)]
  simp
theorem valueL_acc (vs : List Int) : ∀ (l : List Term) (acc : Int), valueL vs acc l = acc + valueL vs 0 l
  | [], acc => by simp [valueL]
  | t :: l, acc => by
    unfold valueL
    rw [valueL_acc vs l (acc + _), valueL_acc vs l (0 + _)]
    omega
/-- the value of a row: the others' part, and the cell's -/
theorem valueL_split (vs : List Int) (n cell : Int) : ∀ (l : List Term) (last : Int), -1 ≤ last → fitsL n last l = true → (∀ t ∈ l, okT vs.length t) →
    valueL vs 0 l = boundL (sing vs) cell 1 0 l + (match l.find? (fun t => t.cell == cell) with | none => 0 | some t => t.factor * vs.getD cell.toNat 0)
  | [], _, _, _, _ => by simp [valueL, boundL]
  | t :: l, last, h0, h, hok => by
    unfold fitsL at h
    split at h
    · simp at h
    · rename_i hb
      unfold badT at hb
      have hokl := (fitsL_ok n l t.cell (by omega) h).1
      have ih := valueL_split vs n cell l t.cell (by omega) h (fun t ht => hok t (by simp [ht]))
      unfold valueL boundL
      rw [boundL_acc _ _ _ l (0 + _), valueL_acc _ l (0 + _), termV_sing vs cell t (hok t (by simp)), ih]
      by_cases hc : t.cell = cell
      · have hnone : l.find? (fun t => t.cell == cell) = none := by
          rw [List.find?_eq_none]
          intro x hx
          have := hokl x hx
          simp
          omega
        rw [hnone]
        simp [hc]
        omega
      · rw [List.find?_cons, show (t.cell == cell) = false by simpa using hc, if_neg hc]
        dsimp only
        omega
theorem not_badV {b : List Rng} {vs : List Int} (h : containsB b vs = true) : b.length = vs.length ∧ ∀ k : Nat, k < vs.length → (pick b k).lo ≤ vs.getD k 0 ∧ vs.getD k 0 ≤ (pick b k).hi := by
  unfold containsB at h
  rw [Bool.and_eq_true] at h
  have hl : b.length = vs.length := by simpa using h.1
  refine ⟨hl, fun k hk => ?_⟩
  have := contL_at b vs hl h.2 k hk
  unfold badV at this
  omega
theorem contL_of : ∀ (b : List Rng) (vs : List Int), (∀ k : Nat, k < vs.length → (pick b k).lo ≤ vs.getD k 0 ∧ vs.getD k 0 ≤ (pick b k).hi) → contL b vs = true
  | [], _, _ => by unfold contL; rfl
  | _ :: _, [], _ => by unfold contL; rfl
  | r :: b, x :: vs, h => by
    unfold contL
    have h0 := h 0 (by simp)
    simp [pick, List.getD] at h0
    rw [if_neg (by unfold badV; omega)]
    exact contL_of b vs (fun k hk => by
      have := h (k + 1) (by simpa using hk)
      simpa [pick] using this)
theorem containsB_of {b : List Rng} {vs : List Int} (hl : b.length = vs.length) (h : ∀ k : Nat, k < vs.length → (pick b k).lo ≤ vs.getD k 0 ∧ vs.getD k 0 ≤ (pick b k).hi) : containsB b vs = true := by
  unfold containsB
  rw [contL_of b vs h, decide_eq_true hl]
  rfl
theorem sub_sing {b : List Rng} {vs : List Int} (h : containsB b vs = true) : Sub (sing vs) b := by
  obtain ⟨hl, hk⟩ := not_badV h
  refine ⟨by rw [sing_length, hl], fun k hkb => ?_⟩
  have hkv : k < vs.length := by omega
  rw [pick_sing vs k hkv]
  exact hk k hkv
/-- a row that holds keeps every value -/
theorem sing_tight (vs : List Int) (r : Row) (hr : fitsB vs.length r = true) (hv : valueL vs 0 r.terms ≤ r.bound) (j : Nat) (hj : j < vs.length) : tightO r (sing vs) j = ⟨vs.getD j 0, vs.getD j 0⟩ := by
  have hall := fitsn_all hr
  have hf : fitsL vs.length (-1) r.terms = true := by unfold fitsB at hr; rw [Bool.and_eq_true] at hr; exact hr.1
  have hs := valueL_split vs vs.length j r.terms (-1) (by omega) hf (fun t ht => (hall t ht).1)
  unfold tightO
  cases hx : r.terms.find? (fun t => t.cell == (j : Int)) with
  | none => exact pick_sing vs j hj
  | some t =>
    rw [hx] at hs
    have hm := hall t (List.mem_of_find?_eq_some hx)
    simp only [Int.toNat_natCast] at hs
    rw [pick_sing vs j hj]
    dsimp only
    have hle : t.factor * vs.getD j 0 ≤ r.bound - boundL (sing vs) j 1 0 r.terms := by omega
    generalize vs.getD j 0 = v at *
    by_cases h0 : 0 < t.factor
    · rw [if_pos h0]
      have : v ≤ (r.bound - boundL (sing vs) j 1 0 r.terms) / t.factor := (Int.le_ediv_iff_mul_le h0).2 (by rw [Int.mul_comm]; exact hle)
      rw [Int.min_eq_left this]
    · rw [if_neg h0]
      have : -v ≤ (r.bound - boundL (sing vs) j 1 0 r.terms) / -t.factor := (Int.le_ediv_iff_mul_le (by omega)).2 (by rw [Int.neg_mul_neg, Int.mul_comm]; exact hle)
      rw [Int.max_eq_left (by omega)]
theorem keeps_tight {b : List Rng} {r : Row} {vs : List Int} (hv : validB b [r] = true) (hc : containsB b vs = true) (hh : valueL vs 0 r.terms ≤ r.bound) (j : Nat) (hj : j < vs.length) :
    (tightenB r b j).lo ≤ vs.getD j 0 ∧ vs.getD j 0 ≤ (tightenB r b j).hi := by
  have hl := (not_badV hc).1
  have hr := (validB_ok hv).2.2 r (by simp)
  have hall := fits_all hr
  have hm := tightO_mono (sub_sing hc) r j (by omega) (fun t ht => (hall t ht).1) (fun t ht => (hall t ht).2)
  rw [sing_tight vs r (by rw [← hl]; exact hr) hh j hj] at hm
  dsimp only at hm
  have hne : emptyR (tightO r b j) = false := by unfold emptyR; simp; omega
  unfold tightenB
  rw [if_pos ⟨hv, by omega, by omega⟩, tightR_of_ne r b j hne]
  exact hm
/-- values for which all rows hold are a closed box -/
theorem closed_sing (vs : List Int) (rows : List Row) (hr : ∀ r ∈ rows, fitsB vs.length r = true) (hh : ∀ r ∈ rows, valueL vs 0 r.terms ≤ r.bound) : Closed rows (sing vs) := by
  intro r hrr t ht
  obtain ⟨⟨h0, h1, -, -⟩, -⟩ := fitsn_all (hr r hrr) t ht
  obtain ⟨j, hj⟩ := Int.eq_ofNat_of_zero_le h0
  have hjl : j < vs.length := by omega
  have h2 := sing_tight vs r (hr r hrr) (hh r hrr) j hjl
  have hne : emptyR (tightO r (sing vs) j) = false := by rw [h2]; simp [emptyR]
  rw [hj, tightR_of_ne _ _ _ hne]
  exact ⟨hne, by rw [h2, pick_sing vs j hjl]⟩
theorem noSol_of (vs : List Int) (rows : List Row) (hh : ∀ r ∈ rows, valueL vs 0 r.terms ≤ r.bound) : noSol rows = false := by
  unfold noSol
  rw [List.any_eq_false]
  intro r hr h
  rw [Bool.and_eq_true] at h
  have h1 : r.terms = [] := by simpa using h.1
  have h2 : r.bound < 0 := by simpa using h.2
  have h3 := hh r hr
  rw [h1] at h3
  simp [valueL] at h3
  omega
theorem keeps_fix {b : List Rng} {rows : List Row} {vs : List Int} (hv : validB b rows = true) (hc : containsB b vs = true) (hh : ∀ r ∈ rows, valueL vs 0 r.terms ≤ r.bound) :
    ∃ L, fixB b rows = some L ∧ containsB L vs = true := by
  obtain ⟨hl, hk⟩ := not_badV hc
  have hr := (validB_ok hv).2.2
  have he : b.any emptyR = false := by
    rw [List.any_eq_false]
    intro r hrb h
    obtain ⟨k, hkl, rfl⟩ := List.getElem_of_mem hrb
    have := hk k (by omega)
    rw [pick_at b k hkl] at this
    unfold emptyR at h
    simp at h
    omega
  obtain ⟨L, h1, h2⟩ := fix_greatest hv he (noSol_of vs rows hh) (closed_sing vs rows (by rw [← hl]; exact hr) hh) (sub_sing hc)
  refine ⟨L, h1, containsB_of (by rw [← h2.1, sing_length]) (fun k hkv => ?_)⟩
  have := h2.2 k (by rw [← h2.1, sing_length]; exact hkv)
  rw [pick_sing vs k hkv] at this
  exact this
theorem okV_of {b : List Rng} {rows : List Row} {vs : List Int} (hv : validB b rows = true) (hc : containsB b vs = true) : okV vs := by
  obtain ⟨hl, hk⟩ := not_badV hc
  intro x hx
  obtain ⟨k, hkl, rfl⟩ := List.getElem_of_mem hx
  have h1 := hk k hkl
  rw [pick_at b k (by omega)] at h1
  have h2 := not_bad ((validB_ok hv).1 b[k] (List.getElem_mem _))
  simp [List.getD, hkl] at h1
  omega
theorem valid_one {b : List Rng} {rows : List Row} (hv : validB b rows = true) {r : Row} (hr : r ∈ rows) : validB b [r] = true := by
  have h := (validB_ok hv).2.2 r hr
  unfold validB at *
  rw [Bool.and_eq_true] at *
  exact ⟨hv.1, by simp [h]⟩
end Go.Proofs.Ytmecjjfpgjpeoaa
