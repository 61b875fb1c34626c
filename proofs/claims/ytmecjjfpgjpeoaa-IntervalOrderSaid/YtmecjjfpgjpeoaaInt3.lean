
/-
What Meet, floor, Middle and Size return, for any input.
-/
import Derived.Test.YtmecjjfpgjpeoaaInt2
namespace Go.Proofs.Ytmecjjfpgjpeoaa
open Go.RowKit

theorem ret_agg2 {k k' : IntKind} {a b a' b' : Int} (h : a = a') (h' : b = b') : Ending.returned (.agg #[.int k a, .int k' b]) = .returned (.agg #[.int k a', .int k' b']) := by rw [h, h']
theorem bodyPost_agg2 {P : Program} {fn : Func} {R : Ending → World → Prop} {a : Act} {w : World} {k k' : IntKind} {x y : Int} (h : (results fn a.tmps).run P w = .ok (.agg #[.int k x, .int k' y]) w) (hd : a.defers = [])
    (hR : R (.returned (.agg #[.int k x, .int k' y])) w) : bodyPost P fn R .ret a w := bodyPost_ret h hd hR
def meetR (a b : Rng) : Rng := ⟨max a.lo b.lo, min a.hi b.hi⟩
set_option maxHeartbeats 400000 in
theorem Meet_any (al ah bl bh : Int) (w : World) :
    Calls Try.prog 14 #[.agg #[.int .i64 al, .int .i64 ah], .agg #[.int .i64 bl, .int .i64 bh]] w fun e w' => e = .returned (.agg #[.int .i64 (max al bl), .int .i64 (min ah bh)]) ∧ Kp w w' := by
  go_enter Try.func14, Try.ntmps14
  go_wp2
  all_goals
    refine bodyPost_agg2 (by simp [results, Try.results14, go_sem]; exact ⟨rfl, rfl⟩) rfl ⟨ret_agg2 (by omega) (by omega), ?_⟩
    exact (((Kp.refl w).alloc _).alloc _).alloc _

/-- the quotient as the code reckons it -/
theorem ediv_of_tdiv (a b : Int) (h0 : 0 < b) : a / b = if a.tmod b ≠ 0 ∧ a < 0 then a.tdiv b - 1 else a.tdiv b := by
  have h1 := Int.tmod_add_mul_tdiv a b
  by_cases ha : a < 0
  · have h2 : a.tmod b ≤ 0 := by
      have := Int.tmod_nonneg (a := -a) b (by omega)
      rw [Int.neg_tmod] at this
      omega
    have h3 : -b < a.tmod b := by
      have := Int.tmod_lt_of_pos (-a) h0
      rw [Int.neg_tmod] at this
      omega
    by_cases h4 : a.tmod b = 0
    · rw [if_neg (by omega)]
      have h5 : a = b * a.tdiv b := by omega
      conv => lhs; rw [h5]
      rw [Int.mul_ediv_cancel_left _ (by omega)]
    · rw [if_pos ⟨h4, ha⟩]
      have h5 : a = (a.tmod b + b) + b * (a.tdiv b - 1) := by rw [Int.mul_sub]; omega
      conv => lhs; rw [h5]
      rw [Int.add_mul_ediv_left _ _ (by omega), Int.ediv_eq_zero_of_lt (by omega) (by omega)]
      omega
  · rw [if_neg (by omega), Int.tdiv_eq_ediv_of_nonneg (by omega)]
theorem ediv_bd (a b : Int) (h0 : 0 < b) (h2 : -1000000000000000 ≤ a) (h3 : a ≤ 1000000000000000) : -1000000000000000 ≤ a / b ∧ a / b ≤ 1000000000000000 := by
  constructor
  · exact (Int.le_ediv_iff_mul_le h0).2 (by
      have : (-1000000000000000 : Int) * b ≤ -1000000000000000 * 1 := Int.mul_le_mul_of_nonpos_left (by omega) (by omega)
      omega)
  · have h4 : a / b < 1000000000000001 := Int.ediv_lt_of_lt_mul h0 (by
      have : (1000000000000001 : Int) * 1 ≤ 1000000000000001 * b := Int.mul_le_mul_of_nonneg_left (by omega) (by omega)
      omega)
    omega
theorem tdiv_bd (a b : Int) (h0 : 0 < b) (h2 : -1000000000000000 ≤ a) (h3 : a ≤ 1000000000000000) : -1000000000000000 ≤ a.tdiv b ∧ a.tdiv b ≤ 1000000000000001 := by
  have h := ediv_of_tdiv a b h0
  have h' := ediv_bd a b h0 h2 h3
  split at h <;> omega

set_option maxHeartbeats 400000 in
theorem floor_any (a b : Int) (w : World) (h0 : 0 < b) (h1 : b ≤ 1000000000000) (h2 : -1000000000000000 ≤ a) (h3 : a ≤ 1000000000000000) :
    Calls Try.prog 43 #[.int .i64 a, .int .i64 b] w fun e w' => e = .returned (.int .i64 (a / b)) ∧ Kp w w' := by
  have HE := hid (ediv_of_tdiv a b h0)
  obtain ⟨t1, t2⟩ := tdiv_bd a b h0 h2 h3
  have d0 : decide (b < 0) = false := by simp; omega
  by_cases hm : a.tmod b = 0
  · have m1 : (a.tmod b != 0) = false := by simp [hm]
    have HF : Hid (a / b = a.tdiv b) := hid (by rw [HE.out, if_neg (by omega)])
    have HM := hid hm
    clear hm
    go_enter Try.func43, Try.ntmps43
    go_wp2
    go_ret
    exact ⟨ret_int HF.out.symm, (by repeat (first | assumption | exact Kp.refl _ | apply Kp.alloc | apply Kp.drew | apply Kp.drewN))⟩
  · have m1 : (a.tmod b != 0) = true := by simp [hm]
    by_cases ha : a < 0
    · have d1 : decide (a < 0) = true := by simpa using ha
      have HF : Hid (a / b = a.tdiv b - 1) := hid (by rw [HE.out, if_pos ⟨hm, ha⟩])
      go_enter Try.func43, Try.ntmps43
      go_wp2
      go_ret
      exact ⟨ret_int HF.out.symm, (by repeat (first | assumption | exact Kp.refl _ | apply Kp.alloc | apply Kp.drew | apply Kp.drewN))⟩
    · have d1 : decide (a < 0) = false := by simpa using ha
      have HF : Hid (a / b = a.tdiv b) := hid (by rw [HE.out, if_neg (by omega)])
      go_enter Try.func43, Try.ntmps43
      go_wp2
      all_goals
        go_ret
        exact ⟨ret_int HF.out.symm, (by repeat (first | assumption | exact Kp.refl _ | apply Kp.alloc | apply Kp.drew | apply Kp.drewN))⟩

def middle (r : Rng) : Int := if boxB [r] then (r.lo + r.hi) / 2 else 0
set_option maxHeartbeats 400000 in
theorem Middle_any (lo hi : Int) (w : World) :
    Calls Try.prog 12 #[.agg #[.int .i64 lo, .int .i64 hi]] w fun e w' => e = .returned (.int .i64 (middle ⟨lo, hi⟩)) ∧ Kp w w' := by
  go_enter Try.func12, Try.ntmps12
  have hk0 := (Kp.refl w).alloc (.cells #[.int .i64 lo, .int .i64 hi] 27)
  have hg0 := alloc_cell w #[.int .i64 lo, .int .i64 hi] 27 0 rfl
  have hg1 := alloc_cell w #[.int .i64 lo, .int .i64 hi] 27 1 rfl
  have hlt0 := alloc_lt w (.cells #[.int .i64 lo, .int .i64 hi] 27)
  have HS : ∀ w0 : World, Rngs (w0.alloc (.cells #[.int .i64 lo, .int .i64 hi] 27)) (.slice (some ⟨w0.heap.size, 0, none⟩) 1 1) [⟨lo, hi⟩] := fun w0 => (Own.lit (base := w0.heap.size) encRng w0 _ [⟨lo, hi⟩] (Nat.le_refl _) (by simp) rfl (by simp [flat, encRng])).sl encRng_len
  have HS1 := hid (HS (w.alloc (.cells #[.int .i64 lo, .int .i64 hi] 27)))
  clear HS
  go_wp2_with fail
  have HS2 := HS1.out
  rw [World.size_alloc] at HS2
  have hk1 := hk0.alloc (.cells #[.int .i64 lo, .int .i64 hi] 27)
  refine (box_any _ _ _ HS2).mono ?_
  rintro e w1 ⟨rfl, hk2⟩
  have hbel1 := hk1.trans hk2
  have hc0 := hk2.cellS (((Kp.refl _).alloc (.cells #[.int .i64 lo, .int .i64 hi] 27)).cellS hg0)
  have hc1 := hk2.cellS (((Kp.refl _).alloc (.cells #[.int .i64 lo, .int .i64 hi] 27)).cellS hg1)
  clear hk0 hg0 hg1 hlt0 HS2
  cases hB : boxB [⟨lo, hi⟩] with
  | false =>
    have HF : Hid (middle ⟨lo, hi⟩ = 0) := hid (by simp [middle, hB])
    clear hB
    go_wp2
    go_ret
    exact ⟨ret_int HF.out.symm, hbel1⟩
  | true =>
    have HF : Hid (middle ⟨lo, hi⟩ = (lo + hi) / 2) := hid (by simp [middle, hB])
    have hbad : ¬ bad ⟨lo, hi⟩ := by
      intro h
      simp [boxB, boxL, h] at hB
    unfold bad at hbad
    dsimp only at hbad
    have g1 : -1000000 ≤ lo := by omega
    have g2 : lo ≤ 1000000 := by omega
    have g3 : -1000000 ≤ hi := by omega
    have g4 : hi ≤ 1000000 := by omega
    clear hbad hB
    go_wp2_with fail
    refine (floor_any (lo + hi) 2 _ (by omega) (by omega) (by omega) (by omega)).mono ?_
    rintro e w2 ⟨rfl, hk3⟩
    go_wp2
    go_ret
    exact ⟨ret_int HF.out.symm, hbel1.trans hk3⟩
end Go.Proofs.Ytmecjjfpgjpeoaa
