
/-
Comparisons of integers and of lists of integers: the walks.
-/
import Derived.Test.YtlkabhjkncklnaaDgP
namespace Go.Proofs.Ytlkabhjkncklnaa
set_option linter.unusedSimpArgs false
set_option linter.unusedVariables false
open Go.RowKit

theorem ret_int {a b : Int} (h : a = b) : Ending.returned (.int .i64 a) = .returned (.int .i64 b) := by rw [h]
theorem isNaN_at (x : Int) (w : World) : Calls Try.prog 62 #[.int .i64 x] w fun e w' => e = .returned (.bool false) ∧ w' = w := by
  go_enter Try.func62, Try.ntmps62
  go_wp2
  go_ret
  exact ⟨by simp, rfl⟩
def cmpI (x y : Int) : Int := if x < y then -1 else if y < x then 1 else 0
set_option maxHeartbeats 400000 in
theorem cmpCompare_at (x y : Int) (w : World) : Calls Try.prog 54 #[.int .i64 x, .int .i64 y] w fun e w' => e = .returned (.int .i64 (cmpI x y)) ∧ w' = w := by
  go_enter Try.func54, Try.ntmps54
  go_wp2_with fail
  refine (isNaN_at x w).mono ?_
  rintro e w1 ⟨rfl, rfl⟩
  go_wp2_with fail
  refine (isNaN_at y w1).mono ?_
  rintro e w2 ⟨rfl, rfl⟩
  by_cases h1 : x < y
  · have HF : Hid (cmpI x y = -1) := hid (by unfold cmpI; rw [if_pos h1])
    go_wp2
    go_ret
    exact ⟨ret_int HF.out.symm, rfl⟩
  · by_cases h2 : y < x
    · have HF : Hid (cmpI x y = 1) := hid (by unfold cmpI; rw [if_neg h1, if_pos h2])
      go_wp2
      go_ret
      exact ⟨ret_int HF.out.symm, rfl⟩
    · have HF : Hid (cmpI x y = 0) := hid (by unfold cmpI; rw [if_neg h1, if_neg h2])
      go_wp2
      go_ret
      exact ⟨ret_int HF.out.symm, rfl⟩
/-- the first that is not zero -/
def orL : List Int → Int
  | [] => 0
  | x :: l => if x ≠ 0 then x else orL l
set_option maxHeartbeats 800000 in
theorem cmpOr_at (va : Value) (xs : List Int) (w : World) (ha : Ints w va xs) : Calls Try.prog 59 #[va] w fun e w' => e = .returned (.int .i64 (orL xs)) ∧ w' = w := by
  obtain ⟨A, c, rfl, hc, hm⟩ := ha.form
  go_enter Try.func59, Try.ntmps59
  go_wp2
  go_loopw [8] (fun i wr => ∃ k : Nat, k ≤ xs.length ∧ i = .int .i64 k ∧ Hid (orL xs = orL (xs.drop k)) ∧ wr = w) (fun i _ => xs.length - (intOf i).toNat)
  case atStart => exact ⟨0, Nat.zero_le _, rfl, hid rfl, rfl⟩
  case round =>
    obtain ⟨k, hk, rfl, HB, rfl⟩ := hrel
    by_cases hlt : k < xs.length
    · obtain ⟨g, o, rfl, hg, y1⟩ := ha.ints hlt
      have HD := hid (List.drop_eq_getElem_cons hlt)
      clear ha
      generalize xs[k] = x at *
      by_cases hz : x = 0
      · subst hz
        have HF : Hid (orL xs = orL (xs.drop (k + 1))) := hid (by rw [HB.out, HD.out, orL, if_neg (by simp)])
        go_wp2
        go_roundw
        case rel => exact ⟨k + 1, by omega, by go_num, HF, trivial⟩
        case measure => simp [intOf]; omega
      · have HF : Hid (orL xs = x) := hid (by rw [HB.out, HD.out, orL, if_pos hz])
        have e1 : (x != 0) = true := by simpa using hz
        have e2 : (x == 0) = false := by simpa using hz
        clear hz
        go_wp2
        go_ret
        exact ⟨ret_int HF.out.symm, rfl⟩
    · have HF : Hid (orL xs = 0) := hid (by rw [HB.out, List.drop_of_length_le (by omega)]; rfl)
      go_wp2
      go_ret
      exact ⟨ret_int HF.out.symm, rfl⟩
/-- lexicographically -/
def cmpL : List Int → List Int → Int
  | [], [] => 0
  | [], _ :: _ => -1
  | _ :: _, [] => 1
  | x :: a, y :: b => if cmpI x y ≠ 0 then cmpI x y else cmpL a b
set_option maxHeartbeats 1600000 in
theorem CompareI_at (va vb : Value) (xs ys : List Int) (w : World) (ha : Ints w va xs) (hb : Ints w vb ys) : Calls Try.prog 38 #[va, vb] w fun e w' => e = .returned (.int .i64 (cmpL xs ys)) ∧ w' = w := by
  obtain ⟨A, c, rfl, hc, hm⟩ := ha.form
  obtain ⟨B, d, rfl, hd, hn⟩ := hb.form
  go_enter Try.func38, Try.ntmps38
  go_wp2
  go_loopw [11] (fun i wr => ∃ k : Nat, k ≤ xs.length ∧ k ≤ ys.length ∧ i = .int .i64 k ∧ Hid (cmpL xs ys = cmpL (xs.drop k) (ys.drop k)) ∧ wr = w) (fun i _ => xs.length - (intOf i).toNat)
  case atStart => exact ⟨0, Nat.zero_le _, Nat.zero_le _, rfl, hid rfl, rfl⟩
  case round =>
    obtain ⟨k, hk, hk2, rfl, HB, rfl⟩ := hrel
    by_cases hlt : k < xs.length
    · have hki : (k : Int) < (xs.length : Int) := by omega
      obtain ⟨g, o, rfl, hg, y1⟩ := ha.ints hlt
      have HD := hid (List.drop_eq_getElem_cons hlt)
      generalize xs[k] = x at *
      by_cases hlt2 : k < ys.length
      · have e0 : ¬ (ys.length : Int) ≤ (k : Int) := by omega
        obtain ⟨g2, o2, rfl, hg2, y2⟩ := hb.ints hlt2
        have HD2 := hid (List.drop_eq_getElem_cons hlt2)
        generalize ys[k] = y at *
        clear ha hb
        go_wp2_with fail
        refine (cmpCompare_at x y wr).mono ?_
        rintro e w2 ⟨rfl, rfl⟩
        have HC : Hid (cmpL (x :: xs.drop (k + 1)) (y :: ys.drop (k + 1)) = if cmpI x y ≠ 0 then cmpI x y else cmpL (xs.drop (k + 1)) (ys.drop (k + 1))) := hid rfl
        generalize cmpI x y = z at *
        by_cases hz : z = 0
        · subst hz
          have HF : Hid (cmpL xs ys = cmpL (xs.drop (k + 1)) (ys.drop (k + 1))) := hid (by rw [HB.out, HD.out, HD2.out, HC.out, if_neg (by simp)])
          go_wp2
          go_roundw
          case rel => exact ⟨k + 1, by omega, by omega, by go_num, HF, trivial⟩
          case measure => simp [intOf]; omega
        · have HF : Hid (cmpL xs ys = z) := hid (by rw [HB.out, HD.out, HD2.out, HC.out, if_pos hz])
          have e1 : (z != 0) = true := by simpa using hz
          have e2 : (z == 0) = false := by simpa using hz
          clear hz
          go_wp2
          go_ret
          exact ⟨ret_int HF.out.symm, rfl⟩
      · have e0 : (ys.length : Int) ≤ (k : Int) := by omega
        have HF : Hid (cmpL xs ys = 1) := hid (by rw [HB.out, HD.out, List.drop_of_length_le (l := ys) (by omega)]; rfl)
        clear ha hb
        go_wp2
        go_ret
        exact ⟨ret_int HF.out.symm, rfl⟩
    · have hki : ¬ (k : Int) < (xs.length : Int) := by omega
      by_cases hl : xs.length < ys.length
      · have hl2 : (xs.length : Int) < (ys.length : Int) := by omega
        have HF : Hid (cmpL xs ys = -1) := hid (by rw [HB.out, List.drop_of_length_le (l := xs) (by omega), List.drop_eq_getElem_cons (l := ys) (by omega)]; rfl)
        clear ha hb
        go_wp2
        go_ret
        exact ⟨ret_int HF.out.symm, rfl⟩
      · have hl2 : ¬ (xs.length : Int) < (ys.length : Int) := by omega
        have HF : Hid (cmpL xs ys = 0) := hid (by rw [HB.out, List.drop_of_length_le (l := xs) (by omega), List.drop_of_length_le (l := ys) (by omega)]; rfl)
        clear ha hb
        go_wp2
        go_ret
        exact ⟨ret_int HF.out.symm, rfl⟩
/-- by length, then lexicographically -/
def cmpLL (xs ys : List Int) : Int := orL [cmpI xs.length ys.length, cmpL xs ys]
set_option maxHeartbeats 800000 in
theorem dCompare_at (va vb : Value) (xs ys : List Int) (w : World) (ha : Ints w va xs) (hb : Ints w vb ys) : Calls Try.prog 50 #[va, vb] w fun e w' => e = .returned (.int .i64 (cmpLL xs ys)) ∧ ∃ o, w' = w.alloc o := by
  obtain ⟨A, c, rfl, hc, hm⟩ := ha.form
  obtain ⟨B, d, rfl, hd, hn⟩ := hb.form
  have HA := hid ha
  have HB := hid hb
  clear ha hb
  have HC : Hid (cmpLL xs ys = orL [cmpI xs.length ys.length, cmpL xs ys]) := hid rfl
  go_enter Try.func50, Try.ntmps50
  go_wp2_with fail
  refine (cmpCompare_at _ _ w).mono ?_
  rintro e w1 ⟨rfl, rfl⟩
  go_wp2_with fail
  refine (CompareI_at _ _ xs ys w1 HA.out HB.out).mono ?_
  rintro e w2 ⟨rfl, rfl⟩
  generalize cmpI xs.length ys.length = p at *
  generalize cmpL xs ys = q at *
  have hl := litI (w := w2) 3 [p, q] #[.int .i64 p, .int .i64 q] rfl (by simp) 2 rfl
  go_wp2_with fail
  refine (cmpOr_at _ [p, q] _ hl).mono ?_
  rintro e w3 ⟨rfl, rfl⟩
  go_wp2
  go_ret
  exact ⟨ret_int HC.out.symm, _, rfl⟩
end Go.Proofs.Ytlkabhjkncklnaa
