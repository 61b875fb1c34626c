
/-
What slices.Compare of two lists of numbers returns, for any input.
-/
import Derived.Test.YtmecjjfpgjpeoaaRef5
namespace Go.Proofs.Ytmecjjfpgjpeoaa
open Go.RowKit

set_option maxHeartbeats 400000 in
theorem isNaN_any (x : Int) (w : World) : Calls Try.prog 64 #[.int .i64 x] w fun e w' => e = .returned (.bool false) ∧ Kp w w' := by
  go_enter Try.func64, Try.ntmps64
  go_wp2
  go_ret
  exact ⟨by simp, Kp.refl _⟩
def cmpI (x y : Int) : Int := if x < y then -1 else if y < x then 1 else 0
set_option maxHeartbeats 400000 in
theorem cmpCompare_any (x y : Int) (w : World) : Calls Try.prog 59 #[.int .i64 x, .int .i64 y] w fun e w' => e = .returned (.int .i64 (cmpI x y)) ∧ Kp w w' := by
  go_enter Try.func59, Try.ntmps59
  go_wp2_with fail
  refine (isNaN_any x _).mono ?_
  rintro e w1 ⟨rfl, hk1⟩
  have hbel1 := ((Kp.refl _)).trans hk1
  go_wp2_with fail
  refine (isNaN_any y _).mono ?_
  rintro e w2 ⟨rfl, hk2⟩
  have hbel2 := (hbel1).trans hk2
  by_cases h1 : x < y
  · have HF : Hid (cmpI x y = -1) := hid (by unfold cmpI; rw [if_pos h1])
    go_wp2
    go_ret
    exact ⟨ret_int HF.out.symm, hbel2⟩
  · by_cases h2 : y < x
    · have HF : Hid (cmpI x y = 1) := hid (by unfold cmpI; rw [if_neg h1, if_pos h2])
      go_wp2
      go_ret
      exact ⟨ret_int HF.out.symm, hbel2⟩
    · have HF : Hid (cmpI x y = 0) := hid (by unfold cmpI; rw [if_neg h1, if_neg h2])
      go_wp2
      go_ret
      exact ⟨ret_int HF.out.symm, hbel2⟩
def cmpL : List Int → List Int → Int
  | [], [] => 0
  | [], _ :: _ => -1
  | _ :: _, [] => 1
  | x :: xs, y :: ys => if cmpI x y ≠ 0 then cmpI x y else cmpL xs ys
set_option maxHeartbeats 1000000 in
theorem Compare_any (va vb : Value) (xs ys : List Int) (w : World) (ha : Ints w va xs) (hb : Ints w vb ys) :
    Calls Try.prog 41 #[va, vb] w fun e w' => e = .returned (.int .i64 (cmpL xs ys)) ∧ Kp w w' := by
  obtain ⟨A, c, rfl, hc, hm⟩ := ha.form
  obtain ⟨A', c', rfl, hc', hm'⟩ := hb.form
  go_enter Try.func41, Try.ntmps41
  go_wp2
  go_loopw [11] (fun i wr => ∃ k : Nat, k ≤ xs.length ∧ k ≤ ys.length ∧ i = .int .i64 k ∧ Hid (cmpL xs ys = cmpL (xs.drop k) (ys.drop k)) ∧ Kp w wr) (fun i _ => xs.length - (intOf i).toNat)
  case atStart => exact ⟨0, Nat.zero_le _, Nat.zero_le _, rfl, rfl, Kp.refl _⟩
  case round =>
    obtain ⟨k, hk, hky, rfl, HB, hbel⟩ := hrel
    by_cases hlt : k < xs.length
    · obtain ⟨g, o, rfl, hg, y1'⟩ := ha.ints hlt
      have y1 := hbel.cellS y1'
      have HD := hid (List.drop_eq_getElem_cons hlt)
      clear y1' ha
      by_cases hlt2 : k < ys.length
      · obtain ⟨g2, o2, rfl, hg2, z1'⟩ := hb.ints hlt2
        have z1 := hbel.cellS z1'
        have HE := hid (List.drop_eq_getElem_cons hlt2)
        have d1 : decide ((ys.length : Int) ≤ k) = false := by simp; omega
        clear z1' hb
        generalize xs[k] = x at *
        generalize ys[k] = y at *
        go_wp2_with fail
        refine (cmpCompare_any x y _).mono ?_
        rintro e w3 ⟨rfl, hk3⟩
        have hbel3 := (hbel).trans hk3
        by_cases hz : cmpI x y = 0
        · have HF : Hid (cmpL xs ys = cmpL (xs.drop (k + 1)) (ys.drop (k + 1))) := hid (by rw [HB.out, HD.out, HE.out, cmpL, if_neg (by simpa using hz)])
          rw [hz]
          clear hz
          go_wp2
          go_roundw
          case rel => exact ⟨k + 1, by omega, by omega, by go_num, HF, hbel3⟩
          case measure => simp [intOf]; omega
        · have HF : Hid (cmpL xs ys = cmpI x y) := hid (by rw [HB.out, HD.out, HE.out, cmpL, if_pos hz])
          have hz2 : (cmpI x y != 0) = true := by simpa using hz
          have hz3 : (cmpI x y == 0) = false := by simpa using hz
          generalize cmpI x y = z at *
          go_wp2
          go_ret
          exact ⟨ret_int HF.out.symm, hbel3⟩
      · have HF : Hid (cmpL xs ys = 1) := hid (by rw [HB.out, HD.out, List.drop_of_length_le (by omega : ys.length ≤ k), cmpL])
        have d1 : decide ((ys.length : Int) ≤ k) = true := by simp; omega
        go_wp2
        go_ret
        exact ⟨ret_int HF.out.symm, hbel⟩
    · by_cases hlt2 : k < ys.length
      · have HF : Hid (cmpL xs ys = -1) := hid (by rw [HB.out, List.drop_of_length_le (by omega : xs.length ≤ k), List.drop_eq_getElem_cons hlt2, cmpL])
        have h1 : xs.length < ys.length := by omega
        go_wp2
        go_ret
        exact ⟨ret_int HF.out.symm, hbel⟩
      · have HF : Hid (cmpL xs ys = 0) := hid (by rw [HB.out, List.drop_of_length_le (by omega : xs.length ≤ k), List.drop_of_length_le (by omega : ys.length ≤ k), cmpL])
        have h1 : ¬ xs.length < ys.length := by omega
        go_wp2
        go_ret
        exact ⟨ret_int HF.out.symm, hbel⟩
end Go.Proofs.Ytmecjjfpgjpeoaa
