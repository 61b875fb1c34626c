
/-
The reference: priorities of a replica, valid requests: the walks.
-/
import Derived.Test.YtbcekihjcgnhkaaBkT
namespace Go.Proofs.Ytbcekihjcgnhkaa
set_option linter.unusedSimpArgs false
set_option linter.unusedVariables false
open Go.RowKit

set_option maxRecDepth 8000 in
set_option maxHeartbeats 4000000 in
theorem rPriority_any (p : Pr) (r : Int) (w : World) : Calls Try.prog 42 #[prV p, .int .i64 r] w fun e w' => e = .returned (.bool (ofB p r)) ∧ Kp w w' := by
  obtain ⟨p1, p2, p3, p4⟩ := p
  have HF : Hid (ofB (p1, p2, p3, p4) r = (p3 == r && (decide (0 ≤ p1) && decide (p1 ≤ 1024)) && (decide (0 ≤ p2) && decide (p2 ≤ 1073741824)) && (decide (1 ≤ p4) && decide (p4 ≤ 1048576)))) := hid rfl
  generalize ofB (p1, p2, p3, p4) r = R at *
  obtain ⟨q, hq⟩ : ∃ q, (p3 == r) = q := ⟨_, rfl⟩
  rw [hq] at HF
  go_enter Try.func42, Try.ntmps42
  cases q with
  | false =>
    go_wp2
    go_ret
    exact ⟨ret_bool (by rw [HF.out]; simp [*]), (Kp.refl w).alloc _⟩
  | true =>
    by_cases h1 : 0 ≤ p1
    · have f1 : decide (0 ≤ p1) = true := decide_eq_true h1
      by_cases h2 : p1 ≤ 1024
      · have f2 : decide (p1 ≤ 1024) = true := decide_eq_true h2
        by_cases h3 : 0 ≤ p2
        · have f3 : decide (0 ≤ p2) = true := decide_eq_true h3
          by_cases h4 : p2 ≤ 1073741824
          · have f4 : decide (p2 ≤ 1073741824) = true := decide_eq_true h4
            by_cases h5 : 1 ≤ p4
            · have f5 : decide (1 ≤ p4) = true := decide_eq_true h5
              by_cases h6 : p4 ≤ 1048576
              · have f6 : decide (p4 ≤ 1048576) = true := decide_eq_true h6
                go_wp2
                go_ret
                exact ⟨ret_bool (by rw [HF.out]; simp [*]), (Kp.refl w).alloc _⟩
              · have f6 : decide (p4 ≤ 1048576) = false := decide_eq_false h6
                go_wp2
                go_ret
                exact ⟨ret_bool (by rw [HF.out]; simp [*]), (Kp.refl w).alloc _⟩
            · have f5 : decide (1 ≤ p4) = false := decide_eq_false h5
              go_wp2
              go_ret
              exact ⟨ret_bool (by rw [HF.out]; simp [*]), (Kp.refl w).alloc _⟩
          · have f4 : decide (p2 ≤ 1073741824) = false := decide_eq_false h4
            go_wp2
            go_ret
            exact ⟨ret_bool (by rw [HF.out]; simp [*]), (Kp.refl w).alloc _⟩
        · have f3 : decide (0 ≤ p2) = false := decide_eq_false h3
          go_wp2
          go_ret
          exact ⟨ret_bool (by rw [HF.out]; simp [*]), (Kp.refl w).alloc _⟩
      · have f2 : decide (p1 ≤ 1024) = false := decide_eq_false h2
        go_wp2
        go_ret
        exact ⟨ret_bool (by rw [HF.out]; simp [*]), (Kp.refl w).alloc _⟩
    · have f1 : decide (0 ≤ p1) = false := decide_eq_false h1
      go_wp2
      go_ret
      exact ⟨ret_bool (by rw [HF.out]; simp [*]), (Kp.refl w).alloc _⟩
set_option maxRecDepth 8000 in
set_option maxHeartbeats 4000000 in
theorem rValidAsk_any (r : Int) (a : Ak) (v : Value) (w : World) (hv : Nds w v a.needs) : Calls Try.prog 11 #[.int .i64 r, askV a v] w fun e w' => e = .returned (.bool (validA r a)) ∧ Kp w w' := by
  obtain ⟨num, ⟨p1, p2, p3, p4⟩, l⟩ := a
  dsimp only at hv ⊢
  obtain ⟨A, c, rfl, hmc, hmm⟩ := hv.form
  have HX := hid (hear_valid r num p1 p2 p3 p4 l)
  generalize validA r ⟨num, (p1, p2, p3, p4), l⟩ = R at *
  have HB : Hid (btw num 1 1048576 = (decide (1 ≤ num) && decide (num ≤ 1048576))) := hid rfl
  have k1 := (Kp.refl w).alloc (.cells #[.int .i64 num, .int .i64 p1, .int .i64 p2, .int .i64 p3, .int .i64 p4, .slice A l.length c] 29)
  have hP := Bx.new w #[.int .i64 num, .int .i64 p1, .int .i64 p2, .int .i64 p3, .int .i64 p4, .slice A l.length c] 29
  go_enter Try.func11, Try.ntmps11
  go_upto_region 1 with (fail)
  generalize w.alloc (.cells #[.int .i64 num, .int .i64 p1, .int .i64 p2, .int .i64 p3, .int .i64 p4, .slice A l.length c] 29) = w1 at *
  have hpl := hP.lt (by simp)
  generalize w.heap.size = pb at *
  have p0 := hP.cell (j := 0) rfl
  have p5 := hP.cell (j := 5) rfl
  by_cases h1 : num < 1
  · have f1 : decide (num < 1) = true := decide_eq_true h1
    have HR : Hid (R = false) := hid (by rw [HX.out, HB.out, decide_eq_false (by omega : ¬ 1 ≤ num)]; rfl)
    go_wp2
    go_ret
    exact ⟨ret_bool HR.out.symm, k1⟩
  · have f1 : decide (num < 1) = false := decide_eq_false h1
    by_cases h2 : 1048576 < num
    · have f2 : decide (1048576 < num) = true := decide_eq_true h2
      have HR : Hid (R = false) := hid (by rw [HX.out, HB.out, decide_eq_false (by omega : ¬ num ≤ 1048576)]; simp)
      go_wp2
      go_ret
      exact ⟨ret_bool HR.out.symm, k1⟩
    · have f2 : decide (1048576 < num) = false := decide_eq_false h2
      have HY : Hid (R = (validL l && (ofB (p1, p2, p3, p4) r || (decide (l.length = 0) && decide ((p1, p2, p3, p4) = ((0, 0, 0, 0) : Pr)))))) := hid (by rw [HX.out, HB.out, decide_eq_true (by omega : 1 ≤ num), decide_eq_true (by omega : num ≤ 1048576)]; rfl)
      clear HX HB
      go_wp2_with fail
      refine (rValid_any _ l w1 (hv.keep (pl_stable _) k1)).mono ?_
      rintro e w2 ⟨rfl, k2⟩
      have k12 := k1.trans k2
      have hP2 := hP.keep (k2.block hpl)
      clear p0 p5
      by_cases h3 : validL l = true
      · rw [h3]
        have HZ : Hid (R = (ofB (p1, p2, p3, p4) r || (decide (l.length = 0) && decide ((p1, p2, p3, p4) = ((0, 0, 0, 0) : Pr))))) := hid (by rw [HY.out, h3]; rfl)
        clear HY
        have q1 := hP2.cell (j := 1) rfl
        have q2 := hP2.cell (j := 2) rfl
        have q3 := hP2.cell (j := 3) rfl
        have q4 := hP2.cell (j := 4) rfl
        replace h3 := hid h3
        go_wp2_with fail
        refine (rPriority_any (p1, p2, p3, p4) r w2).mono ?_
        rintro e w3 ⟨rfl, k3⟩
        have k13 := k12.trans k3
        have hP3 := hP2.keep (k3.block (hP2.lt (by simp)))
        clear q1 q2 q3 q4
        have q1 := hP3.cell (j := 1) rfl
        have q2 := hP3.cell (j := 2) rfl
        have q3 := hP3.cell (j := 3) rfl
        have q4 := hP3.cell (j := 4) rfl
        have q5 := hP3.cell (j := 5) rfl
        by_cases h4 : ofB (p1, p2, p3, p4) r = true
        · have HR : Hid (R = true) := hid (by rw [HZ.out, h4]; rfl)
          rw [h4]
          go_wp2
          go_ret
          exact ⟨ret_bool HR.out.symm, k13⟩
        · replace h4 := eq_false_of_ne_true h4
          rw [h4]
          obtain ⟨q, hq⟩ : ∃ q, ((l.length : Int) == 0) = q := ⟨_, rfl⟩
          have hq2 : decide (l.length = 0) = q := by rw [← hq, Bool.eq_iff_iff]; simp only [decide_eq_true_eq, beq_iff_eq]; omega
          obtain ⟨z, hz⟩ : ∃ z, decide ((p1, p2, p3, p4) = ((0, 0, 0, 0) : Pr)) = z := ⟨_, rfl⟩
          have heq := fun W => run_eql_pr W (p1, p2, p3, p4) (0, 0, 0, 0)
          rw [hz] at heq
          have HR : Hid (R = (q && z)) := hid (by rw [HZ.out, h4, hq2, hz]; rfl)
          clear hq2 hz HZ
          cases q with
          | false =>
            go_wp2
            go_ret
            exact ⟨ret_bool HR.out.symm, k13⟩
          | true =>
            go_wp2
            go_ret
            exact ⟨ret_bool (by rw [HR.out]; rfl), k13⟩
      · replace h3 := eq_false_of_ne_true h3
        have HR : Hid (R = false) := hid (by rw [HY.out, h3]; rfl)
        rw [h3]
        go_wp2
        go_ret
        exact ⟨ret_bool HR.out.symm, k12⟩
end Go.Proofs.Ytbcekihjcgnhkaa
