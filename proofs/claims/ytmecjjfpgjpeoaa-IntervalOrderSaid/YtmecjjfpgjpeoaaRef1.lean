
/-
What the reference's small functions return, for any input.
-/
import Derived.Test.YtmecjjfpgjpeoaaInt10
namespace Go.Proofs.Ytmecjjfpgjpeoaa
open Go.RowKit

def insideB (n lo hi : Int) : Bool := decide (lo ≤ n ∧ n ≤ hi)
set_option maxHeartbeats 400000 in
theorem rinside_any (n lo hi : Int) (w : World) :
    Calls Try.prog 49 #[.int .i64 n, .int .i64 lo, .int .i64 hi] w fun e w' => e = .returned (.bool (insideB n lo hi)) ∧ w = w' := by
  by_cases h1 : lo ≤ n
  · by_cases h2 : n ≤ hi
    · have HF : Hid (insideB n lo hi = true) := hid (by simp [insideB, h1, h2])
      have d1 : decide (lo ≤ n) = true := by simpa using h1
      have d2 : decide (n ≤ hi) = true := by simpa using h2
      go_enter Try.func49, Try.ntmps49
      go_wp2
      go_ret
      exact ⟨ret_bool HF.out.symm, rfl⟩
    · have HF : Hid (insideB n lo hi = false) := hid (by simp [insideB, h1, h2])
      have d1 : decide (lo ≤ n) = true := by simpa using h1
      have d2 : decide (n ≤ hi) = false := by simpa using h2
      go_enter Try.func49, Try.ntmps49
      go_wp2
      go_ret
      exact ⟨ret_bool HF.out.symm, rfl⟩
  · have HF : Hid (insideB n lo hi = false) := hid (by simp [insideB, h1])
    have d1 : decide (lo ≤ n) = false := by simpa using h1
    go_enter Try.func49, Try.ntmps49
    go_wp2
    go_ret
    exact ⟨ret_bool HF.out.symm, rfl⟩
/-- both answers, for a walk that must part -/
theorem rinside_yes (n lo hi : Int) (w : World) (h : lo ≤ n ∧ n ≤ hi) : Calls Try.prog 49 #[.int .i64 n, .int .i64 lo, .int .i64 hi] w fun e w' => e = .returned (.bool true) ∧ w = w' := by
  have := rinside_any n lo hi w
  rwa [show insideB n lo hi = true by simp [insideB, h]] at this
theorem rinside_no (n lo hi : Int) (w : World) (h : ¬ (lo ≤ n ∧ n ≤ hi)) : Calls Try.prog 49 #[.int .i64 n, .int .i64 lo, .int .i64 hi] w fun e w' => e = .returned (.bool false) ∧ w = w' := by
  have := rinside_any n lo hi w
  rwa [show insideB n lo hi = false by simp only [insideB]; exact decide_eq_false h] at this

set_option maxHeartbeats 1000000 in
theorem rDown_any (a b : Int) (w : World) (h0 : 0 < b) (h1 : b ≤ 1000000000000) (h2 : -1000000000000000 ≤ a) (h3 : a ≤ 1000000000000000) :
    Calls Try.prog 44 #[.int .i64 a, .int .i64 b] w fun e w' => e = .returned (.int .i64 (a / b)) ∧ w = w' := by
  have HE := hid (ediv_of_tdiv a b h0)
  obtain ⟨t1, t2⟩ := tdiv_bd a b h0 h2 h3
  by_cases ha : a < 0
  · by_cases hm : a.tmod b < 0
    · have HF : Hid (a / b = a.tdiv b - 1) := hid (by rw [HE.out, if_pos ⟨by omega, ha⟩])
      go_enter Try.func44, Try.ntmps44
      go_wp2
      go_ret
      exact ⟨ret_int HF.out.symm, rfl⟩
    · have HF : Hid (a / b = a.tdiv b) := hid (by
        have h4 := Int.tmod_nonneg (a := -a) b (by omega)
        rw [Int.neg_tmod] at h4
        rw [HE.out, if_neg (by omega)])
      go_enter Try.func44, Try.ntmps44
      go_wp2
      go_ret
      exact ⟨ret_int HF.out.symm, rfl⟩
  · have HF : Hid (a / b = a.tdiv b) := hid (by rw [HE.out, if_neg (by omega)])
    have h4 := Int.tmod_nonneg (a := a) b (by omega)
    have h5 := Int.emod_nonneg a (b := b) (by omega)
    go_enter Try.func44, Try.ntmps44
    go_wp2
    go_ret
    exact ⟨ret_int HF.out.symm, rfl⟩

theorem fitsL_app (n last : Int) (t : Term) (l : List Term) : fitsL n last (t :: l) = if badT n last t then false else fitsL n t.cell l := rfl
set_option maxHeartbeats 1000000 in
theorem rRow_any (n : Int) (v : Value) (l : List Term) (bd : Int) (w : World) (hS : Terms w v l) :
    Calls Try.prog 50 #[.agg #[v, .int .i64 bd], .int .i64 n] w fun e w' => e = .returned (.bool (fitsB n ⟨l, bd⟩)) ∧ Kp w w' := by
  obtain ⟨A, c, rfl, hc, hm⟩ := hS.form
  go_enter Try.func50, Try.ntmps50
  go_wp2
  have hk0 := (Kp.refl w).alloc (.cells #[.slice A l.length c, .int .i64 bd] 41)
  have hb0 := alloc_cell w #[.slice A l.length c, .int .i64 bd] 41 0 rfl
  have hb1 := alloc_cell w #[.slice A l.length c, .int .i64 bd] 41 1 rfl
  have hlt0 := alloc_lt w (.cells #[.slice A l.length c, .int .i64 bd] 41)
  generalize w.alloc (.cells #[.slice A l.length c, .int .i64 bd] 41) = w0 at *
  have hS0 := hS.keep (pl_stable _) hk0
  go_loopw [5, 6] (fun z i wr => ∃ (k : Nat) (last : Int), k ≤ l.length ∧ i = .int .i64 k ∧ z = .int .i64 last ∧ Hid (fitsL n (-1) l = fitsL n last (l.drop k)) ∧ Kp w0 wr) (fun _ i _ => l.length - (intOf i).toNat)
  case atStart => exact ⟨0, -1, Nat.zero_le _, rfl, rfl, rfl, Kp.refl _⟩
  case round =>
    obtain ⟨k, last, hk, rfl, rfl, HB, hbel⟩ := hrel
    have hbel' := hk0.trans hbel
    have c0 := hbel.cellS hb0
    have c1 := hbel.cellS hb1
    have hlt1 : w.heap.size < wr.heap.size := by have := hbel.size; omega
    clear hb0 hb1
    by_cases hlt : k < l.length
    · obtain ⟨b, o, rfl, hb, h1, h2⟩ := (hS0.keep (pl_stable _) hbel).term hlt
      have HD := hid (List.drop_eq_getElem_cons hlt)
      generalize l[k] = r at *
      obtain ⟨ce, fa⟩ := r
      clear hS hS0
      dsimp only at h1 h2
      by_cases hbad : badT n last ⟨ce, fa⟩
      · have HF : Hid (fitsB n ⟨l, bd⟩ = false) := hid (by unfold fitsB; dsimp only; rw [HB.out, HD.out, fitsL, if_pos hbad]; rfl)
        unfold badT at hbad
        dsimp only at hbad
        by_cases g5 : -1000 ≤ fa ∧ fa ≤ 1000
        · go_wp2_with (go_at_call 49; refine (rinside_yes _ _ _ _ g5).mono ?_; rintro e w' ⟨rfl, rfl⟩)
          all_goals first
            | (go_ret; exact ⟨ret_bool HF.out.symm, (by repeat (first | assumption | exact Kp.refl _ | apply Kp.alloc | apply Kp.drew | apply Kp.drewN))⟩)
            | (exfalso; omega)
        · go_wp2_with (go_at_call 49; refine (rinside_no _ _ _ _ g5).mono ?_; rintro e w' ⟨rfl, rfl⟩)
          all_goals first
            | (go_ret; exact ⟨ret_bool HF.out.symm, (by repeat (first | assumption | exact Kp.refl _ | apply Kp.alloc | apply Kp.drew | apply Kp.drewN))⟩)
            | (exfalso; omega)
      · have HF : Hid (fitsL n (-1) l = fitsL n ce (l.drop (k + 1))) := hid (by rw [HB.out, HD.out, fitsL, if_neg hbad])
        unfold badT at hbad
        dsimp only at hbad
        have g1 : last < ce := by omega
        have g2 : ce < n := by omega
        have g3 : (fa == 0) = false := beq_eq_false_iff_ne.2 (by omega)
        have g5 : -1000 ≤ fa ∧ fa ≤ 1000 := by omega
        have G5 := hid g5
        clear hbad g5
        go_wp2_with (go_at_call 49; refine (rinside_yes _ _ _ _ G5.out).mono ?_; rintro e w' ⟨rfl, rfl⟩)
        go_roundw
        case rel => exact ⟨k + 1, ce, by omega, by go_num, rfl, HF, (by repeat (first | assumption | exact Kp.refl _ | apply Kp.alloc | apply Kp.drew | apply Kp.drewN))⟩
        case measure => simp [intOf]; omega
    · have HF : Hid (fitsB n ⟨l, bd⟩ = insideB bd (-1000000000) 1000000000) := hid (by unfold fitsB; dsimp only; rw [HB.out, List.drop_of_length_le (by omega)]; simp [fitsL, insideB])
      go_wp2_with (go_at_call 49; refine (rinside_any _ _ _ _).mono ?_; rintro e w' ⟨rfl, rfl⟩)
      go_ret
      exact ⟨ret_bool HF.out.symm, (by repeat (first | assumption | exact Kp.refl _ | apply Kp.alloc | apply Kp.drew | apply Kp.drewN))⟩
end Go.Proofs.Ytmecjjfpgjpeoaa
