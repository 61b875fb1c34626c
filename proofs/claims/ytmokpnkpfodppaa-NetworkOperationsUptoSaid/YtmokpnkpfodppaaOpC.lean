
/-
The reference's network: New, Next, Cut: the walks.
-/
import Derived.Test.YtmokpnkpfodppaaOpB
namespace Go.Proofs.Ytmokpnkpfodppaa
set_option linter.unusedSimpArgs false
set_option linter.unusedVariables false
open Go.RowKit

theorem ltC_trans {x y z : Cpy} (h : ltC x y = true) (k : ltC y z = true) : ltC x z = true := by
  simp [ltC] at *
  omega
theorem firstFrom_spec (l : List Cpy) : ∀ (r : List Cpy) (i : Nat) (best : Int), l.drop i = r → i ≤ l.length → ((i = 0 ∧ best = -1) ∨ ∃ j : Nat, best = j ∧ j < i ∧ ∀ m, m < i → ltC (l.getD m default) (l.getD j default) = false) →
    (l = [] ∧ firstFrom l i best r = -1) ∨ ∃ j : Nat, firstFrom l i best r = j ∧ j < l.length ∧ ∀ m, m < l.length → ltC (l.getD m default) (l.getD j default) = false
  | [], i, best, hd, hi, h => by
    have hl : i = l.length := by have := List.drop_eq_nil_iff.1 hd; omega
    rcases h with ⟨rfl, rfl⟩ | ⟨j, rfl, hj, hm⟩
    · exact .inl ⟨List.length_eq_zero_iff.1 hl.symm, rfl⟩
    · exact .inr ⟨j, rfl, by omega, fun m h => hm m (by omega)⟩
  | x :: r, i, best, hd, hi, h => by
    have hlt : i < l.length := by
      rcases Nat.lt_or_ge i l.length with h | h
      · exact h
      · rw [List.drop_of_length_le h] at hd; cases hd
    rw [List.drop_eq_getElem_cons hlt] at hd
    injection hd with hx hr
    have hxd : l.getD i default = x := by simp [List.getD, hlt, hx]
    rw [firstFrom]
    refine firstFrom_spec l r (i + 1) _ hr (by omega) (.inr ?_)
    have hirr : ltC x x = false := by simp [ltC]
    rcases h with ⟨rfl, rfl⟩ | ⟨j, rfl, hj, hm⟩
    · refine ⟨0, by rw [if_pos (.inl (by omega))], by omega, fun m h => ?_⟩
      have : m = 0 := by omega
      subst this
      rw [hxd]
      exact hirr
    · have e : ((j : Int).toNat) = j := by simp
      rw [e]
      by_cases hc : ltC x (l.getD j default) = true
      · refine ⟨i, by rw [if_pos (.inr hc)], by omega, fun m h => ?_⟩
        rw [hxd]
        rcases Nat.lt_or_ge m i with h2 | h2
        · have h3 := hm m h2
          cases h4 : ltC (l.getD m default) x with
          | false => rfl
          | true => rw [ltC_trans h4 hc] at h3; cases h3
        · have : m = i := by omega
          subst this
          rw [hxd]
          exact hirr
      · refine ⟨j, by rw [if_neg (by rintro (h2 | h2); omega; exact hc h2)], by omega, fun m h => ?_⟩
        rcases Nat.lt_or_ge m i with h2 | h2
        · exact hm m h2
        · have : m = i := by omega
          subst this
          rw [hxd]
          simpa using hc
theorem firstR_spec (l : List Cpy) : (l = [] ∧ firstR l = -1) ∨ ∃ j : Nat, firstR l = j ∧ j < l.length ∧ ∀ m, m < l.length → ltC (l.getD m default) (l.getD j default) = false :=
  firstFrom_spec l l 0 (-1) rfl (Nat.zero_le _) (.inl ⟨rfl, rfl⟩)
/-- when the next copy is due -/
def nextQ (l : List Cpy) : Int × Bool := if firstR l < 0 then (0, false) else ((l.getD (firstR l).toNat default).due, true)
set_option maxRecDepth 8000 in
set_option maxHeartbeats 1600000 in
theorem qNextR_any (vs : Value) (s : RSt) (w : World) (hs : StV w vs s) : Calls Try.prog 24 #[vs] w fun e w' => e = .returned (.tuple #[.int .i64 (nextQ s.flight).1, .bool (nextQ s.flight).2]) ∧ Kp w w' := by
  obtain ⟨vf, vl, vc, rfl, hF, hL, hC⟩ := hs
  obtain ⟨Af, cf, rfl, hcf, hmf⟩ := hF.form
  obtain ⟨Al, cl, rfl, hcl, hml⟩ := hL.form
  obtain ⟨Ac, cc, rfl, hcc, hmc⟩ := hC.form
  have hB := Bx.new w #[.int .i64 s.reps, .int .i64 s.tick, .slice Af s.fates.length cf, .slice Al s.flight.length cl, .slice Ac s.cuts.length cc, .int .i64 s.sent, .int .i64 s.delivered, .int .i64 s.lost, .int .i64 s.made] 66
  have k0 := (Kp.refl w).alloc (.cells #[.int .i64 s.reps, .int .i64 s.tick, .slice Af s.fates.length cf, .slice Al s.flight.length cl, .slice Ac s.cuts.length cc, .int .i64 s.sent, .int .i64 s.delivered, .int .i64 s.lost, .int .i64 s.made] 66)
  have c3 := hB.cell (j := 3) rfl
  have hL0 := hL.keep rdCpy_stable k0
  have HN : Hid (nextQ s.flight = if firstR s.flight < 0 then (0, false) else ((s.flight.getD (firstR s.flight).toNat default).due, true)) := hid rfl
  generalize nextQ s.flight = R at *
  clear hL hF hC
  go_enter Try.func24, Try.ntmps24
  go_wp2_with fail
  refine (qFirst_any _ s.flight _ hL0).mono ?_
  rintro e w1 ⟨rfl, k1⟩
  generalize w.alloc (.cells #[.int .i64 s.reps, .int .i64 s.tick, .slice Af s.fates.length cf, .slice Al s.flight.length cl, .slice Ac s.cuts.length cc, .int .i64 s.sent, .int .i64 s.delivered, .int .i64 s.lost, .int .i64 s.made] 66) = w0 at *
  replace c3 := k1.cellS c3
  have hL1 := hL0.keep rdCpy_stable k1
  have k01 := k0.trans k1
  clear hL0 k0 k1 hB
  rcases firstR_spec s.flight with ⟨h1, h2⟩ | ⟨j, h1, h2, -⟩
  · have HF := HN.out
    rw [h2] at HF
    subst HF
    rw [h2]
    have e1 : decide ((-1 : Int) < 0) = true := rfl
    go_wp2
    go_ret2
    exact ⟨rfl, k01⟩
  · obtain ⟨g, o, rfl, hg, x1, x2⟩ := hL1.cpy h2
    have HF : Hid (R = ((s.flight[j]).due, true)) := hid (by
      rw [HN.out, h1, if_neg (by omega)]
      simp [List.getD, h2])
    rw [h1]
    have e1 : decide ((j : Int) < 0) = false := decide_eq_false (by omega)
    have hjl : (j : Int) < (s.flight.length : Int) := by omega
    clear hL1 HN h1
    generalize s.flight[j] = x at *
    go_wp2
    go_ret2
    exact ⟨by rw [HF.out]; rfl, k01⟩
/-- a new network -/
def zSt : RSt := ⟨0, 0, [], [], [], 0, 0, 0, 0⟩
def newOkB (n : Int) (fs : List Fate) : Bool := decide (1 ≤ n) && decide (n ≤ 5) && decide (fs.length ≤ 256) && fs.all validF
def newQ (n : Int) (fs : List Fate) : RSt × Int := if newOkB n fs then ({ zSt with reps := n, fates := fs }, 0) else (zSt, 1)
theorem StX.zero (wE w : World) (T : Nat → Prop) : StX wE T w (.agg #[.int .i64 0, .int .i64 0, .slice none 0 0, .slice none 0 0, .slice none 0 0, .int .i64 0, .int .i64 0, .int .i64 0, .int .i64 0]) zSt :=
  ⟨_, _, _, [], rfl, Sl.nil _ _ _, rfl, fun k h1 _ => absurd h1 (by simp), fun w' _ _ => Sl.nil _ _ _, fun w' _ _ => Sl.nil _ _ _⟩
set_option maxRecDepth 8000 in
set_option maxHeartbeats 1600000 in
theorem qNewR_any (wE : World) (vf : Value) (n : Int) (fs : List Fate) (w : World) (kE : Kp wE w) (hfE : Fates wE vf fs) : Calls Try.prog 22 #[.int .i64 n, vf] w fun e w' => ∃ v, e = .returned (.tuple #[v, .int .i64 (newQ n fs).2]) ∧ StX wE (fun _ => False) w' v (newQ n fs).1 ∧ Kp w w' := by
  have hf := hfE.keep (pl_stable _) kE
  obtain ⟨A, ca, rfl, hca, hma⟩ := hf.form
  have HFE := hid hfE
  clear hfE kE
  have hB := Bx.new w [.int .i64 0, .int .i64 0, .slice none 0 0, .slice none 0 0, .slice none 0 0, .int .i64 0, .int .i64 0, .int .i64 0, .int .i64 0].toArray 66
  have kk := (Kp.refl w).alloc (.cells [.int .i64 0, .int .i64 0, .slice none 0 0, .slice none 0 0, .slice none 0 0, .int .i64 0, .int .i64 0, .int .i64 0, .int .i64 0].toArray 66)
  have hwb := alloc_lt w (.cells [.int .i64 0, .int .i64 0, .slice none 0 0, .slice none 0 0, .slice none 0 0, .int .i64 0, .int .i64 0, .int .i64 0, .int .i64 0].toArray 66)
  have hf0 := hf.keep (pl_stable _) kk
  go_enter Try.func22, Try.ntmps22
  go_upto_region 1 with (fail)
  generalize hw0 : w.alloc (.cells [.int .i64 0, .int .i64 0, .slice none 0 0, .slice none 0 0, .slice none 0 0, .int .i64 0, .int .i64 0, .int .i64 0, .int .i64 0].toArray 66) = w0 at *
  generalize hb0 : w.heap.size = b0 at *
  simp only [List.toList_toArray] at hB
  by_cases h1 : n < 1
  · have e1 : decide (n < 1) = true := decide_eq_true h1
    have HN : Hid (newOkB n fs = false) := hid (by rw [newOkB, decide_eq_false (by omega : ¬ 1 ≤ n)]; rfl)
    replace h1 := hid h1
    have HF : Hid (newQ n fs = (zSt, 1)) := hid (by rw [newQ, if_neg (by rw [HN.out]; simp)])
    have d0 := (hB).cell (j := 0) rfl
    have d1 := (hB).cell (j := 1) rfl
    have d2 := (hB).cell (j := 2) rfl
    have d3 := (hB).cell (j := 3) rfl
    have d4 := (hB).cell (j := 4) rfl
    have d5 := (hB).cell (j := 5) rfl
    have d6 := (hB).cell (j := 6) rfl
    have d7 := (hB).cell (j := 7) rfl
    have d8 := (hB).cell (j := 8) rfl
    have f0 := (hB).free (j := 0) (by simp)
    have f1 := (hB).free (j := 1) (by simp)
    have f2 := (hB).free (j := 2) (by simp)
    have f3 := (hB).free (j := 3) (by simp)
    have f4 := (hB).free (j := 4) (by simp)
    have f5 := (hB).free (j := 5) (by simp)
    have f6 := (hB).free (j := 6) (by simp)
    have f7 := (hB).free (j := 7) (by simp)
    have f8 := (hB).free (j := 8) (by simp)
    go_wp2
    refine bodyPost_ret (results_cell_bx2 rfl _ _ b0 [.int .i64 0, .int .i64 0, .slice none 0 0, .slice none 0 0, .slice none 0 0, .int .i64 0, .int .i64 0, .int .i64 0, .int .i64 0] _ rfl (hB.all (cs := [.int .i64 0, .int .i64 0, .slice none 0 0, .slice none 0 0, .slice none 0 0, .int .i64 0, .int .i64 0, .int .i64 0, .int .i64 0]) rfl).range Try.underlying66 rfl (by kernel_rfl)) rfl ?_
    exact ⟨_, by rw [HF.out]; rfl, by rw [HF.out]; exact StX.zero _ _ _, Kp.setCells (Nat.le_of_eq hb0) [.int .i64 0, .int .i64 0, .slice none 0 0, .slice none 0 0, .slice none 0 0, .int .i64 0, .int .i64 0, .int .i64 0, .int .i64 0] 0 _ kk⟩
  · have e1 : decide (n < 1) = false := decide_eq_false h1
    by_cases h2 : 5 < n
    · have e2 : decide (5 < n) = true := decide_eq_true h2
      have HN : Hid (newOkB n fs = false) := hid (by rw [newOkB, decide_eq_false (by omega : ¬ n ≤ 5)]; simp)
      replace h1 := hid h1
      replace h2 := hid h2
      have HF : Hid (newQ n fs = (zSt, 1)) := hid (by rw [newQ, if_neg (by rw [HN.out]; simp)])
      have d0 := (hB).cell (j := 0) rfl
      have d1 := (hB).cell (j := 1) rfl
      have d2 := (hB).cell (j := 2) rfl
      have d3 := (hB).cell (j := 3) rfl
      have d4 := (hB).cell (j := 4) rfl
      have d5 := (hB).cell (j := 5) rfl
      have d6 := (hB).cell (j := 6) rfl
      have d7 := (hB).cell (j := 7) rfl
      have d8 := (hB).cell (j := 8) rfl
      have f0 := (hB).free (j := 0) (by simp)
      have f1 := (hB).free (j := 1) (by simp)
      have f2 := (hB).free (j := 2) (by simp)
      have f3 := (hB).free (j := 3) (by simp)
      have f4 := (hB).free (j := 4) (by simp)
      have f5 := (hB).free (j := 5) (by simp)
      have f6 := (hB).free (j := 6) (by simp)
      have f7 := (hB).free (j := 7) (by simp)
      have f8 := (hB).free (j := 8) (by simp)
      go_wp2
      refine bodyPost_ret (results_cell_bx2 rfl _ _ b0 [.int .i64 0, .int .i64 0, .slice none 0 0, .slice none 0 0, .slice none 0 0, .int .i64 0, .int .i64 0, .int .i64 0, .int .i64 0] _ rfl (hB.all (cs := [.int .i64 0, .int .i64 0, .slice none 0 0, .slice none 0 0, .slice none 0 0, .int .i64 0, .int .i64 0, .int .i64 0, .int .i64 0]) rfl).range Try.underlying66 rfl (by kernel_rfl)) rfl ?_
      exact ⟨_, by rw [HF.out]; rfl, by rw [HF.out]; exact StX.zero _ _ _, Kp.setCells (Nat.le_of_eq hb0) [.int .i64 0, .int .i64 0, .slice none 0 0, .slice none 0 0, .slice none 0 0, .int .i64 0, .int .i64 0, .int .i64 0, .int .i64 0] 0 _ kk⟩
    · have e2 : decide (5 < n) = false := decide_eq_false h2
      by_cases h3 : 256 < fs.length
      · have e3 : decide (256 < (fs.length : Int)) = true := decide_eq_true (by omega)
        have HN : Hid (newOkB n fs = false) := hid (by rw [newOkB, decide_eq_false (by omega : ¬ fs.length ≤ 256)]; simp)
        replace h1 := hid h1
        replace h2 := hid h2
        have HF : Hid (newQ n fs = (zSt, 1)) := hid (by rw [newQ, if_neg (by rw [HN.out]; simp)])
        have d0 := (hB).cell (j := 0) rfl
        have d1 := (hB).cell (j := 1) rfl
        have d2 := (hB).cell (j := 2) rfl
        have d3 := (hB).cell (j := 3) rfl
        have d4 := (hB).cell (j := 4) rfl
        have d5 := (hB).cell (j := 5) rfl
        have d6 := (hB).cell (j := 6) rfl
        have d7 := (hB).cell (j := 7) rfl
        have d8 := (hB).cell (j := 8) rfl
        have f0 := (hB).free (j := 0) (by simp)
        have f1 := (hB).free (j := 1) (by simp)
        have f2 := (hB).free (j := 2) (by simp)
        have f3 := (hB).free (j := 3) (by simp)
        have f4 := (hB).free (j := 4) (by simp)
        have f5 := (hB).free (j := 5) (by simp)
        have f6 := (hB).free (j := 6) (by simp)
        have f7 := (hB).free (j := 7) (by simp)
        have f8 := (hB).free (j := 8) (by simp)
        go_wp2
        refine bodyPost_ret (results_cell_bx2 rfl _ _ b0 [.int .i64 0, .int .i64 0, .slice none 0 0, .slice none 0 0, .slice none 0 0, .int .i64 0, .int .i64 0, .int .i64 0, .int .i64 0] _ rfl (hB.all (cs := [.int .i64 0, .int .i64 0, .slice none 0 0, .slice none 0 0, .slice none 0 0, .int .i64 0, .int .i64 0, .int .i64 0, .int .i64 0]) rfl).range Try.underlying66 rfl (by kernel_rfl)) rfl ?_
        exact ⟨_, by rw [HF.out]; rfl, by rw [HF.out]; exact StX.zero _ _ _, Kp.setCells (Nat.le_of_eq hb0) [.int .i64 0, .int .i64 0, .slice none 0 0, .slice none 0 0, .slice none 0 0, .int .i64 0, .int .i64 0, .int .i64 0, .int .i64 0] 0 _ kk⟩
      · have e3 : decide (256 < (fs.length : Int)) = false := decide_eq_false (by omega)
        have HP : Hid (newOkB n fs = fs.all validF) := hid (by rw [newOkB, decide_eq_true (by omega : fs.length ≤ 256), decide_eq_true (by omega : 1 ≤ n), decide_eq_true (by omega : n ≤ 5)]; simp)
        replace h1 := hid h1
        replace h2 := hid h2
        replace h3 := hid h3
        go_wp2_with fail
        go_loopw [6] (fun i wr => ∃ k : Nat, k ≤ fs.length ∧ i = .int .i64 (k : Int) ∧ Hid (fs.all validF = (fs.drop k).all validF) ∧ Kp w0 wr) (fun i _ => fs.length - (intOf i).toNat)
        case atStart => exact ⟨0, Nat.zero_le _, rfl, hid rfl, Kp.refl _⟩
        case round =>
          obtain ⟨k, hk, rfl, HD, kr⟩ := hrel
          have hBr := hB.kp kr hwb
          replace kk := kk.trans kr
          clear hB
          by_cases hlt : k < fs.length
          · have hlk : (k : Int) < (fs.length : Int) := by omega
            obtain ⟨g, o, rfl, hg, i0, i1, i2⟩ := (hf0.keep (pl_stable _) kr).fate hlt
            have HX := hid (List.drop_eq_getElem_cons hlt)
            generalize fs[k] = x at *
            have HV := hid (rfl : validF x = validF x)
            obtain ⟨y1, y2, y3⟩ := x
            dsimp only at i0 i1 i2
            clear hf hf0
            go_wp2_with fail
            refine (qValidFate_any y1 y2 y3 _).mono ?_
            rintro e w1 ⟨rfl, k1⟩
            have hB := hBr.kp k1 (Nat.lt_of_lt_of_le hwb kr.size)
            replace kr := kr.trans k1
            replace kk := kk.trans k1
            clear hBr k1 i0 i1 i2
            cases hv : validF ⟨y1, y2, y3⟩ with
            | true =>
              have HD2 : Hid (fs.all validF = (fs.drop (k + 1)).all validF) := hid (by rw [HD.out, HX.out, List.all_cons, hv]; rfl)
              replace hv := hid hv
              go_wp2_with fail
              go_roundw
              case rel => exact ⟨k + 1, by omega, by go_num, HD2, kr⟩
              case measure => simp [intOf]; omega
            | false =>
              have HN : Hid (newOkB n fs = false) := hid (by rw [HP.out, HD.out, HX.out, List.all_cons, hv]; rfl)
              replace hv := hid hv
              have HF : Hid (newQ n fs = (zSt, 1)) := hid (by rw [newQ, if_neg (by rw [HN.out]; simp)])
              have d0 := (hB).cell (j := 0) rfl
              have d1 := (hB).cell (j := 1) rfl
              have d2 := (hB).cell (j := 2) rfl
              have d3 := (hB).cell (j := 3) rfl
              have d4 := (hB).cell (j := 4) rfl
              have d5 := (hB).cell (j := 5) rfl
              have d6 := (hB).cell (j := 6) rfl
              have d7 := (hB).cell (j := 7) rfl
              have d8 := (hB).cell (j := 8) rfl
              have f0 := (hB).free (j := 0) (by simp)
              have f1 := (hB).free (j := 1) (by simp)
              have f2 := (hB).free (j := 2) (by simp)
              have f3 := (hB).free (j := 3) (by simp)
              have f4 := (hB).free (j := 4) (by simp)
              have f5 := (hB).free (j := 5) (by simp)
              have f6 := (hB).free (j := 6) (by simp)
              have f7 := (hB).free (j := 7) (by simp)
              have f8 := (hB).free (j := 8) (by simp)
              go_wp2
              refine bodyPost_ret (results_cell_bx2 rfl _ _ b0 [.int .i64 0, .int .i64 0, .slice none 0 0, .slice none 0 0, .slice none 0 0, .int .i64 0, .int .i64 0, .int .i64 0, .int .i64 0] _ rfl (hB.all (cs := [.int .i64 0, .int .i64 0, .slice none 0 0, .slice none 0 0, .slice none 0 0, .int .i64 0, .int .i64 0, .int .i64 0, .int .i64 0]) rfl).range Try.underlying66 rfl (by kernel_rfl)) rfl ?_
              exact ⟨_, by rw [HF.out]; rfl, by rw [HF.out]; exact StX.zero _ _ _, Kp.setCells (Nat.le_of_eq hb0) [.int .i64 0, .int .i64 0, .slice none 0 0, .slice none 0 0, .slice none 0 0, .int .i64 0, .int .i64 0, .int .i64 0, .int .i64 0] 0 _ kk⟩
          · have hlk : ¬ (k : Int) < (fs.length : Int) := by omega
            have HN : Hid (newQ n fs = ({ zSt with reps := n, fates := fs }, 0)) := hid (by rw [newQ, if_pos (by rw [HP.out, HD.out, List.drop_of_length_le (by omega)]; rfl)])
            have hf1 := hf0.keep (pl_stable _) kr
            have d0 := (hBr).cell (j := 0) rfl
            have d1 := (hBr).cell (j := 1) rfl
            have d2 := (hBr).cell (j := 2) rfl
            have d3 := (hBr).cell (j := 3) rfl
            have d4 := (hBr).cell (j := 4) rfl
            have d5 := (hBr).cell (j := 5) rfl
            have d6 := (hBr).cell (j := 6) rfl
            have d7 := (hBr).cell (j := 7) rfl
            have d8 := (hBr).cell (j := 8) rfl
            have f0 := (hBr).free (j := 0) (by simp)
            have f1 := (hBr).free (j := 1) (by simp)
            have f2 := (hBr).free (j := 2) (by simp)
            have f3 := (hBr).free (j := 3) (by simp)
            have f4 := (hBr).free (j := 4) (by simp)
            have f5 := (hBr).free (j := 5) (by simp)
            have f6 := (hBr).free (j := 6) (by simp)
            have f7 := (hBr).free (j := 7) (by simp)
            have f8 := (hBr).free (j := 8) (by simp)
            go_wp2
            refine bodyPost_ret (results_cell_bx2 rfl _ _ b0 [.int .i64 n, .int .i64 0, .slice A fs.length ca, .slice none 0 0, .slice none 0 0, .int .i64 0, .int .i64 0, .int .i64 0, .int .i64 0] _ rfl (hBr.all (cs := [.int .i64 n, .int .i64 0, .slice A fs.length ca, .slice none 0 0, .slice none 0 0, .int .i64 0, .int .i64 0, .int .i64 0, .int .i64 0]) rfl).range Try.underlying66 rfl (by kernel_rfl)) rfl ?_
            have kF := Kp.setCells (Nat.le_of_eq hb0) [.int .i64 n, .int .i64 0, .slice A fs.length ca, .slice none 0 0, .slice none 0 0, .int .i64 0, .int .i64 0, .int .i64 0, .int .i64 0] 0 _ kk
            exact ⟨_, by rw [HN.out]; rfl, by rw [HN.out]; exact ⟨_, _, _, [], rfl, HFE.out, rfl, fun k h1 _ => absurd h1 (by simp), fun w' _ _ => Sl.nil _ _ _, fun w' _ _ => Sl.nil _ _ _⟩, kF⟩
end Go.Proofs.Ytmokpnkpfodppaa
