
/-
slices.Equal of integers and of Bool values: the walks.
-/
import Derived.Test.YtlkabhjkncklnaaDgU
namespace Go.Proofs.Ytlkabhjkncklnaa
set_option linter.unusedSimpArgs false
set_option linter.unusedVariables false
open Go.RowKit

theorem eq_drop {α : Type} [DecidableEq α] {l m : List α} (hl : l.length = m.length) {k : Nat} (h1 : k < l.length) : decide (l.drop k = m.drop k) = (decide (l[k] = m[k]'(by omega)) && decide (l.drop (k + 1) = m.drop (k + 1))) := by
  rw [List.drop_eq_getElem_cons h1, List.drop_eq_getElem_cons (show k < m.length by omega), Bool.eq_iff_iff, Bool.and_eq_true, decide_eq_true_iff, decide_eq_true_iff, decide_eq_true_iff, List.cons.injEq]
set_option maxRecDepth 8000 in
set_option maxHeartbeats 2000000 in
theorem EqualI_any (va vb : Value) (l m : List Int) (w : World) (ha : Ints w va l) (hb : Ints w vb m) : Calls Try.prog 16 #[va, vb] w fun e w' => e = .returned (.bool (decide (l = m))) ∧ Kp w w' := by
  obtain ⟨A, ca, rfl, hca, hma⟩ := ha.form
  obtain ⟨B, cb, rfl, hcb, hmb⟩ := hb.form
  generalize hR : decide (l = m) = R
  have HR := hid hR
  clear hR
  go_enter Try.func16, Try.ntmps16
  by_cases hl : l.length = m.length
  · have HL := hid hl
    have HR0 : Hid (R = decide (l.drop 0 = m.drop 0)) := hid HR.out.symm
    have e1 : ((l.length : Int) != (m.length : Int)) = false := by rw [hl]; simp
    have HA := hid ha
    have HBB := hid hb
    generalize hll : l.length = ln at *
    subst hl
    have HLL := hid hll
    clear ha hb hll HR
    go_wp2_with fail
    go_loopw [13] (fun i wr => ∃ k : Nat, k ≤ m.length ∧ i = .int .i64 (k : Int) ∧ Hid (R = decide (l.drop k = m.drop k)) ∧ Kp w wr) (fun i _ => m.length - (intOf i).toNat)
    case atStart => exact ⟨0, Nat.zero_le _, rfl, HR0, Kp.refl _⟩
    case round =>
      obtain ⟨k, hk, rfl, HD, kr⟩ := hrel
      by_cases hlt : k < m.length
      · have hkl : (k : Int) < (m.length : Int) := by omega
        have hlt1 : k < l.length := by rw [HLL.out]; exact hlt
        obtain ⟨g1, o1, hA, hg1, i1⟩ := (HA.out.keep (pl_stable _) kr).ints hlt1
        obtain ⟨g2, o2, hB, hg2, i2⟩ := (HBB.out.keep (pl_stable _) kr).ints hlt
        subst hA hB
        have HX := hid (eq_drop HLL.out hlt1)
        generalize l[k] = x at *
        generalize m[k] = y at *
        by_cases h : x = y
        · have e2 : (x != y) = false := by rw [h]; simp
          have HF : Hid (R = decide (l.drop (k + 1) = m.drop (k + 1))) := hid (by rw [HD.out, HX.out, decide_eq_true h, Bool.true_and])
          replace h := hid h
          clear hlt1
          go_upto_region 6 with (fail)
          go_quiet (fail)
          go_wp2_with fail
          go_roundw
          case rel => exact ⟨k + 1, by omega, by go_num, HF, kr.drewN _⟩
          case measure => simp [intOf]; omega
        · have e2 : (x != y) = true := by simpa using h
          have HF : Hid (R = false) := hid (by rw [HD.out, HX.out, decide_eq_false h, Bool.false_and])
          replace h := hid h
          clear hlt1
          go_upto_region 6 with (fail)
          go_quiet (fail)
          go_wp2
          go_ret
          exact ⟨by rw [HF.out]; rfl, kr.drewN _⟩
      · have hkl : ¬ (k : Int) < (m.length : Int) := by omega
        have HF : Hid (R = true) := hid (by rw [HD.out, List.drop_of_length_le (show l.length ≤ k by rw [HLL.out]; omega), List.drop_of_length_le (show m.length ≤ k by omega)]; simp)
        go_wp2
        go_ret
        exact ⟨by rw [HF.out]; rfl, kr⟩
  · have e1 : ((l.length : Int) != (m.length : Int)) = true := by
      have : ¬ (l.length : Int) = (m.length : Int) := by omega
      simpa using this
    have HF : Hid (R = false) := hid (by rw [← HR.out, decide_eq_false_iff_not]; exact fun e => hl (by rw [e]))
    replace hl := hid hl
    generalize l.length = ln at *
    generalize m.length = mn at *
    go_wp2
    go_ret
    exact ⟨by rw [HF.out]; rfl, Kp.refl _⟩
set_option maxRecDepth 8000 in
set_option maxHeartbeats 2000000 in
theorem EqInts_any (va vb : Value) (l m : List Int) (w : World) (ha : Ints w va l) (hb : Ints w vb m) : Calls Try.prog 34 #[va, vb] w fun e w' => e = .returned (.bool (decide (l = m))) ∧ Kp w w' := by
  obtain ⟨A, ca, rfl, hca, hma⟩ := ha.form
  obtain ⟨B, cb, rfl, hcb, hmb⟩ := hb.form
  generalize hR : decide (l = m) = R
  have HR := hid hR
  clear hR
  go_enter Try.func34, Try.ntmps34
  by_cases hl : l.length = m.length
  · have HL := hid hl
    have HR0 : Hid (R = decide (l.drop 0 = m.drop 0)) := hid HR.out.symm
    have e1 : ((l.length : Int) != (m.length : Int)) = false := by rw [hl]; simp
    have HA := hid ha
    have HBB := hid hb
    generalize hll : l.length = ln at *
    subst hl
    have HLL := hid hll
    clear ha hb hll HR
    go_wp2_with fail
    go_loopw [5] (fun i wr => ∃ k : Nat, k ≤ m.length ∧ i = .int .i64 (k : Int) ∧ Hid (R = decide (l.drop k = m.drop k)) ∧ Kp w wr) (fun i _ => m.length - (intOf i).toNat)
    case atStart => exact ⟨0, Nat.zero_le _, rfl, HR0, Kp.refl _⟩
    case round =>
      obtain ⟨k, hk, rfl, HD, kr⟩ := hrel
      by_cases hlt : k < m.length
      · have hkl : (k : Int) < (m.length : Int) := by omega
        have hlt1 : k < l.length := by rw [HLL.out]; exact hlt
        obtain ⟨g1, o1, hA, hg1, i1⟩ := (HA.out.keep (pl_stable _) kr).ints hlt1
        obtain ⟨g2, o2, hB, hg2, i2⟩ := (HBB.out.keep (pl_stable _) kr).ints hlt
        subst hA hB
        have HX := hid (eq_drop HLL.out hlt1)
        generalize l[k] = x at *
        generalize m[k] = y at *
        by_cases h : x = y
        · have e2 : (x != y) = false := by rw [h]; simp
          have HF : Hid (R = decide (l.drop (k + 1) = m.drop (k + 1))) := hid (by rw [HD.out, HX.out, decide_eq_true h, Bool.true_and])
          replace h := hid h
          clear hlt1
          go_upto_region 6 with (fail)
          go_quiet (fail)
          go_wp2_with fail
          go_roundw
          case rel => exact ⟨k + 1, by omega, by go_num, HF, kr.drewN _⟩
          case measure => simp [intOf]; omega
        · have e2 : (x != y) = true := by simpa using h
          have HF : Hid (R = false) := hid (by rw [HD.out, HX.out, decide_eq_false h, Bool.false_and])
          replace h := hid h
          clear hlt1
          go_upto_region 6 with (fail)
          go_quiet (fail)
          go_wp2
          go_ret
          exact ⟨by rw [HF.out]; rfl, kr.drewN _⟩
      · have hkl : ¬ (k : Int) < (m.length : Int) := by omega
        have HF : Hid (R = true) := hid (by rw [HD.out, List.drop_of_length_le (show l.length ≤ k by rw [HLL.out]; omega), List.drop_of_length_le (show m.length ≤ k by omega)]; simp)
        go_wp2
        go_ret
        exact ⟨by rw [HF.out]; rfl, kr⟩
  · have e1 : ((l.length : Int) != (m.length : Int)) = true := by
      have : ¬ (l.length : Int) = (m.length : Int) := by omega
      simpa using this
    have HF : Hid (R = false) := hid (by rw [← HR.out, decide_eq_false_iff_not]; exact fun e => hl (by rw [e]))
    replace hl := hid hl
    generalize l.length = ln at *
    generalize m.length = mn at *
    go_wp2
    go_ret
    exact ⟨by rw [HF.out]; rfl, Kp.refl _⟩
set_option maxRecDepth 8000 in
set_option maxHeartbeats 2000000 in
theorem EqualB_any (va vb : Value) (l m : List Bool) (w : World) (ha : Bools w va l) (hb : Bools w vb m) : Calls Try.prog 13 #[va, vb] w fun e w' => e = .returned (.bool (decide (l = m))) ∧ Kp w w' := by
  obtain ⟨A, ca, rfl, hca, hma⟩ := ha.form
  obtain ⟨B, cb, rfl, hcb, hmb⟩ := hb.form
  generalize hR : decide (l = m) = R
  have HR := hid hR
  clear hR
  go_enter Try.func13, Try.ntmps13
  by_cases hl : l.length = m.length
  · have HL := hid hl
    have HR0 : Hid (R = decide (l.drop 0 = m.drop 0)) := hid HR.out.symm
    have e1 : ((l.length : Int) != (m.length : Int)) = false := by rw [hl]; simp
    have HA := hid ha
    have HBB := hid hb
    generalize hll : l.length = ln at *
    subst hl
    have HLL := hid hll
    clear ha hb hll HR
    go_wp2_with fail
    go_loopw [13] (fun i wr => ∃ k : Nat, k ≤ m.length ∧ i = .int .i64 (k : Int) ∧ Hid (R = decide (l.drop k = m.drop k)) ∧ Kp w wr) (fun i _ => m.length - (intOf i).toNat)
    case atStart => exact ⟨0, Nat.zero_le _, rfl, HR0, Kp.refl _⟩
    case round =>
      obtain ⟨k, hk, rfl, HD, kr⟩ := hrel
      by_cases hlt : k < m.length
      · have hkl : (k : Int) < (m.length : Int) := by omega
        have hlt1 : k < l.length := by rw [HLL.out]; exact hlt
        obtain ⟨g1, o1, hA, hg1, i1⟩ := (HA.out.keep (pl_stable _) kr).bools hlt1
        obtain ⟨g2, o2, hB, hg2, i2⟩ := (HBB.out.keep (pl_stable _) kr).bools hlt
        subst hA hB
        have HX := hid (eq_drop HLL.out hlt1)
        generalize l[k] = x at *
        generalize m[k] = y at *
        cases x with
        | false =>
          cases y with
          | false =>
            have HF : Hid (R = decide (l.drop (k + 1) = m.drop (k + 1))) := hid (by rw [HD.out, HX.out]; simp)
            clear hlt1
            go_upto_region 6 with (fail)
            go_quiet (fail)
            go_wp2_with fail
            go_roundw
            case rel => exact ⟨k + 1, by omega, by go_num, HF, kr.drewN _⟩
            case measure => simp [intOf]; omega
          | true =>
            have HF : Hid (R = false) := hid (by rw [HD.out, HX.out]; simp)
            clear hlt1
            go_upto_region 6 with (fail)
            go_quiet (fail)
            go_wp2
            go_ret
            exact ⟨by rw [HF.out]; rfl, kr.drewN _⟩
        | true =>
          cases y with
          | false =>
            have HF : Hid (R = false) := hid (by rw [HD.out, HX.out]; simp)
            clear hlt1
            go_upto_region 6 with (fail)
            go_quiet (fail)
            go_wp2
            go_ret
            exact ⟨by rw [HF.out]; rfl, kr.drewN _⟩
          | true =>
            have HF : Hid (R = decide (l.drop (k + 1) = m.drop (k + 1))) := hid (by rw [HD.out, HX.out]; simp)
            clear hlt1
            go_upto_region 6 with (fail)
            go_quiet (fail)
            go_wp2_with fail
            go_roundw
            case rel => exact ⟨k + 1, by omega, by go_num, HF, kr.drewN _⟩
            case measure => simp [intOf]; omega
      · have hkl : ¬ (k : Int) < (m.length : Int) := by omega
        have HF : Hid (R = true) := hid (by rw [HD.out, List.drop_of_length_le (show l.length ≤ k by rw [HLL.out]; omega), List.drop_of_length_le (show m.length ≤ k by omega)]; simp)
        go_wp2
        go_ret
        exact ⟨by rw [HF.out]; rfl, kr⟩
  · have e1 : ((l.length : Int) != (m.length : Int)) = true := by
      have : ¬ (l.length : Int) = (m.length : Int) := by omega
      simpa using this
    have HF : Hid (R = false) := hid (by rw [← HR.out, decide_eq_false_iff_not]; exact fun e => hl (by rw [e]))
    replace hl := hid hl
    generalize l.length = ln at *
    generalize m.length = mn at *
    go_wp2
    go_ret
    exact ⟨by rw [HF.out]; rfl, Kp.refl _⟩
theorem castL_inj {l m : List Nat} : castL l = castL m ↔ l = m := by
  constructor
  · intro h
    unfold castL at h
    exact List.map_inj_right (fun x y e => by omega) |>.1 h
  · rintro rfl
    rfl
set_option maxRecDepth 8000 in
set_option maxHeartbeats 2000000 in
theorem qLists_any (va vb : Value) (l m : List (List Nat)) (w : World) (ha : Sl rdL 1 w va l) (hb : Sl rdL 1 w vb m) : Calls Try.prog 23 #[va, vb] w fun e w' => e = .returned (.bool (decide (l = m))) ∧ Kp w w' := by
  obtain ⟨A, ca, rfl, hca, hma⟩ := ha.form
  obtain ⟨B, cb, rfl, hcb, hmb⟩ := hb.form
  generalize hR : decide (l = m) = R
  have HR := hid hR
  clear hR
  go_enter Try.func23, Try.ntmps23
  by_cases hl : l.length = m.length
  · have HR0 : Hid (R = decide (l.drop 0 = m.drop 0)) := hid HR.out.symm
    have e1 : ((l.length : Int) != (m.length : Int)) = false := by rw [hl]; simp
    have HA := hid ha
    have HBB := hid hb
    generalize hll : l.length = ln at *
    subst hl
    have HLL := hid hll
    clear ha hb hll HR
    go_wp2_with fail
    go_loopw [5] (fun i wr => ∃ k : Nat, k ≤ m.length ∧ i = .int .i64 (k : Int) ∧ Hid (R = decide (l.drop k = m.drop k)) ∧ Kp w wr) (fun i _ => m.length - (intOf i).toNat)
    case atStart => exact ⟨0, Nat.zero_le _, rfl, HR0, Kp.refl _⟩
    case round =>
      obtain ⟨k, hk, rfl, HD, kr⟩ := hrel
      by_cases hlt : k < m.length
      · have hkl : (k : Int) < (m.length : Int) := by omega
        have hlt1 : k < l.length := by rw [HLL.out]; exact hlt
        obtain ⟨g1, o1, u1, hA, hg1, i1, hi1⟩ := (HA.out.keep rdL_stable kr).rdL hlt1
        obtain ⟨g2, o2, u2, hB, hg2, i2, hi2⟩ := (HBB.out.keep rdL_stable kr).rdL hlt
        subst hA hB
        obtain ⟨A1, c1, rfl, -, -⟩ := hi1.form
        obtain ⟨A2, c2, rfl, -, -⟩ := hi2.form
        have HX := hid (eq_drop HLL.out hlt1)
        generalize l[k] = x at *
        generalize m[k] = y at *
        have HI1 := hid hi1
        have HI2 := hid hi2
        have HC : Hid (decide (castL x = castL y) = decide (x = y)) := hid (by rw [Bool.eq_iff_iff, decide_eq_true_iff, decide_eq_true_iff]; exact castL_inj)
        clear hi1 hi2 hlt1
        generalize (castL x).length = lx at *
        generalize (castL y).length = ly at *
        obtain ⟨qb, hqb⟩ : ∃ qb, decide (x = y) = qb := ⟨_, rfl⟩
        have HQB := hid hqb
        clear hqb
        go_upto_region 6 with (fail)
        refine G2.wp_region_growT Kp [] 9 27 (G2.pvL [G2.eqv (.slice (some ⟨g1, o1, none⟩) m.length ca), G2.eqv (.int .i64 (k : Int)), G2.eqv (.pointer (some ⟨g1, o1 + k, none⟩)), G2.eqv (.slice A1 lx c1), G2.eqv (.slice (some ⟨g2, o2, none⟩) m.length cb), G2.eqv (.int .i64 (k : Int)), G2.eqv (.pointer (some ⟨g2, o2 + k, none⟩)), G2.eqv (.slice A2 ly c2), G2.eqv (.bool qb)]) (by kernel_rfl) (by kernel_rfl) rfl (fun x => Kp.refl x) (fun _ _ _ h k => h.trans k) (Kp.refl _).drew (fun _ _ _ _ _ h => h) (G2.pvL_keep (G2.stabL_cons (G2.stab_eq _) (G2.stabL_cons (G2.stab_eq _) (G2.stabL_cons (G2.stab_eq _) (G2.stabL_cons (G2.stab_eq _) (G2.stabL_cons (G2.stab_eq _) (G2.stabL_cons (G2.stab_eq _) (G2.stabL_cons (G2.stab_eq _) (G2.stabL_cons (G2.stab_eq _) (G2.stabL_cons (G2.stab_eq _) (G2.stabL_nil))))))))))) (G2.stepsT_cons 0 ?_ (G2.stepsT_cons 1 ?_ (G2.stepsT_cons 2 ?_ (G2.stepsT_cons 3 ?_ (G2.stepsT_cons 4 ?_ (G2.stepsT_cons 5 ?_ (G2.stepsT_cons 6 ?_ (G2.stepsT_cons 7 ?_ (G2.stepsT_cons 8 ?_ (G2.stepsT_nil _ _ _)))))))))) ?_ ?_
        · intro a w' hk hF hD K hK
          have h0 : a.tmps[0]?.getD undef = .slice (some ⟨g1, o1, none⟩) m.length ca := hF 0 (by kernel_rfl)
          clear hF hD
          go_simp
          exact hK.out _ _ (Kp.refl _) rfl
        · intro a w' hk hF hD K hK
          have h5 : a.tmps[5]?.getD undef = .int .i64 (k : Int) := hF 5 (by kernel_rfl)
          clear hF hD
          go_simp
          exact hK.out _ _ (Kp.refl _) rfl
        · intro a w' hk hF hD K hK
          have h17 : a.tmps[17]?.getD undef = .slice (some ⟨g1, o1, none⟩) m.length ca := hD 0 (by kernel_rfl)
          have h18 : a.tmps[18]?.getD undef = .int .i64 (k : Int) := hD 1 (by kernel_rfl)
          clear hF hD
          go_simp
          exact hK.out _ _ (Kp.refl _) rfl
        · intro a w' hk hF hD K hK
          have h19 : a.tmps[19]?.getD undef = .pointer (some ⟨g1, o1 + k, none⟩) := hD 2 (by kernel_rfl)
          clear hF hD
          have z := hk.cellS i1
          go_simp
          exact hK.out _ _ (Kp.refl _) rfl
        · intro a w' hk hF hD K hK
          have h1 : a.tmps[1]?.getD undef = .slice (some ⟨g2, o2, none⟩) m.length cb := hF 1 (by kernel_rfl)
          clear hF hD
          go_simp
          exact hK.out _ _ (Kp.refl _) rfl
        · intro a w' hk hF hD K hK
          have h5 : a.tmps[5]?.getD undef = .int .i64 (k : Int) := hF 5 (by kernel_rfl)
          clear hF hD
          go_simp
          exact hK.out _ _ (Kp.refl _) rfl
        · intro a w' hk hF hD K hK
          have h21 : a.tmps[21]?.getD undef = .slice (some ⟨g2, o2, none⟩) m.length cb := hD 4 (by kernel_rfl)
          have h22 : a.tmps[22]?.getD undef = .int .i64 (k : Int) := hD 5 (by kernel_rfl)
          clear hF hD
          go_simp
          exact hK.out _ _ (Kp.refl _) rfl
        · intro a w' hk hF hD K hK
          have h23 : a.tmps[23]?.getD undef = .pointer (some ⟨g2, o2 + k, none⟩) := hD 6 (by kernel_rfl)
          clear hF hD
          have z := hk.cellS i2
          go_simp
          exact hK.out _ _ (Kp.refl _) rfl
        · intro a w' hk hF hD K hK
          have h20 : a.tmps[20]?.getD undef = .slice A1 lx c1 := hD 3 (by kernel_rfl)
          have h24 : a.tmps[24]?.getD undef = .slice A2 ly c2 := hD 7 (by kernel_rfl)
          clear hF hD
          go_simp
          refine (EqInts_any _ _ (castL x) (castL y) _ (HI1.out.keep (pl_stable _) hk) (HI2.out.keep (pl_stable _) hk)).mono ?_
          rintro e w9 ⟨rfl, hk9⟩
          rw [HC.out, HQB.out]
          exact hK.out _ _ hk9 rfl
        · exact fun i0 hi0 => by simp at hi0
        intro v w9 k9 hv
        have v8 : v 8 = .bool qb := hv 8 (by omega)
        clear hv
        simp only [G2.growPut, G2.gSlot, List.getElem?_toArray, List.getElem?_cons_zero, List.getElem?_cons_succ, Option.bind_some, List.setIfInBounds_toArray, List.set_cons_zero, List.set_cons_succ, List.drop_succ_cons, List.drop_zero, v8]
        cases qb with
        | true =>
          have HF : Hid (R = decide (l.drop (k + 1) = m.drop (k + 1))) := hid (by rw [HD.out, HX.out, HQB.out, Bool.true_and])
          go_wp2_with fail
          go_roundw
          case rel => exact ⟨k + 1, by omega, by go_num, HF, kr.trans k9⟩
          case measure => simp [intOf]; omega
        | false =>
          have HF : Hid (R = false) := hid (by rw [HD.out, HX.out, HQB.out, Bool.false_and])
          go_wp2
          go_ret
          exact ⟨by rw [HF.out]; rfl, kr.trans k9⟩
      · have hkl : ¬ (k : Int) < (m.length : Int) := by omega
        have HF : Hid (R = true) := hid (by rw [HD.out, List.drop_of_length_le (show l.length ≤ k by rw [HLL.out]; omega), List.drop_of_length_le (show m.length ≤ k by omega)]; simp)
        go_wp2
        go_ret
        exact ⟨by rw [HF.out]; rfl, kr⟩
  · have e1 : ((l.length : Int) != (m.length : Int)) = true := by
      have : ¬ (l.length : Int) = (m.length : Int) := by omega
      simpa using this
    have HF : Hid (R = false) := hid (by rw [← HR.out, decide_eq_false_iff_not]; exact fun e => hl (by rw [e]))
    replace hl := hid hl
    generalize l.length = ln at *
    generalize m.length = mn at *
    go_wp2
    go_ret
    exact ⟨by rw [HF.out]; rfl, Kp.refl _⟩
end Go.Proofs.Ytlkabhjkncklnaa
