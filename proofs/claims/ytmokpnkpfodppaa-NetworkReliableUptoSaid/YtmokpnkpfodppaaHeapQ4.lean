
/-
The sift of a heap away from the root: the walk.
-/
import Derived.Test.YtmokpnkpfodppaaHeapQ3
namespace Go.Proofs.Ytmokpnkpfodppaa
set_option linter.unusedSimpArgs false
set_option linter.unusedVariables false
open Go.RowKit

theorem downL_step {F : List Par} {m : List Par} {i n : Nat} (h : ∃ f, n ≤ i + f ∧ F = downL f m i n) (hi : 2 * i + 1 < n) : ∃ f, n ≤ kidJ m i n + f ∧ F = if ltP (m.getD (kidJ m i n) default) (m.getD i default) then downL f (swapL m i (kidJ m i n)) (kidJ m i n) n else m := by
  obtain ⟨f, hf, e⟩ := h
  obtain ⟨f', rfl⟩ : ∃ f', f = f' + 1 := ⟨f - 1, by omega⟩
  obtain ⟨h1, -⟩ := kidJ_cases m i n hi
  exact ⟨f', by omega, by rw [e, downL, if_neg (by omega)]⟩
theorem downL_stop {F : List Par} {m : List Par} {i n : Nat} (h : ∃ f, n ≤ i + f ∧ F = downL f m i n) (hi : n ≤ 2 * i + 1) : F = m := by
  obtain ⟨f, hf, e⟩ := h
  cases f with
  | zero => exact e
  | succ f => rw [e, downL, if_pos hi]
set_option maxRecDepth 8000 in
set_option maxHeartbeats 1600000 in
theorem hDown_any (nb g N n c base : Nat) (l : List Par) (w : World) (h : Own encPar 105 5 base w (.slice (some ⟨g, 0, none⟩) N c) l) (hN : N = l.length) (hn : n < l.length) (hl : l.length ≤ 2000) (hc : w.cell? ⟨nb, 4, none⟩ = some (.slice (some ⟨g, 0, none⟩) N c)) (hgn : nb ≠ g) :
    Calls Try.prog 60 #[.iface 103 (.pointer (some ⟨nb, 4, none⟩)), .int .i64 ((0 : Nat) : Int), .int .i64 (n : Int)] w fun e w' => (∃ b, e = .returned (.bool b)) ∧ Own encPar 105 5 base w' (.slice (some ⟨g, 0, none⟩) N c) (downL (n + 1) l 0 n) ∧ Kg w w' g := by
  generalize hF : downL (n + 1) l 0 n = F
  have HF : Hid (∃ f, n ≤ 0 + f ∧ F = downL f l 0 n) := hid ⟨n + 1, by omega, hF.symm⟩
  have hnl := hid hN
  have hnN : n < N := by omega
  have hN2 : N ≤ 2000 := by omega
  clear hF hN
  go_enter Try.func60, Try.ntmps60
  go_wp2
  go_loopg [7] (n + 1) (fun gk jv wr => ∃ (i : Nat) (m : List Par), jv = .int .i64 (i : Int) ∧ n < i + gk ∧ (i = 0 ∨ i < n) ∧ Hid (m.length = N) ∧ Hid (∃ f, n ≤ i + f ∧ F = downL f m i n) ∧ Own encPar 105 5 base wr (.slice (some ⟨g, 0, none⟩) N c) m ∧ Kg w wr g)
  case atStart => exact ⟨0, l, rfl, by omega, .inl rfl, hid hnl.out.symm, HF, h, Kg.refl _ _⟩
  case round =>
    clear h HF hn hl
    obtain ⟨i, m, rfl, hgk, hin, HM, HF, own, hkg⟩ := hrel
    have hc1 := hkg.cellS hc (by show nb ≠ g; exact hgn)
    have hnl2 : nb < wr.heap.size := block_lt_of_cell hc1
    have hi2 : i ≤ 2000 := by omega
    have HGK := hid hgk
    clear hgk
    by_cases h0 : n ≤ 2 * i + 1
    · have HE : Hid (F = m) := hid (downL_stop HF.out h0)
      have e1 : ((n : Int) ≤ 2 * (i : Int) + 1) := by omega
      clear HF
      go_wp2_with fail
      go_ret
      exact ⟨⟨_, rfl⟩, by rw [HE.out]; exact own, hkg⟩
    · have HS := hid (downL_step HF.out (by omega))
      have e1 : ¬ ((n : Int) ≤ 2 * (i : Int) + 1) := by omega
      have HK := hid (kidJ_cases m i n (by omega)).1
      have hi1 : 2 * i + 1 < m.length := by rw [HM.out]; omega
      have hi0 : i < m.length := by omega
      have HX : Hid (kidJ m i n = if 2 * i + 1 + 1 < n then (if ltP (m.getD (2 * i + 1 + 1) default) (m.getD (2 * i + 1) default) then 2 * i + 1 + 1 else 2 * i + 1) else 2 * i + 1) := hid rfl
      clear HF HK
      obtain ⟨J1, hJ1⟩ : ∃ J1 : Nat, J1 = 2 * i + 1 := ⟨_, rfl⟩
      obtain ⟨J2, hJ2⟩ : ∃ J2 : Nat, J2 = J1 + 1 := ⟨_, rfl⟩
      rw [← hJ1, ← hJ2] at HX
      have ej1 : 2 * (i : Int) + 1 = (J1 : Int) := by omega
      have ej2 : (J1 : Int) + 1 = (J2 : Int) := by omega
      have b1 : J1 < n := by omega
      have b2 : J2 ≤ n := by omega
      have b3 : i < J1 := by omega
      have b4 : J1 < m.length := by omega
      have b5 : n ≤ 2000 := by omega
      have b6 : n < m.length := by rw [HM.out]; exact hnN
      have b7 : (J1 : Int) < (n : Int) := by omega
      clear hJ1 hJ2 h0 e1 hi1
      by_cases h2 : J2 < n
      · have e2 : (J2 : Int) < (n : Int) := by omega
        have m1 := mLess nb _ _ hc1
        have b8 : J2 < m.length := by omega
        have HL : Hid (ltP (m.getD J2 default) (m.getD J1 default) = ltP m[J2] m[J1]) := hid (by simp [List.getD, b8, b4])
        have HX1 := hid (HX.out.trans (if_pos h2))
        go_wp2_with fail
        refine (qLess_any _ m J2 J1 _ (own.sl encPar_len) b8 b4).mono ?_
        rintro e w4 ⟨rfl, hk4⟩
        rw [HL.out] at HX1
        generalize ltP m[J2] m[J1] = lt at *
        have own4 := own.kp hk4
        have hkg4 := hkg.kp hk4
        have hc4 := hk4.cellS hc1
        clear m1 hc1 own hkg HX HL
        cases lt with
        | true =>
          have HKe : Hid (kidJ m i n = J2) := hid HX1.out
          have m5 := mLess nb _ _ hc4
          have HS2 := HS
          rw [HKe.out] at HS2
          have HL2 : Hid (ltP (m.getD J2 default) (m.getD i default) = ltP m[J2] m[i]) := hid (by simp [List.getD, b8, hi0])
          rw [HL2.out] at HS2
          clear HS HL2
          go_wp2_with fail
          refine (qLess_any _ m J2 i _ (own4.sl encPar_len) b8 hi0).mono ?_
          rintro e w5 ⟨rfl, hk5⟩
          generalize ltP m[J2] m[i] = lt2 at *
          have own5 := own4.kp hk5
          have hkg5 := hkg4.kp hk5
          have hc5 := hk5.cellS hc4
          clear m5 hc4 own4 hkg4
          cases lt2 with
          | false =>
            have HE : Hid (F = m) := hid (by obtain ⟨f, -, e⟩ := HS2.out; rw [e, if_neg (by simp)])
            go_wp2_with fail
            go_ret
            exact ⟨⟨_, rfl⟩, by rw [HE.out]; exact own5, hkg5⟩
          | true =>
            have HE : Hid (∃ f, n ≤ J2 + f ∧ F = downL f (swapL m i J2) J2 n) := hid (by obtain ⟨f, hf, e⟩ := HS2.out; exact ⟨f, hf, by rw [e, if_pos rfl]⟩)
            have m6 := mSwap nb _ _ hc5
            go_wp2_with fail
            refine (qSwap_any base g N c m i J2 _ own5 HM.out.symm hi0 b8).mono ?_
            rintro e w6 ⟨rfl, own6, hkg6⟩
            go_wp2_with fail
            go_roundg (gk - 1)
            case measure => have := HGK.out; omega
            case rel => exact ⟨J2, swapL m i J2, rfl, by have := HGK.out; omega, .inr (by omega), hid (by rw [swapL_len]; exact HM.out), HE, own6, hkg5.trans hkg6⟩
        | false =>
          have HKe : Hid (kidJ m i n = J1) := hid HX1.out
          have m5 := mLess nb _ _ hc4
          have HS2 := HS
          rw [HKe.out] at HS2
          have HL2 : Hid (ltP (m.getD J1 default) (m.getD i default) = ltP m[J1] m[i]) := hid (by simp [List.getD, b4, hi0])
          rw [HL2.out] at HS2
          clear HS HL2
          go_wp2_with fail
          refine (qLess_any _ m J1 i _ (own4.sl encPar_len) b4 hi0).mono ?_
          rintro e w5 ⟨rfl, hk5⟩
          generalize ltP m[J1] m[i] = lt2 at *
          have own5 := own4.kp hk5
          have hkg5 := hkg4.kp hk5
          have hc5 := hk5.cellS hc4
          clear m5 hc4 own4 hkg4
          cases lt2 with
          | false =>
            have HE : Hid (F = m) := hid (by obtain ⟨f, -, e⟩ := HS2.out; rw [e, if_neg (by simp)])
            go_wp2_with fail
            go_ret
            exact ⟨⟨_, rfl⟩, by rw [HE.out]; exact own5, hkg5⟩
          | true =>
            have HE : Hid (∃ f, n ≤ J1 + f ∧ F = downL f (swapL m i J1) J1 n) := hid (by obtain ⟨f, hf, e⟩ := HS2.out; exact ⟨f, hf, by rw [e, if_pos rfl]⟩)
            have m6 := mSwap nb _ _ hc5
            go_wp2_with fail
            refine (qSwap_any base g N c m i J1 _ own5 HM.out.symm hi0 b4).mono ?_
            rintro e w6 ⟨rfl, own6, hkg6⟩
            go_wp2_with fail
            go_roundg (gk - 1)
            case measure => have := HGK.out; omega
            case rel => exact ⟨J1, swapL m i J1, rfl, by have := HGK.out; omega, .inr (by omega), hid (by rw [swapL_len]; exact HM.out), HE, own6, hkg5.trans hkg6⟩
      · have e2 : ¬ (J2 : Int) < (n : Int) := by omega
        have HKe : Hid (kidJ m i n = J1) := hid (HX.out.trans (if_neg h2))
        have own4 := own
        have hkg4 := hkg
        have hc4 := hc1
        clear hc1 own hkg HX
        have m5 := mLess nb _ _ hc4
        have HS2 := HS
        rw [HKe.out] at HS2
        have HL2 : Hid (ltP (m.getD J1 default) (m.getD i default) = ltP m[J1] m[i]) := hid (by simp [List.getD, b4, hi0])
        rw [HL2.out] at HS2
        clear HS HL2
        go_wp2_with fail
        refine (qLess_any _ m J1 i _ (own4.sl encPar_len) b4 hi0).mono ?_
        rintro e w5 ⟨rfl, hk5⟩
        generalize ltP m[J1] m[i] = lt2 at *
        have own5 := own4.kp hk5
        have hkg5 := hkg4.kp hk5
        have hc5 := hk5.cellS hc4
        clear m5 hc4 own4 hkg4
        cases lt2 with
        | false =>
          have HE : Hid (F = m) := hid (by obtain ⟨f, -, e⟩ := HS2.out; rw [e, if_neg (by simp)])
          go_wp2_with fail
          go_ret
          exact ⟨⟨_, rfl⟩, by rw [HE.out]; exact own5, hkg5⟩
        | true =>
          have HE : Hid (∃ f, n ≤ J1 + f ∧ F = downL f (swapL m i J1) J1 n) := hid (by obtain ⟨f, hf, e⟩ := HS2.out; exact ⟨f, hf, by rw [e, if_pos rfl]⟩)
          have m6 := mSwap nb _ _ hc5
          go_wp2_with fail
          refine (qSwap_any base g N c m i J1 _ own5 HM.out.symm hi0 b4).mono ?_
          rintro e w6 ⟨rfl, own6, hkg6⟩
          go_wp2_with fail
          go_roundg (gk - 1)
          case measure => have := HGK.out; omega
          case rel => exact ⟨J1, swapL m i J1, rfl, by have := HGK.out; omega, .inr (by omega), hid (by rw [swapL_len]; exact HM.out), HE, own6, hkg5.trans hkg6⟩
end Go.Proofs.Ytmokpnkpfodppaa
