/-
The sift of a heap: the walks.
The sift of a heap away from the root: the walk.
The queue of copies in flight: what a call changes; its methods that make it longer and shorter, and the heap's: the walks.
The queue's Pop, and the heap's Push and Pop: the walks.
-/
import Derived.Test.YtmokpnkpfodppaaHQ
import Derived.Deep.LoopGhost
namespace Go.Proofs.Ytmokpnkpfodppaa
set_option linter.unusedSimpArgs false
set_option linter.unusedVariables false
open Go.RowKit

theorem mLen (nb : Nat) (v : Value) (w : World) (h : w.cell? ⟨nb, 4, none⟩ = some v) : Sem.run Try.prog (method 296 103 (.pointer (some ⟨nb, 4, none⟩)) "Len") w = .ok (117, v) w := by
  have e : Sem.run Try.prog (method 296 103 (.pointer (some ⟨nb, 4, none⟩)) "Len") w = Sem.run Try.prog (load ⟨nb, 4, none⟩ >>= fun v => pure (117, v)) w := by kernel_rfl
  rw [e]
  simp [go_sem, h]
theorem mLess (nb : Nat) (v : Value) (w : World) (h : w.cell? ⟨nb, 4, none⟩ = some v) : Sem.run Try.prog (method 296 103 (.pointer (some ⟨nb, 4, none⟩)) "Less") w = .ok (118, v) w := by
  have e : Sem.run Try.prog (method 296 103 (.pointer (some ⟨nb, 4, none⟩)) "Less") w = Sem.run Try.prog (load ⟨nb, 4, none⟩ >>= fun v => pure (118, v)) w := by kernel_rfl
  rw [e]
  simp [go_sem, h]
theorem mSwap (nb : Nat) (v : Value) (w : World) (h : w.cell? ⟨nb, 4, none⟩ = some v) : Sem.run Try.prog (method 296 103 (.pointer (some ⟨nb, 4, none⟩)) "Swap") w = .ok (119, v) w := by
  have e : Sem.run Try.prog (method 296 103 (.pointer (some ⟨nb, 4, none⟩)) "Swap") w = Sem.run Try.prog (load ⟨nb, 4, none⟩ >>= fun v => pure (119, v)) w := by kernel_rfl
  rw [e]
  simp [go_sem, h]
theorem upL_zero (f : Nat) (l : List Par) : upL f l 0 = l := by cases f <;> simp [upL]
theorem half_wraps {j : Nat} (h : j ≤ 2000) : IntKind.i64.wrap ((j : Int) - 1) = (j : Int) - 1 ∧ wrap64 ((j : Int) - 1) = (j : Int) - 1 ∧ ((j : Int) - 1).tdiv 2 = (((j - 1) / 2 : Nat) : Int) ∧ IntKind.i64.wrap (((j - 1) / 2 : Nat) : Int) = (((j - 1) / 2 : Nat) : Int) ∧ wrap64 (((j - 1) / 2 : Nat) : Int) = (((j - 1) / 2 : Nat) : Int) ∧ (j ≠ 0 → (j - 1) / 2 < j) := by
  have h1 : ((j : Int) - 1).tdiv 2 = (((j - 1) / 2 : Nat) : Int) := by
    rcases Nat.eq_zero_or_pos j with rfl | h0
    · rfl
    · rw [Int.tdiv_eq_ediv_of_nonneg (by omega)]
      omega
  refine ⟨IntWalk.i64_in _ (by omega), IntWalk.wrap64_in _ (by omega), h1, IntWalk.i64_in _ (by omega), IntWalk.wrap64_in _ (by omega), fun _ => by omega⟩
set_option maxRecDepth 8000 in
set_option maxHeartbeats 1600000 in
theorem hUp_any (nb g n c base : Nat) (l : List Par) (j : Nat) (w : World) (h : Own encPar 105 5 base w (.slice (some ⟨g, 0, none⟩) n c) l) (hn : n = l.length) (hj : j < l.length) (hl : l.length ≤ 2000) (hc : w.cell? ⟨nb, 4, none⟩ = some (.slice (some ⟨g, 0, none⟩) n c)) (hgn : nb ≠ g) :
    Calls Try.prog 59 #[.iface 103 (.pointer (some ⟨nb, 4, none⟩)), .int .i64 (j : Int)] w fun e w' => e = .returned (.tuple #[]) ∧ Own encPar 105 5 base w' (.slice (some ⟨g, 0, none⟩) n c) (upL (j + 1) l j) ∧ Kg w w' g := by
  generalize hF : upL (j + 1) l j = F
  have HF := hid hF.symm
  have hnl := hid hn
  clear hF hn
  go_enter Try.func59, Try.ntmps59
  go_wp2
  go_loopg [1] (j + 1) (fun gk jv wr => ∃ (i : Nat) (m : List Par), jv = .int .i64 i ∧ i < gk ∧ i < n ∧ Hid (m.length = n) ∧ Hid (∃ f, i < f ∧ F = upL f m i) ∧ Own encPar 105 5 base wr (.slice (some ⟨g, 0, none⟩) n c) m ∧ Kg w wr g)
  case atStart => exact ⟨j, l, rfl, by omega, by have := hnl.out; omega, hid hnl.out.symm, hid ⟨j + 1, by omega, HF.out⟩, h, Kg.refl _ _⟩
  case round =>
    clear h HF
    obtain ⟨i, m, rfl, hgk, hin, HM, HF, own, hkg⟩ := hrel
    have hc1 := hkg.cellS hc (by show nb ≠ g; exact hgn)
    have hnl2 : nb < wr.heap.size := block_lt_of_cell hc1
    obtain ⟨-, -, w3, -, -, hlt⟩ := half_wraps (j := i) (by have := hnl.out; omega)
    have hi2 : i ≤ 2000 := by have := hnl.out; omega
    have hk2 : (i - 1) / 2 ≤ 2000 := by omega
    by_cases h0 : i = 0
    · have HE : Hid (F = m) := hid (by obtain ⟨f, -, e⟩ := HF.out; rw [e, h0, upL_zero])
      have e1 : ((((i - 1) / 2 : Nat) : Int) == (i : Int)) = true := by simp; omega
      have e2 : ((i - 1) / 2 == i) = true := by simp; omega
      generalize (i - 1) / 2 = k at *
      clear h0 HF
      go_wp2_with fail
      go_end0
      exact ⟨rfl, by rw [HE.out]; exact own, hkg⟩
    · replace hlt := hlt h0
      have e1 : ((((i - 1) / 2 : Nat) : Int) == (i : Int)) = false := by simp; omega
      have e2 : ((i - 1) / 2 == i) = false := by simp; omega
      have HS : Hid (∃ f, (i - 1) / 2 < f ∧ F = if ltP (m.getD i default) (m.getD ((i - 1) / 2) default) then upL f (swapL m ((i - 1) / 2) i) ((i - 1) / 2) else m) := hid (by
        obtain ⟨f, hf, e⟩ := HF.out
        obtain ⟨f', rfl⟩ : ∃ f', f = f' + 1 := ⟨f - 1, by omega⟩
        exact ⟨f', by omega, by rw [e, upL, if_neg h0]⟩)
      clear HF
      have hmi : i < m.length := by rw [HM.out]; exact hin
      have hmk : (i - 1) / 2 < m.length := by rw [HM.out]; omega
      have HX : Hid (ltP (m.getD i default) (m.getD ((i - 1) / 2) default) = ltP m[i] (m[(i - 1) / 2])) := hid (by simp [List.getD, hmi, hmk])
      generalize (i - 1) / 2 = k at *
      have m1 := mLess nb _ _ hc1
      go_wp2_with fail
      refine (qLess_any _ m i k _ (own.sl encPar_len) hmi hmk).mono ?_
      rintro e w4 ⟨rfl, hk4⟩
      generalize ltP m[i] m[k] = lt at *
      have own4 := own.kp hk4
      have hkg4 := hkg.kp hk4
      have hc4 := hk4.cellS hc1
      have m4 := mSwap nb _ _ hc4
      clear m1 hc1 own hkg
      cases lt with
      | false =>
        have HE : Hid (F = m) := hid (by obtain ⟨f, -, e⟩ := HS.out; rw [e, HX.out, if_neg (by simp)])
        go_wp2_with fail
        go_end0
        exact ⟨rfl, by rw [HE.out]; exact own4, hkg4⟩
      | true =>
        have HE : Hid (∃ f, k < f ∧ F = upL f (swapL m k i) k) := hid (by obtain ⟨f, hf, e⟩ := HS.out; exact ⟨f, hf, by rw [e, HX.out, if_pos rfl]⟩)
        go_wp2_with fail
        refine (qSwap_any base g n c m k i _ own4 HM.out.symm hmk hmi).mono ?_
        rintro e w5 ⟨rfl, own5, hkg5⟩
        go_wp2_with fail
        go_roundg i
        case measure => exact hgk
        case rel => exact ⟨k, swapL m k i, rfl, hlt, by omega, hid (by rw [swapL_len]; exact HM.out), HE, own5, hkg4.trans hkg5⟩
end Go.Proofs.Ytmokpnkpfodppaa
namespace Go.Proofs.Ytmokpnkpfodppaa
set_option linter.unusedSimpArgs false
set_option linter.unusedVariables false
open Go.RowKit

theorem downL_step {F : List Par} {m : List Par} {i n : Nat} (h : ∃ f, n ≤ i + f ∧ F = downL f m i n) (hi : 2 * i + 1 < n) : ∃ f, n ≤ kidJ m i n + f ∧ F = if ltP (m.getD (kidJ m i n) default) (m.getD i default) then downL f (swapL m i (kidJ m i n)) (kidJ m i n) n else m := by
  obtain ⟨f, hf, e⟩ := h
  obtain ⟨f', rfl⟩ : ∃ f', f = f' + 1 := ⟨f - 1, by omega⟩
  obtain ⟨h1, -⟩ := kidJ_cases m i n hi
  exact ⟨f', by omega, by rw [e, downL, if_neg (by omega)]⟩
theorem downL_stop {F : List Par} {m : List Par} {i n : Nat} (h : ∃ f, n ≤ i + f ∧ F = downL f m i n) (hi : n ≤ 2 * i + 1) : F = m := by
  obtain ⟨f, hf, e⟩ := h
  cases f with
  | zero => exact e
  | succ f => rw [e, downL, if_pos hi]
set_option maxRecDepth 8000 in
set_option maxHeartbeats 1600000 in
theorem hDown_any (nb g N n c base : Nat) (l : List Par) (w : World) (h : Own encPar 105 5 base w (.slice (some ⟨g, 0, none⟩) N c) l) (hN : N = l.length) (hn : n < l.length) (hl : l.length ≤ 2000) (hc : w.cell? ⟨nb, 4, none⟩ = some (.slice (some ⟨g, 0, none⟩) N c)) (hgn : nb ≠ g) :
    Calls Try.prog 60 #[.iface 103 (.pointer (some ⟨nb, 4, none⟩)), .int .i64 ((0 : Nat) : Int), .int .i64 (n : Int)] w fun e w' => (∃ b, e = .returned (.bool b)) ∧ Own encPar 105 5 base w' (.slice (some ⟨g, 0, none⟩) N c) (downL (n + 1) l 0 n) ∧ Kg w w' g := by
  generalize hF : downL (n + 1) l 0 n = F
  have HF : Hid (∃ f, n ≤ 0 + f ∧ F = downL f l 0 n) := hid ⟨n + 1, by omega, hF.symm⟩
  have hnl := hid hN
  have hnN : n < N := by omega
  have hN2 : N ≤ 2000 := by omega
  clear hF hN
  go_enter Try.func60, Try.ntmps60
  go_wp2
  go_loopg [7] (n + 1) (fun gk jv wr => ∃ (i : Nat) (m : List Par), jv = .int .i64 (i : Int) ∧ n < i + gk ∧ (i = 0 ∨ i < n) ∧ Hid (m.length = N) ∧ Hid (∃ f, n ≤ i + f ∧ F = downL f m i n) ∧ Own encPar 105 5 base wr (.slice (some ⟨g, 0, none⟩) N c) m ∧ Kg w wr g)
  case atStart => exact ⟨0, l, rfl, by omega, .inl rfl, hid hnl.out.symm, HF, h, Kg.refl _ _⟩
  case round =>
    clear h HF hn hl
    obtain ⟨i, m, rfl, hgk, hin, HM, HF, own, hkg⟩ := hrel
    have hc1 := hkg.cellS hc (by show nb ≠ g; exact hgn)
    have hnl2 : nb < wr.heap.size := block_lt_of_cell hc1
    have hi2 : i ≤ 2000 := by omega
    have HGK := hid hgk
    clear hgk
    by_cases h0 : n ≤ 2 * i + 1
    · have HE : Hid (F = m) := hid (downL_stop HF.out h0)
      have e1 : ((n : Int) ≤ 2 * (i : Int) + 1) := by omega
      clear HF
      go_wp2_with fail
      go_ret
      exact ⟨⟨_, rfl⟩, by rw [HE.out]; exact own, hkg⟩
    · have HS := hid (downL_step HF.out (by omega))
      have e1 : ¬ ((n : Int) ≤ 2 * (i : Int) + 1) := by omega
      have HK := hid (kidJ_cases m i n (by omega)).1
      have hi1 : 2 * i + 1 < m.length := by rw [HM.out]; omega
      have hi0 : i < m.length := by omega
      have HX : Hid (kidJ m i n = if 2 * i + 1 + 1 < n then (if ltP (m.getD (2 * i + 1 + 1) default) (m.getD (2 * i + 1) default) then 2 * i + 1 + 1 else 2 * i + 1) else 2 * i + 1) := hid rfl
      clear HF HK
      obtain ⟨J1, hJ1⟩ : ∃ J1 : Nat, J1 = 2 * i + 1 := ⟨_, rfl⟩
      obtain ⟨J2, hJ2⟩ : ∃ J2 : Nat, J2 = J1 + 1 := ⟨_, rfl⟩
      rw [← hJ1, ← hJ2] at HX
      have ej1 : 2 * (i : Int) + 1 = (J1 : Int) := by omega
      have ej2 : (J1 : Int) + 1 = (J2 : Int) := by omega
      have b1 : J1 < n := by omega
      have b2 : J2 ≤ n := by omega
      have b3 : i < J1 := by omega
      have b4 : J1 < m.length := by omega
      have b5 : n ≤ 2000 := by omega
      have b6 : n < m.length := by rw [HM.out]; exact hnN
      have b7 : (J1 : Int) < (n : Int) := by omega
      clear hJ1 hJ2 h0 e1 hi1
      by_cases h2 : J2 < n
      · have e2 : (J2 : Int) < (n : Int) := by omega
        have m1 := mLess nb _ _ hc1
        have b8 : J2 < m.length := by omega
        have HL : Hid (ltP (m.getD J2 default) (m.getD J1 default) = ltP m[J2] m[J1]) := hid (by simp [List.getD, b8, b4])
        have HX1 := hid (HX.out.trans (if_pos h2))
        go_wp2_with fail
        refine (qLess_any _ m J2 J1 _ (own.sl encPar_len) b8 b4).mono ?_
        rintro e w4 ⟨rfl, hk4⟩
        rw [HL.out] at HX1
        generalize ltP m[J2] m[J1] = lt at *
        have own4 := own.kp hk4
        have hkg4 := hkg.kp hk4
        have hc4 := hk4.cellS hc1
        clear m1 hc1 own hkg HX HL
        cases lt with
        | true =>
          have HKe : Hid (kidJ m i n = J2) := hid HX1.out
          have m5 := mLess nb _ _ hc4
          have HS2 := HS
          rw [HKe.out] at HS2
          have HL2 : Hid (ltP (m.getD J2 default) (m.getD i default) = ltP m[J2] m[i]) := hid (by simp [List.getD, b8, hi0])
          rw [HL2.out] at HS2
          clear HS HL2
          go_wp2_with fail
          refine (qLess_any _ m J2 i _ (own4.sl encPar_len) b8 hi0).mono ?_
          rintro e w5 ⟨rfl, hk5⟩
          generalize ltP m[J2] m[i] = lt2 at *
          have own5 := own4.kp hk5
          have hkg5 := hkg4.kp hk5
          have hc5 := hk5.cellS hc4
          clear m5 hc4 own4 hkg4
          cases lt2 with
          | false =>
            have HE : Hid (F = m) := hid (by obtain ⟨f, -, e⟩ := HS2.out; rw [e, if_neg (by simp)])
            go_wp2_with fail
            go_ret
            exact ⟨⟨_, rfl⟩, by rw [HE.out]; exact own5, hkg5⟩
          | true =>
            have HE : Hid (∃ f, n ≤ J2 + f ∧ F = downL f (swapL m i J2) J2 n) := hid (by obtain ⟨f, hf, e⟩ := HS2.out; exact ⟨f, hf, by rw [e, if_pos rfl]⟩)
            have m6 := mSwap nb _ _ hc5
            go_wp2_with fail
            refine (qSwap_any base g N c m i J2 _ own5 HM.out.symm hi0 b8).mono ?_
            rintro e w6 ⟨rfl, own6, hkg6⟩
            go_wp2_with fail
            go_roundg (gk - 1)
            case measure => have := HGK.out; omega
            case rel => exact ⟨J2, swapL m i J2, rfl, by have := HGK.out; omega, .inr (by omega), hid (by rw [swapL_len]; exact HM.out), HE, own6, hkg5.trans hkg6⟩
        | false =>
          have HKe : Hid (kidJ m i n = J1) := hid HX1.out
          have m5 := mLess nb _ _ hc4
          have HS2 := HS
          rw [HKe.out] at HS2
          have HL2 : Hid (ltP (m.getD J1 default) (m.getD i default) = ltP m[J1] m[i]) := hid (by simp [List.getD, b4, hi0])
          rw [HL2.out] at HS2
          clear HS HL2
          go_wp2_with fail
          refine (qLess_any _ m J1 i _ (own4.sl encPar_len) b4 hi0).mono ?_
          rintro e w5 ⟨rfl, hk5⟩
          generalize ltP m[J1] m[i] = lt2 at *
          have own5 := own4.kp hk5
          have hkg5 := hkg4.kp hk5
          have hc5 := hk5.cellS hc4
          clear m5 hc4 own4 hkg4
          cases lt2 with
          | false =>
            have HE : Hid (F = m) := hid (by obtain ⟨f, -, e⟩ := HS2.out; rw [e, if_neg (by simp)])
            go_wp2_with fail
            go_ret
            exact ⟨⟨_, rfl⟩, by rw [HE.out]; exact own5, hkg5⟩
          | true =>
            have HE : Hid (∃ f, n ≤ J1 + f ∧ F = downL f (swapL m i J1) J1 n) := hid (by obtain ⟨f, hf, e⟩ := HS2.out; exact ⟨f, hf, by rw [e, if_pos rfl]⟩)
            have m6 := mSwap nb _ _ hc5
            go_wp2_with fail
            refine (qSwap_any base g N c m i J1 _ own5 HM.out.symm hi0 b4).mono ?_
            rintro e w6 ⟨rfl, own6, hkg6⟩
            go_wp2_with fail
            go_roundg (gk - 1)
            case measure => have := HGK.out; omega
            case rel => exact ⟨J1, swapL m i J1, rfl, by have := HGK.out; omega, .inr (by omega), hid (by rw [swapL_len]; exact HM.out), HE, own6, hkg5.trans hkg6⟩
      · have e2 : ¬ (J2 : Int) < (n : Int) := by omega
        have HKe : Hid (kidJ m i n = J1) := hid (HX.out.trans (if_neg h2))
        have own4 := own
        have hkg4 := hkg
        have hc4 := hc1
        clear hc1 own hkg HX
        have m5 := mLess nb _ _ hc4
        have HS2 := HS
        rw [HKe.out] at HS2
        have HL2 : Hid (ltP (m.getD J1 default) (m.getD i default) = ltP m[J1] m[i]) := hid (by simp [List.getD, b4, hi0])
        rw [HL2.out] at HS2
        clear HS HL2
        go_wp2_with fail
        refine (qLess_any _ m J1 i _ (own4.sl encPar_len) b4 hi0).mono ?_
        rintro e w5 ⟨rfl, hk5⟩
        generalize ltP m[J1] m[i] = lt2 at *
        have own5 := own4.kp hk5
        have hkg5 := hkg4.kp hk5
        have hc5 := hk5.cellS hc4
        clear m5 hc4 own4 hkg4
        cases lt2 with
        | false =>
          have HE : Hid (F = m) := hid (by obtain ⟨f, -, e⟩ := HS2.out; rw [e, if_neg (by simp)])
          go_wp2_with fail
          go_ret
          exact ⟨⟨_, rfl⟩, by rw [HE.out]; exact own5, hkg5⟩
        | true =>
          have HE : Hid (∃ f, n ≤ J1 + f ∧ F = downL f (swapL m i J1) J1 n) := hid (by obtain ⟨f, hf, e⟩ := HS2.out; exact ⟨f, hf, by rw [e, if_pos rfl]⟩)
          have m6 := mSwap nb _ _ hc5
          go_wp2_with fail
          refine (qSwap_any base g N c m i J1 _ own5 HM.out.symm hi0 b4).mono ?_
          rintro e w6 ⟨rfl, own6, hkg6⟩
          go_wp2_with fail
          go_roundg (gk - 1)
          case measure => have := HGK.out; omega
          case rel => exact ⟨J1, swapL m i J1, rfl, by have := HGK.out; omega, .inr (by omega), hid (by rw [swapL_len]; exact HM.out), HE, own6, hkg5.trans hkg6⟩
end Go.Proofs.Ytmokpnkpfodppaa
namespace Go.Proofs.Ytmokpnkpfodppaa
set_option linter.unusedSimpArgs false
set_option linter.unusedVariables false
open Go.RowKit

/-! only the blocks of S, and what is new, have changed -/
structure Fr (S : Nat → Prop) (w w' : World) : Prop where
  os : w'.os = w.os
  tape : w'.tape = w.tape
  output : w'.output = w.output
  size : w.heap.size ≤ w'.heap.size
  block : ∀ k, k < w.heap.size → ¬ S k → w'.heap[k]? = w.heap[k]?
section
variable {S T : Nat → Prop} {a b c w w' : World} {g : Nat}
theorem Fr.refl (S : Nat → Prop) (w : World) : Fr S w w := ⟨rfl, rfl, rfl, Nat.le_refl _, fun _ _ _ => rfl⟩
theorem Fr.trans2 (h : Fr S a b) (k : Fr T b c) (hT : ∀ i, T i → i < a.heap.size → S i) : Fr S a c :=
  ⟨k.os.trans h.os, k.tape.trans h.tape, k.output.trans h.output, Nat.le_trans h.size k.size, fun i hi hS => (k.block i (Nat.lt_of_lt_of_le hi h.size) (fun ht => hS (hT i ht hi))).trans (h.block i hi hS)⟩
theorem Fr.trans (h : Fr S a b) (k : Fr S b c) : Fr S a c := h.trans2 k fun _ h _ => h
theorem Fr.mono (h : Fr S a b) (hS : ∀ i, S i → T i) : Fr T a b := ⟨h.os, h.tape, h.output, h.size, fun k hk hn => h.block k hk fun hs => hn (hS k hs)⟩
theorem Kp.fr (h : Kp a b) (S : Nat → Prop) : Fr S a b := ⟨h.os, h.tape, h.output, h.size, fun _ hk _ => h.block hk⟩
theorem Kg.fr (h : Kg a b g) (hg : S g) : Fr S a b := ⟨h.os, h.tape, h.output, h.size, fun k hk hn => h.block k hk (fun e => hn (by injection e with e; exact e ▸ hg))⟩
theorem Fr.kp (h : Fr S a b) (k : Kp b c) : Fr S a c := h.trans (k.fr S)
theorem Kp.fr2 (h : Kp a b) (k : Fr S b c) : Fr S a c := (h.fr S).trans k
theorem Fr.to_kp (h : Kp a b) (k : Fr S b c) (hS : ∀ i, S i → a.heap.size ≤ i) : Kp a c :=
  ⟨k.os.trans h.os, k.tape.trans h.tape, k.output.trans h.output, Nat.le_trans h.size k.size, fun i hi => (k.block i (Nat.lt_of_lt_of_le hi h.size) (fun hs => by have := hS i hs; omega)).trans (h.block hi)⟩
theorem Fr.cellS (h : Fr S a b) {p : Addr} {v : Value} (hp : a.cell? p = some v) (hn : ¬ S p.block) : b.cell? p = some v := (World.cell?_of_block (h.block p.block (block_lt_of_cell hp) hn)).trans hp
end
/-- the blocks of the queue -/
def Qb (nb : Nat) (v : Value) (k : Nat) : Prop := k = nb ∨ v.ownBlock = some k

set_option maxRecDepth 8000 in
set_option maxHeartbeats 1600000 in
theorem qPush_any (nb : Nat) (cs : List Value) (sv : Value) (l : List Par) (p : Par) (w : World) (hB : Bx w nb cs) (h4 : cs[4]? = some sv) (own : Own encPar 105 5 (nb + 1) w sv l) (hl : l.length ≤ 2000) :
    Calls Try.prog 124 #[.pointer (some ⟨nb, 4, none⟩), .iface 105 (.agg (encPar p).toArray)] w fun e w' => e = .returned (.tuple #[]) ∧ ∃ v', Own encPar 105 5 (nb + 1) w' v' (l ++ [p]) ∧ Bx w' nb (cs.set 4 v') ∧ Fr (Qb nb sv) w w' ∧ ∀ k, v'.ownBlock = some k → sv.ownBlock = some k ∨ w.heap.size ≤ k := by
  have hc := hB.cell h4
  have hnb := block_lt_of_cell hc
  obtain ⟨A, c, rfl, hcc, hmm⟩ := own.form
  have hge := own.ge
  have h4l : 4 < cs.length := (List.getElem?_eq_some_iff.1 h4).1
  have HB := hid hB
  clear hB
  go_enter Try.func124, Try.ntmps124
  go_wp2
  refine G2.wp_region_growG Kp [0] 7 13 (G2.pvL [G2.eqv (.pointer (some ⟨nb, 4, none⟩)), G2.eqv (.pointer (some ⟨nb, 4, none⟩)), G2.eqv (.pointer (some ⟨nb, 4, none⟩)), G2.eqv (.slice A l.length c), G2.eqv (.iface 105 (.agg (encPar p).toArray)), G2.eqv (.agg (encPar p).toArray), (G2.newSl encPar 5 [p])]) (by kernel_rfl) (by kernel_rfl) rfl (fun x => Kp.refl x) (fun _ _ _ h k => h.trans k) (Kp.refl _).drew (fun _ _ _ _ _ h => h) (G2.pvL_keep (G2.stabL_cons (G2.stab_eq _) (G2.stabL_cons (G2.stab_eq _) (G2.stabL_cons (G2.stab_eq _) (G2.stabL_cons (G2.stab_eq _) (G2.stabL_cons (G2.stab_eq _) (G2.stabL_cons (G2.stab_eq _) (G2.stabL_cons (G2.stab_newSl _ _ _) (G2.stabL_nil))))))))) ?_ ?_ ?_
  · intro i0 hi0
    have hi' : i0 = 0 ∨ i0 = 1 ∨ i0 = 2 ∨ i0 = 3 ∨ i0 = 4 ∨ i0 = 5 ∨ i0 = 6 := by omega
    rcases hi' with rfl | rfl | rfl | rfl | rfl | rfl | rfl
    · intro a w' hk hF hD K hK
      simp only [List.getElem?_toArray, List.getElem?_cons_zero, List.getElem?_cons_succ, Option.map_some, Option.getD_some]
      have h0 : a.tmps[0]?.getD undef = .pointer (some ⟨nb, 4, none⟩) := hF 0 (by kernel_rfl)
      clear hF hD
      go_simp
      exact hK.out _ _ (Kp.refl _) rfl
    · intro a w' hk hF hD K hK
      simp only [List.getElem?_toArray, List.getElem?_cons_zero, List.getElem?_cons_succ, Option.map_some, Option.getD_some]
      have h0 : a.tmps[0]?.getD undef = .pointer (some ⟨nb, 4, none⟩) := hF 0 (by kernel_rfl)
      clear hF hD
      go_simp
      exact hK.out _ _ (Kp.refl _) rfl
    · intro a w' hk hF hD K hK
      simp only [List.getElem?_toArray, List.getElem?_cons_zero, List.getElem?_cons_succ, Option.map_some, Option.getD_some]
      have h5 : a.tmps[5]?.getD undef = .pointer (some ⟨nb, 4, none⟩) := hD 1 (by kernel_rfl)
      clear hF hD
      go_simp
      exact hK.out _ _ (Kp.refl _) rfl
    · intro a w' hk hF hD K hK
      simp only [List.getElem?_toArray, List.getElem?_cons_zero, List.getElem?_cons_succ, Option.map_some, Option.getD_some]
      have h6 : a.tmps[6]?.getD undef = .pointer (some ⟨nb, 4, none⟩) := hD 2 (by kernel_rfl)
      clear hF hD
      have z1 := hk.cellS hc
      go_simp
      exact hK.out _ _ (Kp.refl _) rfl
    · intro a w' hk hF hD K hK
      simp only [List.getElem?_toArray, List.getElem?_cons_zero, List.getElem?_cons_succ, Option.map_some, Option.getD_some]
      have h1 : a.tmps[1]?.getD undef = .iface 105 (.agg (encPar p).toArray) := hF 1 (by kernel_rfl)
      clear hF hD
      go_simp
      exact hK.out _ _ (Kp.refl _) rfl
    · intro a w' hk hF hD K hK
      simp only [List.getElem?_toArray, List.getElem?_cons_zero, List.getElem?_cons_succ, Option.map_some, Option.getD_some]
      have h8 : a.tmps[8]?.getD undef = .iface 105 (.agg (encPar p).toArray) := hD 4 (by kernel_rfl)
      clear hF hD
      go_simp
      exact hK.out _ _ (Kp.refl _) rfl
    · intro a w' hk hF hD K hK
      simp only [List.getElem?_toArray, List.getElem?_cons_zero, List.getElem?_cons_succ, Option.map_some, Option.getD_some]
      have h9 : a.tmps[9]?.getD undef = .agg (encPar p).toArray := hD 5 (by kernel_rfl)
      clear hF hD
      go_simp
      exact hK.out _ _ ((Kp.refl w').alloc (.cells (encPar p).toArray 105)) (G2.newSl_one w' 105 rfl rfl)
  · intro i0 hi0
    have hi' : i0 = 0 := by simpa using hi0
    rcases hi' with rfl
    · refine ⟨by omega, fun a w' hk hF hD => ?_⟩
      simp only [List.getElem?_toArray, List.getElem?_cons_zero, List.getElem?_cons_succ, Option.map_some, Option.getD_some]
      have h0 : a.tmps[0]?.getD undef = .pointer (some ⟨nb, 4, none⟩) := hF 0 (by kernel_rfl)
      clear hF hD
      exact ⟨.pointer (some ⟨nb, 4, none⟩), rfl, Or.inl ⟨by simp [Region.wanted], fun w => by go_simp⟩⟩
  intro v w9 k9 hv
  have v3 : v 3 = .slice A l.length c := hv 3 (by omega)
  have v6 : (G2.newSl encPar 5 [p]) (v 6) w9 := hv 6 (by omega)
  have v0 : v 0 = .pointer (some ⟨nb, 4, none⟩) := hv 0 (by omega)
  clear hv
  obtain ⟨px, e6, hp⟩ := v6
  simp only [G2.growPut, G2.gSlot, List.getElem?_toArray, List.getElem?_cons_zero, List.getElem?_cons_succ, Option.bind_some, List.setIfInBounds_toArray, List.set_cons_zero, List.set_cons_succ, List.drop_succ_cons, List.drop_zero, v3, v0, e6]
  have own9 := own.kp k9
  have hB9 := HB.out.keep (k9.block hnb)
  have hc9 := hB9.cell h4
  have hz9 := k9.size
  clear own hc
  go_wp2_with (at_builtin; refine wpl_append_flat rfl (.tmp 7) (.tmp 10) rfl stParM encPar_len encPar_one rfl own9 rfl hp (by simp; omega) (by simp; omega) (by omega) ?_; intro v4 w4 hown4 hgrow4 hat4 hnil4; obtain ⟨A4, c4, e4, hc4, hm4⟩ := hown4.form; rw [List.length_append, List.length_singleton] at e4; subst e4; have hB4 := hB9.grown (row := (Value.slice A l.length c).ownBlock) hgrow4 (fun e => by have := hge nb e; omega) (by omega); have d4 := hB4.cell h4; have f4 := hB4.free h4l; have g4 := block_lt_of_cell d4)
  go_end0
  have hgr : w9.grownBy w4 (Value.slice A l.length c).ownBlock := hgrow4
  have hat : (Value.slice A4 (l.length + 1) c4).ownBlock = (Value.slice A l.length c).ownBlock ∨ (Value.slice A4 (l.length + 1) c4).ownBlock = some w9.heap.size := hat4
  have hfr : Fr (Qb nb (.slice A l.length c)) w9 w4 := ⟨hgr.os, hgr.tape, hgr.output, hgr.size, fun k hk hn => hgr.block k hk (fun e => hn (.inr e.symm))⟩
  refine ⟨rfl, _, hown4.kg ((Kg.refl w4 nb).set (p := ⟨nb, 4, none⟩) (.inl rfl) _) (Nat.lt_succ_self _), hB4.set h4l _, ((k9.fr _).trans hfr).trans (((Kg.refl w4 nb).set (p := ⟨nb, 4, none⟩) (.inl rfl) _).fr (.inl rfl)), fun k hk => ?_⟩
  rcases hat with h | h
  · exact .inl (h ▸ hk)
  · rw [h] at hk
    injection hk with hk
    exact .inr (by omega)
end Go.Proofs.Ytmokpnkpfodppaa
namespace Go.Proofs.Ytmokpnkpfodppaa
set_option linter.unusedSimpArgs false
set_option linter.unusedVariables false
open Go.RowKit

/-- .. and this one -/
def orP (S : Nat → Prop) (g : Nat) : Nat → Prop := fun k => S k ∨ k = g
theorem mPush (nb : Nat) (w : World) : Sem.run Try.prog (method 296 103 (.pointer (some ⟨nb, 4, none⟩)) "Push") w = .ok (124, .pointer (some ⟨nb, 4, none⟩)) w := by kernel_rfl
theorem mPop (nb : Nat) (w : World) : Sem.run Try.prog (method 296 103 (.pointer (some ⟨nb, 4, none⟩)) "Pop") w = .ok (123, .pointer (some ⟨nb, 4, none⟩)) w := by kernel_rfl
set_option maxRecDepth 8000 in
set_option maxHeartbeats 1600000 in
theorem qPop_any (nb g n c : Nat) (cs : List Value) (l : List Par) (w : World) (hB : Bx w nb cs) (h4 : cs[4]? = some (.slice (some ⟨g, 0, none⟩) (n + 1) c)) (own : Own encPar 105 5 (nb + 1) w (.slice (some ⟨g, 0, none⟩) (n + 1) c) l) (hn : n + 1 = l.length) (hl : l.length ≤ 2000) :
    Calls Try.prog 123 #[.pointer (some ⟨nb, 4, none⟩)] w fun e w' => e = .returned (.iface 105 (.agg (encPar (l.getD n default)).toArray)) ∧ Own encPar 105 5 (nb + 1) w' (.slice (some ⟨g, 0, none⟩) n c) (l.take n) ∧ Bx w' nb (cs.set 4 (.slice (some ⟨g, 0, none⟩) n c)) ∧ Kg w w' nb := by
  have hc := hB.cell h4
  have hnb := block_lt_of_cell hc
  have h4l : 4 < cs.length := (List.getElem?_eq_some_iff.1 h4).1
  have hf := hB.free h4l
  have hnl : n < l.length := by omega
  have own' := own
  rw [hn] at own'
  obtain ⟨b, o, he, hb, i0, i1, i2, i3, i4⟩ := (own'.sl encPar_len).par hnl
  injection he with he
  injection he with e1 e2
  subst e1 e2
  have hgn : nb ≠ g := by
    have := own.ge g rfl
    omega
  have own2 := own.trunc encPar_len hn (m := n) (by omega)
  have hcap := own.form
  obtain ⟨A0, c0, e0, hc1, hc2⟩ := hcap
  rw [← hn] at e0 hc1
  injection e0 with x0 _ e0
  subst x0 e0
  have HX : Hid (l.getD n default = l[n]) := hid (by simp [List.getD, hnl])
  rw [HX.out]
  clear HX own own'
  generalize l[n] = p at *
  simp only [Nat.zero_add] at i0 i1 i2 i3 i4
  have HB := hid hB
  have k1 := (Kp.refl w).alloc (.cells (encPar p).toArray 105)
  clear hB
  have hnw : (n : Int) + 1 ≤ 2000 := by omega
  clear hn hl hnl
  go_enter Try.func123, Try.ntmps123
  go_wp2_with fail
  go_ret
  have kg := (Kg.refl w nb).set (p := ⟨nb, 4, none⟩) (.inl rfl) (.slice (some ⟨g, 0, none⟩) n c)
  exact ⟨rfl, (own2.kg kg (Nat.lt_succ_self _)).kp ((Kp.refl _).alloc _), (HB.out.set h4l _).kp ((Kp.refl _).alloc _) (by simpa using hnb), kg.alloc _⟩
set_option maxRecDepth 8000 in
set_option maxHeartbeats 1600000 in
theorem hPush_any (nb : Nat) (cs : List Value) (sv : Value) (l : List Par) (p : Par) (w : World) (hB : Bx w nb cs) (h4 : cs[4]? = some sv) (own : Own encPar 105 5 (nb + 1) w sv l) (hl : l.length + 1 ≤ 2000) :
    Calls Try.prog 41 #[.iface 103 (.pointer (some ⟨nb, 4, none⟩)), .iface 105 (.agg (encPar p).toArray)] w fun e w' => e = .returned (.tuple #[]) ∧ ∃ g c, Own encPar 105 5 (nb + 1) w' (.slice (some ⟨g, 0, none⟩) (l.length + 1) c) (upL (l.length + 1) (l ++ [p]) l.length) ∧ Bx w' nb (cs.set 4 (.slice (some ⟨g, 0, none⟩) (l.length + 1) c)) ∧ Fr (Qb nb sv) w w' ∧ (sv.ownBlock = some g ∨ w.heap.size ≤ g) := by
  have h4l : 4 < cs.length := (List.getElem?_eq_some_iff.1 h4).1
  have m0 := mPush nb w
  go_enter Try.func41, Try.ntmps41
  go_wp2_with fail
  refine (qPush_any nb cs sv l p w hB h4 own (by omega)).mono ?_
  rintro e w1 ⟨rfl, v1, own1, hB1, hfr1, hat1⟩
  obtain ⟨g, c, rfl, hc1, hm1, hg1, hgl1⟩ := own1.row (by simp)
  replace hat1 := hid (hat1 g rfl)
  rw [List.length_append, List.length_singleton] at own1 hB1 hc1
  have hgn : nb ≠ g := by omega
  have hc : w1.cell? ⟨nb, 4, none⟩ = some (.slice (some ⟨g, 0, none⟩) (l.length + 1) c) := hB1.cell (by simp [h4l])
  have m1 := mLen nb _ _ hc
  have hl2 : (l.length : Int) + 1 ≤ 2000 := by omega
  have HL := hid hl
  clear m0 hB own hl
  go_wp2_with fail
  refine (qLen_any _ _ _ _).mono ?_
  rintro e w2 ⟨rfl, rfl⟩
  go_wp2_with fail
  refine (hUp_any nb g (l.length + 1) c (nb + 1) (l ++ [p]) l.length _ own1 (by simp) (by simp) (by have := HL.out; simp; omega) hc hgn).mono ?_
  rintro e w3 ⟨rfl, own3, hkg3⟩
  have hB3 := hB1.kg hkg3 (block_lt_of_cell hc) hgn
  clear m1 hc own1 hB1
  go_wp2_with fail
  go_end0
  refine ⟨rfl, g, c, own3, hB3, hfr1.trans2 (hkg3.fr (S := orP (Qb nb sv) g) (.inr rfl)) fun i hi hlt => ?_, hat1.out⟩
  rcases hi with h | rfl
  · exact h
  · rcases hat1.out with h | h
    · exact .inr h
    · omega
set_option maxRecDepth 8000 in
set_option maxHeartbeats 1600000 in
theorem hPop_any (nb g n c : Nat) (cs : List Value) (l : List Par) (w : World) (hB : Bx w nb cs) (h4 : cs[4]? = some (.slice (some ⟨g, 0, none⟩) (n + 1) c)) (own : Own encPar 105 5 (nb + 1) w (.slice (some ⟨g, 0, none⟩) (n + 1) c) l) (hn : n + 1 = l.length) (hl : l.length ≤ 2000) :
    Calls Try.prog 42 #[.iface 103 (.pointer (some ⟨nb, 4, none⟩))] w fun e w' => e = .returned (.iface 105 (.agg (encPar (gt (downL (n + 1) (swapL l 0 n) 0 n) n)).toArray)) ∧ Own encPar 105 5 (nb + 1) w' (.slice (some ⟨g, 0, none⟩) n c) ((downL (n + 1) (swapL l 0 n) 0 n).take n) ∧ Bx w' nb (cs.set 4 (.slice (some ⟨g, 0, none⟩) n c)) ∧ Fr (Qb nb (.slice (some ⟨g, 0, none⟩) (n + 1) c)) w w' := by
  have h4l : 4 < cs.length := (List.getElem?_eq_some_iff.1 h4).1
  have hc := hB.cell h4
  have m0 := mLen nb _ _ hc
  have hgn : nb ≠ g := by
    have := own.ge g rfl
    omega
  have hl2 : (n : Int) + 1 ≤ 2000 := by omega
  have HN := hid hn
  have HL := hid hl
  generalize hD0 : downL (n + 1) (swapL l 0 n) 0 n = D
  generalize hX0 : gt D n = X
  have HD := hid hD0
  have HX : Hid (D.getD n default = X) := hid hX0
  have hDl : Hid (D.length = n + 1) := hid (by rw [← hD0, downL_len, swapL_len]; exact hn.symm)
  clear hn hl hD0 hX0
  go_enter Try.func42, Try.ntmps42
  go_wp2_with fail
  refine (qLen_any _ _ _ _).mono ?_
  rintro e w2 ⟨rfl, rfl⟩
  have m1 := mSwap nb _ _ hc
  go_wp2_with fail
  refine (qSwap_any (nb + 1) g (n + 1) c l 0 n _ own HN.out (by have := HN.out; omega) (by have := HN.out; omega)).mono ?_
  rintro e w3 ⟨rfl, own3, hkg3⟩
  have hB3 := hB.kg hkg3 (block_lt_of_cell hc) hgn
  have hc3 := hB3.cell h4
  clear m0 m1 hc own hB
  go_wp2_with fail
  refine (hDown_any nb g (n + 1) n c (nb + 1) (swapL l 0 n) _ own3 (by rw [swapL_len]; exact HN.out) (by rw [swapL_len]; have := HN.out; omega) (by rw [swapL_len]; exact HL.out) hc3 hgn).mono ?_
  rintro e w4 ⟨⟨bb, rfl⟩, own4, hkg4⟩
  have hB4 := hB3.kg hkg4 (block_lt_of_cell hc3) hgn
  rw [HD.out] at own4
  have hc4 := hB4.cell h4
  have m2 := mPop nb w4
  clear hc3 own3 hB3
  go_wp2_with fail
  refine (qPop_any nb g n c cs D _ hB4 h4 own4 hDl.out.symm (by rw [hDl.out]; omega)).mono ?_
  rw [HX.out]
  rintro e w5 ⟨rfl, own5, hB5, hkg5⟩
  clear m2 hc4 hB4 own4
  go_wp2_with fail
  go_ret
  exact ⟨rfl, own5, hB5, ((hkg3.trans hkg4).fr (.inr rfl)).trans (hkg5.fr (.inl rfl))⟩
end Go.Proofs.Ytmokpnkpfodppaa
