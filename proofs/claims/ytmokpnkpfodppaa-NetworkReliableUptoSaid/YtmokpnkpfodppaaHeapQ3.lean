
/-
The sift of a heap: the walks.
-/
import Derived.Test.YtmokpnkpfodppaaHeapP
import Derived.Deep.LoopGhost
namespace Go.Proofs.Ytmokpnkpfodppaa
set_option linter.unusedSimpArgs false
set_option linter.unusedVariables false
open Go.RowKit

theorem mLen (nb : Nat) (v : Value) (w : World) (h : w.cell? ⟨nb, 4, none⟩ = some v) : Sem.run Try.prog (method 296 103 (.pointer (some ⟨nb, 4, none⟩)) "Len") w = .ok (117, v) w := by
  have e : Sem.run Try.prog (method 296 103 (.pointer (some ⟨nb, 4, none⟩)) "Len") w = Sem.run Try.prog (load ⟨nb, 4, none⟩ >>= fun v => pure (117, v)) w := by kernel_rfl
  rw [e]
  simp [go_sem, h]
theorem mLess (nb : Nat) (v : Value) (w : World) (h : w.cell? ⟨nb, 4, none⟩ = some v) : Sem.run Try.prog (method 296 103 (.pointer (some ⟨nb, 4, none⟩)) "Less") w = .ok (118, v) w := by
  have e : Sem.run Try.prog (method 296 103 (.pointer (some ⟨nb, 4, none⟩)) "Less") w = Sem.run Try.prog (load ⟨nb, 4, none⟩ >>= fun v => pure (118, v)) w := by kernel_rfl
  rw [e]
  simp [go_sem, h]
theorem mSwap (nb : Nat) (v : Value) (w : World) (h : w.cell? ⟨nb, 4, none⟩ = some v) : Sem.run Try.prog (method 296 103 (.pointer (some ⟨nb, 4, none⟩)) "Swap") w = .ok (119, v) w := by
  have e : Sem.run Try.prog (method 296 103 (.pointer (some ⟨nb, 4, none⟩)) "Swap") w = Sem.run Try.prog (load ⟨nb, 4, none⟩ >>= fun v => pure (119, v)) w := by kernel_rfl
  rw [e]
  simp [go_sem, h]
theorem upL_zero (f : Nat) (l : List Par) : upL f l 0 = l := by cases f <;> simp [upL]
theorem half_wraps {j : Nat} (h : j ≤ 2000) : IntKind.i64.wrap ((j : Int) - 1) = (j : Int) - 1 ∧ wrap64 ((j : Int) - 1) = (j : Int) - 1 ∧ ((j : Int) - 1).tdiv 2 = (((j - 1) / 2 : Nat) : Int) ∧ IntKind.i64.wrap (((j - 1) / 2 : Nat) : Int) = (((j - 1) / 2 : Nat) : Int) ∧ wrap64 (((j - 1) / 2 : Nat) : Int) = (((j - 1) / 2 : Nat) : Int) ∧ (j ≠ 0 → (j - 1) / 2 < j) := by
  have h1 : ((j : Int) - 1).tdiv 2 = (((j - 1) / 2 : Nat) : Int) := by
    rcases Nat.eq_zero_or_pos j with rfl | h0
    · rfl
    · rw [Int.tdiv_eq_ediv_of_nonneg (by omega)]
      omega
  refine ⟨IntWalk.i64_in _ (by omega), IntWalk.wrap64_in _ (by omega), h1, IntWalk.i64_in _ (by omega), IntWalk.wrap64_in _ (by omega), fun _ => by omega⟩
set_option maxRecDepth 8000 in
set_option maxHeartbeats 1600000 in
theorem hUp_any (nb g n c base : Nat) (l : List Par) (j : Nat) (w : World) (h : Own encPar 105 5 base w (.slice (some ⟨g, 0, none⟩) n c) l) (hn : n = l.length) (hj : j < l.length) (hl : l.length ≤ 2000) (hc : w.cell? ⟨nb, 4, none⟩ = some (.slice (some ⟨g, 0, none⟩) n c)) (hgn : nb ≠ g) :
    Calls Try.prog 59 #[.iface 103 (.pointer (some ⟨nb, 4, none⟩)), .int .i64 (j : Int)] w fun e w' => e = .returned (.tuple #[]) ∧ Own encPar 105 5 base w' (.slice (some ⟨g, 0, none⟩) n c) (upL (j + 1) l j) ∧ Kg w w' g := by
  generalize hF : upL (j + 1) l j = F
  have HF := hid hF.symm
  have hnl := hid hn
  clear hF hn
  go_enter Try.func59, Try.ntmps59
  go_wp2
  go_loopg [1] (j + 1) (fun gk jv wr => ∃ (i : Nat) (m : List Par), jv = .int .i64 i ∧ i < gk ∧ i < n ∧ Hid (m.length = n) ∧ Hid (∃ f, i < f ∧ F = upL f m i) ∧ Own encPar 105 5 base wr (.slice (some ⟨g, 0, none⟩) n c) m ∧ Kg w wr g)
  case atStart => exact ⟨j, l, rfl, by omega, by have := hnl.out; omega, hid hnl.out.symm, hid ⟨j + 1, by omega, HF.out⟩, h, Kg.refl _ _⟩
  case round =>
    clear h HF
    obtain ⟨i, m, rfl, hgk, hin, HM, HF, own, hkg⟩ := hrel
    have hc1 := hkg.cellS hc (by show nb ≠ g; exact hgn)
    have hnl2 : nb < wr.heap.size := block_lt_of_cell hc1
    obtain ⟨-, -, w3, -, -, hlt⟩ := half_wraps (j := i) (by have := hnl.out; omega)
    have hi2 : i ≤ 2000 := by have := hnl.out; omega
    have hk2 : (i - 1) / 2 ≤ 2000 := by omega
    by_cases h0 : i = 0
    · have HE : Hid (F = m) := hid (by obtain ⟨f, -, e⟩ := HF.out; rw [e, h0, upL_zero])
      have e1 : ((((i - 1) / 2 : Nat) : Int) == (i : Int)) = true := by simp; omega
      have e2 : ((i - 1) / 2 == i) = true := by simp; omega
      generalize (i - 1) / 2 = k at *
      clear h0 HF
      go_wp2_with fail
      go_end0
      exact ⟨rfl, by rw [HE.out]; exact own, hkg⟩
    · replace hlt := hlt h0
      have e1 : ((((i - 1) / 2 : Nat) : Int) == (i : Int)) = false := by simp; omega
      have e2 : ((i - 1) / 2 == i) = false := by simp; omega
      have HS : Hid (∃ f, (i - 1) / 2 < f ∧ F = if ltP (m.getD i default) (m.getD ((i - 1) / 2) default) then upL f (swapL m ((i - 1) / 2) i) ((i - 1) / 2) else m) := hid (by
        obtain ⟨f, hf, e⟩ := HF.out
        obtain ⟨f', rfl⟩ : ∃ f', f = f' + 1 := ⟨f - 1, by omega⟩
        exact ⟨f', by omega, by rw [e, upL, if_neg h0]⟩)
      clear HF
      have hmi : i < m.length := by rw [HM.out]; exact hin
      have hmk : (i - 1) / 2 < m.length := by rw [HM.out]; omega
      have HX : Hid (ltP (m.getD i default) (m.getD ((i - 1) / 2) default) = ltP m[i] (m[(i - 1) / 2])) := hid (by simp [List.getD, hmi, hmk])
      generalize (i - 1) / 2 = k at *
      have m1 := mLess nb _ _ hc1
      go_wp2_with fail
      refine (qLess_any _ m i k _ (own.sl encPar_len) hmi hmk).mono ?_
      rintro e w4 ⟨rfl, hk4⟩
      generalize ltP m[i] m[k] = lt at *
      have own4 := own.kp hk4
      have hkg4 := hkg.kp hk4
      have hc4 := hk4.cellS hc1
      have m4 := mSwap nb _ _ hc4
      clear m1 hc1 own hkg
      cases lt with
      | false =>
        have HE : Hid (F = m) := hid (by obtain ⟨f, -, e⟩ := HS.out; rw [e, HX.out, if_neg (by simp)])
        go_wp2_with fail
        go_end0
        exact ⟨rfl, by rw [HE.out]; exact own4, hkg4⟩
      | true =>
        have HE : Hid (∃ f, k < f ∧ F = upL f (swapL m k i) k) := hid (by obtain ⟨f, hf, e⟩ := HS.out; exact ⟨f, hf, by rw [e, HX.out, if_pos rfl]⟩)
        go_wp2_with fail
        refine (qSwap_any base g n c m k i _ own4 HM.out.symm hmk hmi).mono ?_
        rintro e w5 ⟨rfl, own5, hkg5⟩
        go_wp2_with fail
        go_roundg i
        case measure => exact hgk
        case rel => exact ⟨k, swapL m k i, rfl, hlt, by omega, hid (by rw [swapL_len]; exact HM.out), HE, own5, hkg4.trans hkg5⟩
end Go.Proofs.Ytmokpnkpfodppaa
