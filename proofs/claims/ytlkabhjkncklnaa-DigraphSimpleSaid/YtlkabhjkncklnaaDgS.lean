
/-
The reference's graphs: Valid, has, with: the walks.
-/
import Derived.Test.YtlkabhjkncklnaaDgO
namespace Go.Proofs.Ytlkabhjkncklnaa
set_option linter.unusedSimpArgs false
set_option linter.unusedVariables false
open Go.RowKit

set_option maxHeartbeats 1600000 in
theorem qValid_any (s : Int) (A : Option Addr) (len c : Nat) (w : World) (hl : len ≤ 9223372036854775807) : Calls Try.prog 28 #[.int .i64 s, .slice A len c] w fun e w' => e = .returned (.bool (openB s len)) ∧ w' = w := by
  go_enter Try.func28, Try.ntmps28
  by_cases h1 : 1 ≤ s
  · have e1 : decide (1 ≤ s) = true := decide_eq_true h1
    by_cases h2 : s ≤ 6
    · have e2 : decide (s ≤ 6) = true := decide_eq_true h2
      have hs : s = 1 ∨ s = 2 ∨ s = 3 ∨ s = 4 ∨ s = 5 ∨ s = 6 := by omega
      have hw : wrap64 (s * s) = s * s := by rcases hs with rfl | rfl | rfl | rfl | rfl | rfl <;> decide +kernel
      have hw2 : IntKind.i64.wrap (s * s) = s * s := by rcases hs with rfl | rfl | rfl | rfl | rfl | rfl <;> decide +kernel
      clear hs
      by_cases h3 : (len : Int) = s * s
      · have e3 : ((len : Int) == s * s) = true := by simpa using h3
        have HF : Hid (openB s len = true) := hid (by simp [openB, h1, h2, h3])
        replace h3 := hid h3
        go_wp2
        go_ret
        exact ⟨by rw [HF.out]; rfl, rfl⟩
      · have e3 : ((len : Int) == s * s) = false := by simpa using h3
        have HF : Hid (openB s len = false) := hid (by simp [openB, h3])
        go_wp2
        go_ret
        exact ⟨by rw [HF.out]; rfl, rfl⟩
    · have e2 : decide (s ≤ 6) = false := decide_eq_false h2
      have HF : Hid (openB s len = false) := hid (by simp [openB, h2])
      go_wp2
      go_ret
      exact ⟨by rw [HF.out]; rfl, rfl⟩
  · have e1 : decide (1 ≤ s) = false := decide_eq_false h1
    have HF : Hid (openB s len = false) := hid (by simp [openB, h1])
    go_wp2
    go_ret
    exact ⟨by rw [HF.out]; rfl, rfl⟩

set_option maxHeartbeats 1600000 in
theorem qHas_any (v : Value) (l : List Nat) (x : Nat) (w : World) (hl : Ints w v (castL l)) : Calls Try.prog 46 #[v, .int .i64 (x : Int)] w fun e w' => e = .returned (.bool (decide (x ∈ l))) ∧ w' = w := by
  obtain ⟨A, c, rfl, hc, hm⟩ := hl.form
  rw [castL_len] at hc ⊢
  generalize hR : decide (x ∈ l) = R
  have HR : Hid (R = decide (x ∈ l.drop 0)) := hid (by rw [← hR]; rfl)
  clear hR
  go_enter Try.func46, Try.ntmps46
  go_wp2
  go_loopw [5] (fun i wr => ∃ k : Nat, k ≤ l.length ∧ i = .int .i64 (k : Int) ∧ Hid (R = decide (x ∈ l.drop k)) ∧ wr = w) (fun i _ => l.length - (intOf i).toNat)
  case atStart => exact ⟨0, Nat.zero_le _, rfl, HR, rfl⟩
  case round =>
    obtain ⟨k, hk, rfl, HD, rfl⟩ := hrel
    by_cases hlt : k < l.length
    · have hkl : (k : Int) < (l.length : Int) := by omega
      obtain ⟨g, o, rfl, hg, i0⟩ := hl.ints (k := k) (by rw [castL_len]; exact hlt)
      rw [castL_get l k hlt] at i0
      have HX := hid (List.drop_eq_getElem_cons hlt)
      generalize l[k] = y at *
      by_cases h : y = x
      · have e1 : ((y : Int) == (x : Int)) = true := by rw [h]; simp
        have HF : Hid (R = true) := hid (by rw [HD.out, HX.out, h]; simp)
        replace h := hid h
        go_wp2
        go_ret
        exact ⟨by rw [HF.out]; rfl, rfl⟩
      · have e1 : ((y : Int) == (x : Int)) = false := beq_false_of_ne (by omega)
        have HF : Hid (R = decide (x ∈ l.drop (k + 1))) := hid (by
          rw [HD.out, HX.out]
          have : ¬ x = y := fun e => h e.symm
          simp [this])
        replace h := hid h
        go_wp2_with fail
        go_roundw
        case rel => exact ⟨k + 1, by omega, by go_num, HF, trivial⟩
        case measure => simp [intOf]; omega
    · have hkl : ¬ (k : Int) < (l.length : Int) := by omega
      have HF : Hid (R = false) := hid (by rw [HD.out, List.drop_of_length_le (by omega)]; simp)
      go_wp2
      go_ret
      exact ⟨by rw [HF.out]; rfl, rfl⟩
set_option maxHeartbeats 1600000 in
theorem qWith_any (v : Value) (l : List Nat) (x : Nat) (w : World) (hl : Ints w v (castL l)) (hb : l.length ≤ 1000) : Calls Try.prog 47 #[v, .int .i64 (x : Int)] w fun e w' => ∃ v', e = .returned v' ∧ Own encInt 3 1 w.heap.size w' v' (castL (l ++ [x])) ∧ Kp w w' := by
  obtain ⟨A, c, rfl, hc, hm⟩ := hl.form
  rw [castL_len] at hc ⊢
  have HL := hid hl
  have o0 := Own.lit (base := w.heap.size) (size := 1) encInt (e := 3) w #[] [] (Nat.le_refl _) (by simp) rfl rfl
  have k0 := (Kp.refl w).alloc (.cells #[] 3)
  clear hl
  go_enter Try.func47, Try.ntmps47
  go_wp2_with fail
  go_loopw [5, 6] (fun ov i wr => ∃ k : Nat, k ≤ l.length ∧ i = .int .i64 (k : Int) ∧ Own encInt 3 1 w.heap.size wr ov (castL (l.take k)) ∧ Kp w wr) (fun _ i _ => l.length - (intOf i).toNat)
  case atStart => exact ⟨0, Nat.zero_le _, rfl, o0, k0⟩
  case round =>
    clear o0 k0
    obtain ⟨k, hk, rfl, own, kr⟩ := hrel
    obtain ⟨Ao, co, e0, hco, hmo⟩ := own.form
    have hlt1 : (castL (l.take k)).length = k := by rw [castL_len, List.length_take]; omega
    rw [hlt1] at e0
    subst e0
    have hge := own.ge
    have hzr := kr.size
    by_cases hlt : k < l.length
    · have hkl : (k : Int) < (l.length : Int) := by omega
      obtain ⟨g, o, rfl, hg, i0⟩ := (HL.out.keep (pl_stable _) kr).ints (k := k) (by rw [castL_len]; exact hlt)
      rw [castL_get l k hlt] at i0
      have HX := hid (List.take_succ_eq_append_getElem hlt)
      generalize l[k] = y at *
      go_wp2_with (at_builtin; refine wpl_append_flat rfl (.tmp 14) (.tmp 19) rfl stIntM encInt_len encInt_one rfl (own.alloc _) rfl (Sl.one (R := Pl encInt) wr _ 3 1 (y : Int) rfl rfl) (by rw [hlt1]; simp; omega) (by rw [hlt1]; simp; omega) (by simp; omega) ?_; intro vA wA ownA hgr hat hnil)
      have krA := (kr.alloc (.cells #[.int .i64 (y : Int)] 3)).grown hgr hge
      clear hgr hat hnil
      go_roundw
      case rel => exact ⟨k + 1, by omega, by go_num, by rw [HX.out, castL_snoc]; exact ownA, krA⟩
      case measure => simp [intOf]; omega
    · obtain rfl : k = l.length := by omega
      have hkl : ¬ (l.length : Int) < (l.length : Int) := by omega
      have HT : Hid (l.take l.length = l) := hid List.take_length
      go_wp2_with (at_builtin; refine wpl_append_flat rfl (.tmp 21) (.tmp 23) rfl stIntM encInt_len encInt_one rfl (own.alloc _) rfl (Sl.one (R := Pl encInt) wr _ 3 1 (x : Int) rfl rfl) (by rw [hlt1]; simp; omega) (by rw [hlt1]; simp; omega) (by simp; omega) ?_; intro vA wA ownA hgr hat hnil)
      have krA := (kr.alloc (.cells #[.int .i64 (x : Int)] 3)).grown hgr hge
      go_ret
      exact ⟨_, rfl, by rw [castL_snoc]; have := ownA; rw [HT.out] at this; exact this, krA⟩
end Go.Proofs.Ytlkabhjkncklnaa
