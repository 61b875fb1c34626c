
/-
Search: slices.Grow and slices.Concat of two lists of rows: the walks.
-/
import Derived.Test.YtlbhidiliogflaaGreatSeH
import Derived.Lib.AppendZeros
namespace Go.Proofs.YtlbhidiliogflaaGreat
set_option linter.unusedSimpArgs false
set_option linter.unusedVariables false
open Go.RowKit

theorem stRowC : SliceT Tryz.prog 23 51 2 32 := SliceT.mk' Tryz.underlying23 (z := .agg #[.slice none 0 0, .int .i64 0]) (by kernel_rfl) rfl (by omega)
set_option maxRecDepth 8000 in
set_option maxHeartbeats 4000000 in
theorem Grow_any (n : Nat) (w : World) (hn : n ≤ 1000000) : Calls Tryz.prog 69 #[.slice none 0 0, .int .i64 (n : Int)] w fun e w' => ∃ v, e = .returned v ∧ Own (encC (size := 2)) 51 2 w.heap.size w' v [] ∧ Kp w w' := by
  rcases Nat.eq_zero_or_pos n with rfl | hpos
  · go_enter Tryz.func69, Tryz.ntmps69
    go_wp2
    go_ret
    exact ⟨_, rfl, Own.nil _ _ _ _ _, Kp.refl _⟩
  · obtain ⟨i0, z, hi, hz, hs2, hby, hzs⟩ := stRowC.info
    have happ := Lib.run_append_nil_zeros (P := Tryz.prog) w 23 3 23 51 i0 z .i64 .i64 Tryz.underlying23 Tryz.underlying3 hi hz n hpos (by omega) (by omega) (by rw [hby]; omega)
    have hcg := grownCap_ge w n 0 51
    have hcl := grownCap_le_maxLen w n 0 51 (by unfold maxLen; omega)
    generalize grownCap w n 0 51 = cap2 at *
    generalize hZ : (Builtin.zeroCells z.cells n ++ Builtin.zeroCells z.cells (cap2 - n)) = Z at happ
    have hZs : Z.size = cap2 * 2 := by
      rw [← hZ]
      simp [size_zeroCells, hzs]
      omega
    clear hZ
    have e1 : decide ((n : Int) < 0) = false := decide_eq_false (by omega)
    have e2 : decide ((0 : Int) < (n : Int)) = true := decide_eq_true (by omega)
    have e3 : decide (0 < n) = true := decide_eq_true hpos
    have hO : Own (encC (size := 2)) 51 2 w.heap.size (w.alloc (.cells Z 51)).drew (.slice (some ⟨w.heap.size, 0, none⟩) 0 cap2) [] :=
      ⟨by simp [flat], .inr ⟨w.heap.size, cap2, Z, rfl, Nat.le_refl _, heap_alloc_new w _, Nat.zero_le _, hcl, hZs, by simp [flat]⟩⟩
    replace hZs := hid hZs
    replace hcl : cap2 ≤ 9223372036854775807 := hcl
    have hK : Kp w (w.alloc (.cells Z 51)).drew := ((Kp.refl w).alloc _).drew
    go_enter Tryz.func69, Tryz.ntmps69
    go_wp2_with (at_builtin; refine Lib.wpList_append_run _ rfl _ _ _ _ rfl _ _ rfl rfl _ _ happ ?_)
    go_ret
    exact ⟨_, rfl, hO, hK⟩
set_option maxRecDepth 8000 in
set_option maxHeartbeats 4000000 in
theorem Concat_any (bq oq : Nat) (A1 A2 : Option Addr) (c1 c2 : Nat) (l1 l2 : List (Elm 2)) (w : World) (h1 : w.cell? ⟨bq, oq, none⟩ = some (.slice A1 l1.length c1)) (h2 : w.cell? ⟨bq, oq + 1, none⟩ = some (.slice A2 l2.length c2))
    (hS1 : Sl (Pl encC) 2 w (.slice A1 l1.length c1) l1) (hS2 : Sl (Pl encC) 2 w (.slice A2 l2.length c2) l2) (hl1 : l1.length ≤ 10000) (hl2 : l2.length ≤ 10000) :
    Calls Tryz.prog 45 #[.slice (some ⟨bq, oq, none⟩) 2 2] w fun e w' => ∃ v, e = .returned v ∧ Own encC 51 2 w.heap.size w' v (l1 ++ l2) ∧ Kp w w' := by
  have hlt := block_lt_of_cell h1
  obtain ⟨m1, m2⟩ := hS1.caps
  obtain ⟨m3, m4⟩ := hS2.caps
  generalize hn1 : l1.length = n1 at *
  generalize hn2 : l2.length = n2 at *
  replace hn1 := hid hn1
  replace hn2 := hid hn2
  go_enter Tryz.func45, Tryz.ntmps45
  go_wp2_with fail
  go_loopw [3, 11] (fun sz i wr => ∃ k : Nat, k ≤ 2 ∧ i = .int .i64 (k : Int) ∧ sz = .int .i64 ((if k = 0 then 0 else if k = 1 then n1 else n1 + n2 : Nat) : Int) ∧ wr = w) (fun _ i _ => 2 - (intOf i).toNat)
  case atStart => exact ⟨0, by omega, rfl, rfl, rfl⟩
  case round =>
    obtain ⟨k, hk, rfl, rfl, rfl⟩ := hrel
    have hk3 : k = 0 ∨ k = 1 ∨ k = 2 := by omega
    rcases hk3 with rfl | rfl | rfl
    · simp only [if_true]
      go_wp2_with fail
      go_roundw
      case rel => exact ⟨1, by omega, rfl, by simp, trivial⟩
      case measure => simp [intOf]
    · simp only [Nat.one_ne_zero, if_false, if_true]
      go_wp2_with fail
      go_roundw
      case rel => exact ⟨2, by omega, rfl, by simp, trivial⟩
      case measure => simp [intOf]
    · have e9 : ((if 2 = 0 then 0 else if 2 = 1 then n1 else n1 + n2 : Nat) : Int) = ((n1 + n2 : Nat) : Int) := by simp
      rw [e9]
      clear e9
      generalize hnn : n1 + n2 = nn at *
      replace hnn := hid hnn
      go_wp2_with fail
      refine (Grow_any nn wr (by have := hnn.out; omega)).mono ?_
      rintro e w5 ⟨v5, rfl, hO5, k5⟩
      obtain ⟨A5, n5, c5, rfl⟩ := hO5.isSl
      have hz5 := k5.size
      go_wp2_with fail
      go_loopw [6, 27] (fun v i wi => ∃ (k : Nat) (L : List (Elm 2)), k ≤ 2 ∧ i = .int .i64 (k : Int) ∧ Hid (L = if k = 0 then [] else if k = 1 then l1 else l1 ++ l2) ∧ Own encC 51 2 wr.heap.size wi v L ∧ Kp wr wi) (fun _ i _ => 2 - (intOf i).toNat)
      case atStart => exact ⟨0, [], by omega, rfl, hid rfl, hO5, k5⟩
      case round =>
        clear hO5
        obtain ⟨k, L, hk, rfl, HL, hO, kr⟩ := hrel
        obtain ⟨A6, n6, c6, rfl⟩ := hO.isSl
        have hk3 : k = 0 ∨ k = 1 ∨ k = 2 := by omega
        have hzr := kr.size
        rcases hk3 with rfl | rfl | rfl
        · have hL : L = [] := HL.out
          subst hL
          have d1 := kr.cellS h1
          have hSx := hS1.keep (pl_stable _) kr
          have hb1 := hn1.out
          go_wp2_with (at_builtin; refine wpl_append_flat rfl (.tmp 31) (.tmp 32) rfl stRowC encC_len encC_one rfl hO rfl hSx (by first | omega | (simp; omega)) (by first | omega | (simp; omega)) hzr ?_; intro v1 w1 hown1 hgrow1 hat1 hnil1)
          go_roundw
          case rel => exact ⟨1, _, by omega, rfl, hid (by simp), hown1, kr.grown hgrow1 (fun q hq => hO.ge q hq)⟩
          case measure => simp [intOf]
        · have hL : L = l1 := HL.out
          subst hL
          have d1 := kr.cellS h2
          have hSx := hS2.keep (pl_stable _) kr
          have hb1 := hn1.out
          have hb2 := hn2.out
          go_wp2_with (at_builtin; refine wpl_append_flat rfl (.tmp 31) (.tmp 32) rfl stRowC encC_len encC_one rfl hO rfl hSx (by first | omega | (simp; omega)) (by first | omega | (simp; omega)) hzr ?_; intro v1 w1 hown1 hgrow1 hat1 hnil1)
          go_roundw
          case rel => exact ⟨2, _, by omega, rfl, hid (by simp), hown1, kr.grown hgrow1 (fun q hq => hO.ge q hq)⟩
          case measure => simp [intOf]
        · have hL : L = l1 ++ l2 := HL.out
          subst hL
          go_wp2_with fail
          go_ret
          exact ⟨_, rfl, hO, kr⟩
end Go.Proofs.YtlbhidiliogflaaGreat
