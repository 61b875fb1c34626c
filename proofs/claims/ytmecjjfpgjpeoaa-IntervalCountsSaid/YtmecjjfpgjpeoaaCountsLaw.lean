
/-
IntervalCounts: for every box the law returns true and leaves its argument as it was.
-/
import Derived.Test.YtmecjjfpgjpeoaaAwake
import Derived.Test.YtmecjjfpgjpeoaaIntOpen
import Derived.Test.YtmecjjfpgjpeoaaPlain4
namespace Go.Proofs.Ytmecjjfpgjpeoaa.lawCounts
open Go.ChangeShapes Go.WideShapes Go.ChangeAt Go.RowKit

set_option maxHeartbeats 4000000 in
theorem walk (vb : Value) (b : List Rng) (w : World) (hb : Rngs w vb b) :
    Calls Try.prog 10 #[vb] w fun e w' => e = .returned (.bool true) ∧ Kp w w' := by
  obtain ⟨A, c, rfl, hc, hm⟩ := hb.form
  go_enter Try.func10, Try.ntmps10
  go_wp2_with fail
  refine (awake_any _).mono ?_
  rintro e w1 ⟨rfl, hbel1⟩
  by_cases h20 : 20 < b.length
  · go_wp2
    go_ret
    exact ⟨rfl, hbel1⟩
  · have h21 : b.length ≤ 20 := by omega
    go_wp2_with fail
    refine (rValid_any _ _ b [] _ (hb.keep (pl_stable _) hbel1) (Sl.nil _ _ _)).mono ?_
    rintro e w2 ⟨rfl, hk2⟩
    have hbel2 := (hbel1).trans hk2
    cases hV : validB b [] with
    | false =>
      go_wp2
      go_ret
      exact ⟨rfl, hbel2⟩
    | true =>
      have HV : Hid (boxB b = true) := hid (by unfold validB at hV; rw [Bool.and_eq_true] at hV; exact hV.1)
      clear hV
      go_wp2_with fail
      refine (rEmpty_any _ b _ (hb.keep (pl_stable _) hbel2)).mono ?_
      rintro e w3 ⟨rfl, hk3⟩
      have hbel3 := (hbel2).trans hk3
      cases hE : b.any emptyR with
      | true =>
        go_wp2
        go_ret
        exact ⟨rfl, hbel3⟩
      | false =>
        have HE := hid hE
        clear hE
        go_wp2_with fail
        refine (rSize_any _ b _ (hb.keep (pl_stable _) hbel3)).mono ?_
        rintro e w4 ⟨rfl, hk4⟩
        have hbel4 := (hbel3).trans hk4
        by_cases hs : sizeB b ≤ 300
        · have HC := hid (fun (vs : List Int) (c : Int) hi hc => count_next (vs := vs) (c := c) HV.out HE.out hs hi hc)
          have HL : Hid (inB b (b.map (·.lo)) ∧ rank b (b.map (·.lo)) + 1 = 1) := hid ⟨inB_least b (wide_of HE.out), by rw [rank_least]; rfl⟩
          generalize hz : sizeB b = z at *
          have hz2 := hid hz
          clear hz
          go_wp2_with fail
          refine (rLeast_any _ b _ (hb.keep (pl_stable _) hbel4) (by omega)).mono ?_
          rintro e w5 ⟨v5, rfl, own5, hk5⟩
          have hbel5 := hbel4.trans hk5
          have S5 := own5.sl encInt_len
          clear own5 hk5 hk4 hk3 hk2 hbel1 hbel2 hbel3 hbel4
          generalize b.map (·.lo) = L at *
          go_wp2
          go_loopw [3, 4] (fun v c wr => ∃ (vs : List Int) (n : Int), Ints wr v vs ∧ c = .int .i64 n ∧ 1 ≤ n ∧ n ≤ 300 ∧ Hid (inB b vs ∧ rank b vs + 1 = n) ∧ Kp w wr) (fun _ c _ => 301 - (intOf c).toNat)
          case atStart => exact ⟨L, 1, S5, rfl, by omega, by omega, HL, hbel5⟩
          case round =>
            clear S5 HL hbel5
            obtain ⟨vs, n, S, rfl, hn1, hn2, HI, hbel⟩ := hrel
            obtain ⟨Av, cv, rfl, hcv, hmv⟩ := S.form
            go_wp2_with fail
            refine (Next_any _ _ b vs _ (hb.keep (pl_stable _) hbel) S).mono ?_
            rintro e w6 ⟨v6, rfl, own6, hk6⟩
            have hbel6 := hbel.trans hk6
            rcases HC.out vs n HI.out.1 HI.out.2 with ⟨g1, g2⟩ | ⟨l, g1, g2, g3, g4, g5, g6⟩
            · rw [g1]
              subst g2
              clear own6 g1 hcv
              go_wp2_with fail
              refine (Size_any _ b _ (hb.keep (pl_stable _) hbel6)).mono ?_
              rintro e w7 ⟨rfl, hk7⟩
              have hbel7 := (hbel6).trans hk7
              rw [hz2.out]
              go_wp2
              go_ret
              exact ⟨rfl, hbel7⟩
            · rw [g1] at own6 ⊢
              have S6 := own6.sl encInt_len
              dsimp only [Option.isSome_some, Option.getD_some] at S6 ⊢
              obtain ⟨A6, c6, rfl, hc6, hm6⟩ := S6.form
              have S' := S.keep (pl_stable _) hk6
              have HI2 : Hid (inB b l ∧ rank b l + 1 = n + 1) := hid ⟨g2, g3⟩
              have G4 := hid g4
              have G5 := hid g5
              have d1 : decide (300 < n + 1) = false := by simp; omega
              clear own6 g1 g2 g3 g4 g5 S hk6 HC
              go_wp2_with fail
              refine (Contains_any _ _ b l _ (hb.keep (pl_stable _) hbel6) S6).mono ?_
              rintro e w7 ⟨rfl, hk7⟩
              have hbel7 := (hbel6).trans hk7
              rw [G5.out]
              go_wp2_with fail
              refine (Compare_any _ _ vs l _ (S'.keep (pl_stable _) hk7) (S6.keep (pl_stable _) hk7)).mono ?_
              rintro e w8 ⟨rfl, hk8⟩
              have hbel8 := (hbel7).trans hk8
              rw [G4.out]
              go_wp2
              go_roundw
              case rel => exact ⟨l, n + 1, S6.keep (pl_stable _) (hk7.trans hk8), by go_num, by omega, by omega, HI2, hbel8⟩
              case measure => simp [intOf]; omega
        · have d1 : 300 < sizeB b := by omega
          generalize sizeB b = z at *
          go_wp2
          go_ret
          exact ⟨rfl, hbel4⟩

theorem own : ownKnob Try.prog.godebug = none := by kernel_rfl
theorem laidOut : laidOutB Try.prog = true := by kernel_rfl
set_option maxRecDepth 100000 in
theorem lifted (os : Os) (started : os.Started) (H : Type) (enc : TypeId × Value → H) :
    ReturnsInHanded {} Try.checked os 10 .any (Rows.intervalCountsSpec.pre6 enc Try.prog Try.f10 Rows.intervalCountsRow.domain false) (Rows.intervalCountsSpec.post enc Try.prog Try.f10 false true false false) := by
  refine returnsInHanded_of_change (C := Try.checked) own started (by kernel_rfl) Try.func10
    (ChangeSpec.witness6 (enc := enc) (C := Try.checked) false ⟨#[], #[.slice none 0 0], []⟩ 8 (by kernel_rfl) (by kernel_rfl) (by kernel_rfl) (by kernel_rfl)) ?_
  intro W base args ds gs before hval0 hW hcnd _
  have hval : ∀ (j : Nat) t v, Try.f10.params[j]? = some t → args[j]? = some v → Value.okWide Try.prog W .any base t v := hval0
  have hW' := hW
  obtain ⟨p, q, hA0, hV, rfl, hfz, hnd⟩ := hW
  have hA : DataW.TrodAll enc Try.prog W 0 (fun _ => true) true Try.f10.params.toList args.toList ds p := hA0
  rw [Try.params10] at hA hval
  obtain ⟨v0, vs0, d0, ds0, p0, q0, hargs, rfl, rfl, h0, r0⟩ := trodAll_cons hA
  obtain ⟨rfl, rfl, rfl⟩ := trodAll_nil r0
  obtain rfl : args = #[v0] := by cases args; simp_all
  obtain ⟨rfl, rfl⟩ := trodVars_none hV
  have lt0 : ∀ x ∈ p0, x.block < W.heap.size := by obtain ⟨m, hm⟩ := h0; exact DataW.trod_lt m _ _ _ hm
  obtain ⟨a0, len0, cap0, rfl⟩ := okWide_slice Try.underlying22 (hval 0 22 v0 rfl rfl)
  obtain ⟨n0, hn0⟩ := trod_slice_value h0
  obtain ⟨x0, hx0⟩ := opRngs hn0
  clear hA0 hval0
  refine (walk _ x0 W hx0).mono fun e W' ⟨he, bel⟩ => ?_
  subst he
  exact ⟨_, rfl, _, _, _, [], _, [], hW', trodAll_mk1 (shut_bool Try.underlying4 _), (trodAll_cons_mk (Below.trod laidOut (by kernel_rfl) (of_decide_eq_true (by kernel_rfl)) h0 bel lt0) trodAll_mk0), rfl, Below.frame bel _, fun h => by cases h⟩
theorem over : Rows.intervalCountsRow.holds Try.pinned (OpenSpec.ofChange Rows.intervalCountsSpec) :=
  OpenClaim.holds_of_wide 10 Try.f10 rfl rfl rfl rfl rfl rfl rfl ⟨rfl, rfl, rfl, rfl, rfl⟩ rfl rfl rfl rfl rfl (by kernel_rfl) Try.func10 (by kernel_rfl)
    (of_decide_eq_true (by kernel_rfl)) (by unfold Func.isWrapper; first | (rw [if_pos (by decide +kernel)]; kernel_rfl) | (rw [if_neg (by decide +kernel)]; exact ⟨rfl, rfl⟩))
    (fun os started H enc _ => lifted os started H enc)
theorem proved : Rows.IntervalCountsSaid := over
end Go.Proofs.Ytmecjjfpgjpeoaa.lawCounts
