
/-
DigraphCloses: for every size and all lists of edges the law returns true and leaves its arguments as they were.
-/
import Derived.Test.YtlkabhjkncklnaaDgOpen
import Derived.Test.YtlkabhjkncklnaaDgCl
import Derived.Deep.CutRange
namespace Go.Proofs.Ytlkabhjkncklnaa.lawCloses
set_option linter.unusedSimpArgs false
set_option linter.unusedVariables false
open Go.ChangeShapes Go.WideShapes Go.ChangeAt Go.RowKit

set_option maxRecDepth 8000 in
set_option maxHeartbeats 8000000 in
theorem walk (s : Int) (va vb : Value) (es ps : List Bool) (w : World) (ha : Bools w va es) (hb : Bools w vb ps) : Calls Try.prog 8 #[.int .i64 s, va, vb] w fun e w' => e = .returned (.bool true) ∧ Kp w w' := by
  obtain ⟨A, c, rfl, hc, hm⟩ := ha.form
  obtain ⟨B, d, rfl, hd, hn⟩ := hb.form
  have HA := hid ha
  have HB := hid hb
  clear ha hb
  go_enter Try.func8, Try.ntmps8
  go_wp2_with fail
  refine (awake19_any w).mono ?_
  rintro e w1 ⟨rfl, k1⟩
  go_wp2_with fail
  refine (qValid_any s A es.length c w1 (by omega)).mono ?_
  rintro e w2 ⟨rfl, rfl⟩
  cases ho : openB s es.length with
  | false =>
    replace ho := hid ho
    go_wp2
    go_ret
    exact ⟨rfl, k1⟩
  | true =>
    obtain ⟨n, rfl, h1, h6, hl⟩ := openB_iff ho
    have HL := hid hl
    have hl36 : es.length ≤ 36 := by rw [hl]; exact Nat.mul_le_mul h6 h6
    replace ho := hid ho
    clear hl
    go_wp2_with fail
    refine (qValid_any n B ps.length d w2 (by omega)).mono ?_
    rintro e w3 ⟨rfl, rfl⟩
    cases ho2 : openB n ps.length with
    | false =>
      replace ho2 := hid ho2
      go_wp2
      go_ret
      exact ⟨rfl, k1⟩
    | true =>
      have HL2 : Hid (ps.length = n * n) := hid (by
        obtain ⟨n2, e, -, -, hl2⟩ := openB_iff ho2
        obtain rfl : n2 = n := by omega
        exact hl2)
      have hl37 : ps.length ≤ 36 := by rw [HL2.out]; exact Nat.mul_le_mul h6 h6
      replace ho2 := hid ho2
      go_wp2_with fail
      refine (dAcyclic_any n _ es w3 (HA.out.keep (pl_stable _) k1)).mono ?_
      rintro e w4 ⟨rfl, k4⟩
      have k14 := k1.trans k4
      cases hac : acyD n es with
      | false =>
        replace hac := hid hac
        go_wp2
        go_ret
        exact ⟨rfl, k14⟩
      | true =>
        replace hac := hid hac
        go_wp2_with fail
        refine (dForbid_any n _ _ es ps w4 (HA.out.keep (pl_stable _) k14) (HB.out.keep (pl_stable _) k14)).mono ?_
        rw [forbPub_eq]
        rintro e w5 ⟨v5, rfl, i5, k5⟩
        have k15 := k14.trans k5
        have HF := hid i5
        obtain ⟨A5, c5, rfl, hc5, hm5⟩ := i5.form
        have HSET := hid (fun k h1 h2 => acyD_set (k := k) ho.out ho2.out HL.out HL2.out hac.out h1 h2)
        have HRI := hid (forbQ_rises n es ps)
        have hF36 := forbQ_len es ps h6
        generalize forbQ n es ps = F at *
        clear i5 k14 k4 k1
        have HEP : Hid (es.length = ps.length) := hid (by rw [HL.out, HL2.out])
        go_wp2_with fail
        go_loopw [34] (fun kv wr => ∃ k : Nat, k ≤ ps.length ∧ kv = .int .i64 (k : Int) ∧ Kp w5 wr) (fun kv _ => ps.length - (intOf kv).toNat)
        case atStart => exact ⟨0, Nat.zero_le _, rfl, Kp.refl _⟩
        case round =>
          obtain ⟨k, hk, rfl, kr⟩ := hrel
          by_cases hkl : k < ps.length
          · have hkl2 : k < es.length := by rw [HEP.out]; exact hkl
            have hki : (k : Int) < (ps.length : Int) := by omega
            have hki2 : (k : Int) < (es.length : Int) := by omega
            go_wp2_with fail
            refine (CloneB_any _ es _ (HA.out.keep (pl_stable _) (k15.trans kr)) (by omega)).mono ?_
            rintro e w6 ⟨v6, rfl, own, k6⟩
            obtain ⟨g, co, rfl, hco, hcm, hgb, hgw⟩ := own.row (by omega)
            have d0 := own.boolCell rfl hkl2
            have fz := own.frozen rfl k
            have own2 := own.boolSet rfl hkl2 true
            have ks := k6.set (p := ⟨g, k, none⟩) hgb (.bool true)
            clear own
            go_upto_region 11 with (fail)
            generalize w6.setCell ⟨g, k, none⟩ (.bool true) = w7 at *
            have HOWN := hid (own2.sl encBool_len)
            have krs := kr.trans ks
            obtain ⟨g1, o1, hA1, hg1, i1⟩ := (HA.out.keep (pl_stable _) (k15.trans krs)).bools hkl2
            obtain ⟨g2, o2, hB1, hg2, i2⟩ := (HB.out.keep (pl_stable _) (k15.trans krs)).bools hkl
            subst hA1 hB1
            have HS := hid (HSET.out k hkl2 hkl)
            have HSL : Hid ((es.set k true).length = es.length) := hid (by simp)
            generalize es.set k true = es2 at *
            generalize es[k] = x at *
            generalize ps[k] = y at *
            clear own2 d0 fz ks k6
            cases y with
            | false =>
              clear HS
              go_wp2_with fail
              go_roundw
              case rel => exact ⟨k + 1, by omega, by go_num, krs⟩
              case measure => simp [intOf]; omega
            | true =>
              cases x with
              | true =>
                clear HS
                go_wp2_with fail
                go_roundw
                case rel => exact ⟨k + 1, by omega, by go_num, krs⟩
                case measure => simp [intOf]; omega
              | false =>
                have HS2 := hid (HS.out rfl rfl)
                clear HS
                go_wp2_with fail
                refine (dAcyclic_any n _ es2 w7 HOWN.out).mono ?_
                rintro e w8 ⟨rfl, k8⟩
                rw [HS2.out]
                go_wp2_with fail
                refine (ContainsI_any _ F (k : Int) w8 (HF.out.keep (pl_stable _) (krs.trans k8))).mono ?_
                rintro e w9 ⟨rfl, rfl⟩
                generalize decide ((k : Int) ∈ F) = z at *
                cases z with
                | true =>
                  go_wp2_with fail
                  go_roundw
                  case rel => exact ⟨k + 1, by omega, by go_num, krs.trans k8⟩
                  case measure => simp [intOf]; omega
                | false =>
                  go_wp2_with fail
                  go_roundw
                  case rel => exact ⟨k + 1, by omega, by go_num, krs.trans k8⟩
                  case measure => simp [intOf]; omega
          · obtain rfl : k = ps.length := by omega
            have hki : ¬ (ps.length : Int) < (ps.length : Int) := by omega
            clear HSET
            go_wp2_with fail
            refine (SortedI_any _ F wr (HF.out.keep (pl_stable _) kr) HRI.out (by omega)).mono ?_
            rintro e w6 ⟨rfl, k6⟩
            have kr6 := kr.trans k6
            go_wp2_with fail
            refine (CloneI_any _ F w6 (HF.out.keep (pl_stable _) kr6) (by omega)).mono ?_
            rintro e w7 ⟨v7, rfl, own, k7⟩
            have HO := hid (own.sl encInt_len)
            obtain ⟨A7, c7, rfl, hc7, hm7⟩ := own.form
            clear own
            have kr7 := kr6.trans k7
            go_wp2_with fail
            refine (CompactI_any A7 c7 F w7 HO.out HRI.out (by omega)).mono ?_
            rintro e w8 ⟨rfl, k8⟩
            have kr8 := kr7.trans k8
            go_wp2_with fail
            refine (EqInts_any _ _ F F w8 (HF.out.keep (pl_stable _) kr8) (HO.out.keep (pl_stable _) k8)).mono ?_
            rintro e w9 ⟨e9, k9⟩
            rw [decide_eq_true rfl] at e9
            subst e9
            go_wp2
            go_ret
            exact ⟨rfl, k15.trans (kr8.trans k9)⟩
theorem own : ownKnob Try.prog.godebug = none := by kernel_rfl
theorem laidOut : laidOutB Try.prog = true := by kernel_rfl
set_option maxRecDepth 100000 in
theorem lifted (os : Os) (started : os.Started) (H : Type) (enc : TypeId × Value → H) :
    ReturnsInHanded {} Try.checked os 8 .any (Rows.digraphClosesSpec.pre6 enc Try.prog Try.f8 Rows.digraphClosesRow.domain false) (Rows.digraphClosesSpec.post enc Try.prog Try.f8 false true false false) := by
  refine returnsInHanded_of_change (C := Try.checked) own started (by kernel_rfl) Try.func8
    (ChangeSpec.witness6 (enc := enc) (C := Try.checked) false ⟨#[], #[.int .i64 0, .slice none 0 0, .slice none 0 0], []⟩ 8 (by kernel_rfl) (by kernel_rfl) (by kernel_rfl) (by kernel_rfl)) ?_
  intro W base args ds gs before hval0 hW hcnd _
  have hval : ∀ (j : Nat) t v, Try.f8.params[j]? = some t → args[j]? = some v → Value.okWide Try.prog W .any base t v := hval0
  have hW' := hW
  obtain ⟨p, q, hA0, hV, rfl, hfz, hnd⟩ := hW
  have hA : DataW.TrodAll enc Try.prog W 0 (fun _ => true) true Try.f8.params.toList args.toList ds p := hA0
  rw [Try.params8] at hA hval
  obtain ⟨v0, vs0, d0, ds0, p0, q0, hargs, rfl, rfl, h0, r0⟩ := trodAll_cons hA
  obtain ⟨v1, vs1, d1, ds1, p1, q1, rfl, rfl, rfl, h1, r1⟩ := trodAll_cons r0
  obtain ⟨v2, vs2, d2, ds2, p2, q2, rfl, rfl, rfl, h2, r2⟩ := trodAll_cons r1
  obtain ⟨rfl, rfl, rfl⟩ := trodAll_nil r2
  obtain rfl : args = #[v0, v1, v2] := by cases args; simp_all
  obtain ⟨rfl, rfl⟩ := trodVars_none hV
  have lt0 : ∀ x ∈ p0, x.block < W.heap.size := by obtain ⟨m, hm⟩ := h0; exact DataW.trod_lt m _ _ _ hm
  have lt1 : ∀ x ∈ p1, x.block < W.heap.size := by obtain ⟨m, hm⟩ := h1; exact DataW.trod_lt m _ _ _ hm
  have lt2 : ∀ x ∈ p2, x.block < W.heap.size := by obtain ⟨m, hm⟩ := h2; exact DataW.trod_lt m _ _ _ hm
  obtain ⟨x0, rfl, -, -, wx0⟩ := open_int Try.underlying3 (hval 0 3 v0 rfl rfl) h0
  obtain ⟨a1, len1, cap1, rfl⟩ := okWide_slice Try.underlying22 (hval 1 22 v1 rfl rfl)
  obtain ⟨n1, hn1⟩ := trod_slice_value h1
  obtain ⟨x1, hx1⟩ := opBools hn1
  obtain ⟨a2, len2, cap2, rfl⟩ := okWide_slice Try.underlying22 (hval 2 22 v2 rfl rfl)
  obtain ⟨n2, hn2⟩ := trod_slice_value h2
  obtain ⟨x2, hx2⟩ := opBools hn2
  clear hA0 hval0
  refine (walk x0 _ _ x1 x2 W hx1 hx2).mono fun e W' ⟨he, bel⟩ => ?_
  subst he
  exact ⟨_, rfl, _, _, _, [], _, [], hW', trodAll_mk1 (shut_bool Try.underlying4 _), (trodAll_cons_mk (Below.trod laidOut (by kernel_rfl) (of_decide_eq_true (by kernel_rfl)) h0 bel lt0) (trodAll_cons_mk (Below.trod laidOut (by kernel_rfl) (of_decide_eq_true (by kernel_rfl)) h1 bel lt1) (trodAll_cons_mk (Below.trod laidOut (by kernel_rfl) (of_decide_eq_true (by kernel_rfl)) h2 bel lt2) trodAll_mk0))), rfl, Below.frame bel _, fun h => by cases h⟩
theorem over : Rows.digraphClosesRow.holds Try.pinned (OpenSpec.ofChange Rows.digraphClosesSpec) :=
  OpenClaim.holds_of_wide 8 Try.f8 rfl rfl rfl rfl rfl rfl rfl ⟨rfl, rfl, rfl, rfl, rfl⟩ rfl rfl rfl rfl rfl (by kernel_rfl) Try.func8 (by kernel_rfl)
    (of_decide_eq_true (by kernel_rfl)) (by unfold Func.isWrapper; first | (rw [if_pos (by decide +kernel)]; kernel_rfl) | (rw [if_neg (by decide +kernel)]; exact ⟨rfl, rfl⟩))
    (fun os started H enc _ => lifted os started H enc)
theorem proved : Rows.DigraphClosesSaid := over
end Go.Proofs.Ytlkabhjkncklnaa.lawCloses
