
/-
DigraphCycles: for every size and all edges the law returns true and leaves its arguments as they were.
-/
import Derived.Test.YtlkabhjkncklnaaDgOpen
namespace Go.Proofs.Ytlkabhjkncklnaa.lawCycles
set_option linter.unusedSimpArgs false
set_option linter.unusedVariables false
open Go.ChangeShapes Go.WideShapes Go.ChangeAt Go.RowKit

set_option maxHeartbeats 2000000 in
theorem walk (s : Int) (va : Value) (es : List Bool) (w : World) (ha : Bools w va es) : Calls Try.prog 4 #[.int .i64 s, va] w fun e w' => e = .returned (.bool true) ∧ Kp w w' := by
  obtain ⟨A, c, rfl, hc, hm⟩ := ha.form
  have HA := hid ha
  clear ha
  go_enter Try.func4, Try.ntmps4
  go_wp2_with fail
  refine (awake19_any w).mono ?_
  rintro e w1 ⟨rfl, k1⟩
  by_cases h1 : 60 < es.length
  · have e1 : decide (60 < (es.length : Int)) = true := decide_eq_true (by omega)
    go_wp2
    go_ret
    exact ⟨rfl, k1⟩
  · have e1 : decide (60 < (es.length : Int)) = false := decide_eq_false (by omega)
    go_wp2_with fail
    refine (dOrder_any s _ es w1 (HA.out.keep (pl_stable _) k1)).mono ?_
    rw [show orderPub s es = orderQ s es from orderPub_eq]
    rintro e w2 ⟨v2, rfl, i2, k2⟩
    have k12 := k1.trans k2
    go_wp2_with fail
    refine (qOrder_any s _ es w2 (HA.out.keep (pl_stable _) k12)).mono ?_
    rintro e w3 ⟨v3, rfl, i3, k3⟩
    have k13 := k12.trans k3
    have HI := hid (i2.keep (pl_stable _) k3)
    have HJ := hid i3
    generalize orderQ s es = O at *
    obtain ⟨L, q⟩ := O
    dsimp only at *
    obtain ⟨A2, c2, rfl, -, -⟩ := i2.form
    obtain ⟨A3, c3, rfl, -, -⟩ := i3.form
    clear i2 i3
    have hq : (q == q) = true := by simp
    go_wp2_with fail
    refine (dCycle_any s _ es w3 (HA.out.keep (pl_stable _) k13)).mono ?_
    rintro e w4 ⟨v4, L4, rfl, hP, i4, k4⟩
    obtain rfl := cyc_eq hP
    have k14 := k13.trans k4
    clear hP
    go_wp2_with fail
    refine (qCycle_any s _ es w4 (HA.out.keep (pl_stable _) k14)).mono ?_
    rintro e w5 ⟨v5, rfl, i5, k5⟩
    have k15 := k14.trans k5
    have HI4 := hid (i4.keep (pl_stable _) k5)
    have HJ4 := hid i5
    generalize (cycQ s es).headD [] = C at *
    obtain ⟨A4, c4, rfl, -, -⟩ := i4.form
    obtain ⟨A5, c5, rfl, -, -⟩ := i5.form
    clear i4 i5
    go_wp2_with fail
    refine (EqualI_any _ _ (castL C) (castL C) w5 HI4.out HJ4.out).mono ?_
    rintro e w6 ⟨e6, k6⟩
    rw [decide_eq_true rfl] at e6
    subst e6
    have k16 := k15.trans k6
    clear HI4 HJ4
    go_wp2_with fail
    refine (dCycles_any s _ es w6 (HA.out.keep (pl_stable _) k16)).mono ?_
    rintro e w7 ⟨v7, css, L7, rfl, hP, nl7, k7⟩
    obtain rfl := cyc_eq hP
    have k17 := k16.trans k7
    clear hP
    go_wp2_with fail
    refine (qCycles_any s _ es w7 (HA.out.keep (pl_stable _) k17)).mono ?_
    rintro e w8 ⟨v8, css8, rfl, nl8, k8⟩
    have k18 := k17.trans k8
    have HI7 := hid ((nl7.kp k8).sl)
    have HJ7 := hid nl8.sl
    generalize cycQ s es = D at *
    obtain ⟨A7, c7, rfl, -, -⟩ := nl7.form
    obtain ⟨A8, c8, rfl, -, -⟩ := nl8.form
    clear nl7 nl8
    go_wp2_with fail
    refine (qLists_any _ _ D D w8 HI7.out HJ7.out).mono ?_
    rintro e w9 ⟨e9, k9⟩
    rw [decide_eq_true rfl] at e9
    subst e9
    have k19 := k18.trans k9
    have HI9 := hid (HI.out.keep (pl_stable _) ((k4.trans (k5.trans (k6.trans (k7.trans (k8.trans k9)))))))
    have HJ9 := hid (HJ.out.keep (pl_stable _) ((k4.trans (k5.trans (k6.trans (k7.trans (k8.trans k9)))))))
    clear HI HJ HI7 HJ7
    go_wp2_with fail
    refine (EqualI_any _ _ L L w9 HI9.out HJ9.out).mono ?_
    rintro e wa ⟨ea, ka⟩
    rw [decide_eq_true rfl] at ea
    subst ea
    go_wp2
    go_ret
    exact ⟨rfl, k19.trans ka⟩
theorem own : ownKnob Try.prog.godebug = none := by kernel_rfl
theorem laidOut : laidOutB Try.prog = true := by kernel_rfl
set_option maxRecDepth 100000 in
theorem lifted (os : Os) (started : os.Started) (H : Type) (enc : TypeId × Value → H) :
    ReturnsInHanded {} Try.checked os 4 .any (Rows.digraphCyclesSpec.pre6 enc Try.prog Try.f4 Rows.digraphCyclesRow.domain false) (Rows.digraphCyclesSpec.post enc Try.prog Try.f4 false true false false) := by
  refine returnsInHanded_of_change (C := Try.checked) own started (by kernel_rfl) Try.func4
    (ChangeSpec.witness6 (enc := enc) (C := Try.checked) false ⟨#[], #[.int .i64 0, .slice none 0 0], []⟩ 8 (by kernel_rfl) (by kernel_rfl) (by kernel_rfl) (by kernel_rfl)) ?_
  intro W base args ds gs before hval0 hW hcnd _
  have hval : ∀ (j : Nat) t v, Try.f4.params[j]? = some t → args[j]? = some v → Value.okWide Try.prog W .any base t v := hval0
  have hW' := hW
  obtain ⟨p, q, hA0, hV, rfl, hfz, hnd⟩ := hW
  have hA : DataW.TrodAll enc Try.prog W 0 (fun _ => true) true Try.f4.params.toList args.toList ds p := hA0
  rw [Try.params4] at hA hval
  obtain ⟨v0, vs0, d0, ds0, p0, q0, hargs, rfl, rfl, h0, r0⟩ := trodAll_cons hA
  obtain ⟨v1, vs1, d1, ds1, p1, q1, rfl, rfl, rfl, h1, r1⟩ := trodAll_cons r0
  obtain ⟨rfl, rfl, rfl⟩ := trodAll_nil r1
  obtain rfl : args = #[v0, v1] := by cases args; simp_all
  obtain ⟨rfl, rfl⟩ := trodVars_none hV
  have lt0 : ∀ x ∈ p0, x.block < W.heap.size := by obtain ⟨m, hm⟩ := h0; exact DataW.trod_lt m _ _ _ hm
  have lt1 : ∀ x ∈ p1, x.block < W.heap.size := by obtain ⟨m, hm⟩ := h1; exact DataW.trod_lt m _ _ _ hm
  obtain ⟨x0, rfl, -, -, wx0⟩ := open_int Try.underlying3 (hval 0 3 v0 rfl rfl) h0
  obtain ⟨a1, len1, cap1, rfl⟩ := okWide_slice Try.underlying22 (hval 1 22 v1 rfl rfl)
  obtain ⟨n1, hn1⟩ := trod_slice_value h1
  obtain ⟨x1, hx1⟩ := opBools hn1
  clear hA0 hval0
  refine (walk x0 _ x1 W hx1).mono fun e W' ⟨he, bel⟩ => ?_
  subst he
  exact ⟨_, rfl, _, _, _, [], _, [], hW', trodAll_mk1 (shut_bool Try.underlying4 _), (trodAll_cons_mk (Below.trod laidOut (by kernel_rfl) (of_decide_eq_true (by kernel_rfl)) h0 bel lt0) (trodAll_cons_mk (Below.trod laidOut (by kernel_rfl) (of_decide_eq_true (by kernel_rfl)) h1 bel lt1) trodAll_mk0)), rfl, Below.frame bel _, fun h => by cases h⟩
theorem over : Rows.digraphCyclesRow.holds Try.pinned (OpenSpec.ofChange Rows.digraphCyclesSpec) :=
  OpenClaim.holds_of_wide 4 Try.f4 rfl rfl rfl rfl rfl rfl rfl ⟨rfl, rfl, rfl, rfl, rfl⟩ rfl rfl rfl rfl rfl (by kernel_rfl) Try.func4 (by kernel_rfl)
    (of_decide_eq_true (by kernel_rfl)) (by unfold Func.isWrapper; first | (rw [if_pos (by decide +kernel)]; kernel_rfl) | (rw [if_neg (by decide +kernel)]; exact ⟨rfl, rfl⟩))
    (fun os started H enc _ => lifted os started H enc)
theorem proved : Rows.DigraphCyclesSaid := over
end Go.Proofs.Ytlkabhjkncklnaa.lawCycles
