
/-
DigraphReaches: for every size, all edges and vertices the law returns true and leaves its arguments as they were.
-/
import Derived.Test.YtlkabhjkncklnaaDgOpen
namespace Go.Proofs.Ytlkabhjkncklnaa.lawReaches
set_option linter.unusedSimpArgs false
set_option linter.unusedVariables false
open Go.ChangeShapes Go.WideShapes Go.ChangeAt Go.RowKit

set_option maxHeartbeats 2000000 in
theorem walk (s : Int) (va : Value) (es : List Bool) (a b : Int) (w : World) (ha : Bools w va es) : Calls Try.prog 3 #[.int .i64 s, va, .int .i64 a, .int .i64 b] w fun e w' => e = .returned (.bool true) ∧ Kp w w' := by
  obtain ⟨A, c, rfl, hc, hm⟩ := ha.form
  have HA := hid ha
  clear ha
  go_enter Try.func3, Try.ntmps3
  go_wp2_with fail
  refine (awake19_any w).mono ?_
  rintro e w1 ⟨rfl, k1⟩
  by_cases h1 : 60 < es.length
  · have e1 : decide (60 < (es.length : Int)) = true := decide_eq_true (by omega)
    go_wp2
    go_ret
    exact ⟨rfl, k1⟩
  · have e1 : decide (60 < (es.length : Int)) = false := decide_eq_false (by omega)
    go_wp2_with fail
    refine (dAcyclic_any s _ es w1 (HA.out.keep (pl_stable _) k1)).mono ?_
    rw [acy_eq]
    rintro e w2 ⟨rfl, k2⟩
    have k12 := k1.trans k2
    go_wp2_with fail
    refine (qAcyclic_any s _ es w2 (HA.out.keep (pl_stable _) k12)).mono ?_
    rintro e w3 ⟨rfl, k3⟩
    have k13 := k12.trans k3
    generalize acyQ s es = q at *
    have hq : (q == q) = true := by simp
    go_wp2_with fail
    refine (dReach_any s _ es w3 (HA.out.keep (pl_stable _) k13)).mono ?_
    rw [reachPub_eq]
    rintro e w4 ⟨v4, rfl, i4, k4⟩
    have k14 := k13.trans k4
    go_wp2_with fail
    refine (qReach_any s _ es w4 (HA.out.keep (pl_stable _) k14)).mono ?_
    rintro e w5 ⟨v5, rfl, i5, k5⟩
    have k15 := k14.trans k5
    have HI := hid (i4.keep (pl_stable _) k5)
    have HJ := hid i5
    generalize reachQ s es = L at *
    obtain ⟨A4, c4, rfl, -, -⟩ := i4.form
    obtain ⟨A5, c5, rfl, -, -⟩ := i5.form
    clear i4 i5
    go_wp2_with fail
    refine (EqualB_any _ _ L L w5 HI.out HJ.out).mono ?_
    rintro e w6 ⟨e6, k6⟩
    rw [decide_eq_true rfl] at e6
    subst e6
    have k16 := k15.trans k6
    clear HI HJ
    go_wp2_with fail
    refine (dPathP_any s _ es a b w6 (HA.out.keep (pl_stable _) k16)).mono ?_
    rw [pathPub_eq]
    rintro e w7 ⟨v7, rfl, i7, k7⟩
    have k17 := k16.trans k7
    go_wp2_with fail
    refine (qPath_any s _ es a b w7 (HA.out.keep (pl_stable _) k17)).mono ?_
    rintro e w8 ⟨v8, rfl, i8, k8⟩
    have k18 := k17.trans k8
    have HI := hid (i7.keep (pl_stable _) k8)
    have HJ := hid i8
    generalize pathQ s es a b = P at *
    obtain ⟨A7, c7, rfl, -, -⟩ := i7.form
    obtain ⟨A8, c8, rfl, -, -⟩ := i8.form
    clear i7 i8
    go_wp2_with fail
    refine (EqualI_any _ _ P P w8 HI.out HJ.out).mono ?_
    rintro e w9 ⟨e9, k9⟩
    rw [decide_eq_true rfl] at e9
    subst e9
    go_wp2
    go_ret
    exact ⟨rfl, k18.trans k9⟩
theorem own : ownKnob Try.prog.godebug = none := by kernel_rfl
theorem laidOut : laidOutB Try.prog = true := by kernel_rfl
set_option maxRecDepth 100000 in
theorem lifted (os : Os) (started : os.Started) (H : Type) (enc : TypeId × Value → H) :
    ReturnsInHanded {} Try.checked os 3 .any (Rows.digraphReachesSpec.pre6 enc Try.prog Try.f3 Rows.digraphReachesRow.domain false) (Rows.digraphReachesSpec.post enc Try.prog Try.f3 false true false false) := by
  refine returnsInHanded_of_change (C := Try.checked) own started (by kernel_rfl) Try.func3
    (ChangeSpec.witness6 (enc := enc) (C := Try.checked) false ⟨#[], #[.int .i64 0, .slice none 0 0, .int .i64 0, .int .i64 0], []⟩ 8 (by kernel_rfl) (by kernel_rfl) (by kernel_rfl) (by kernel_rfl)) ?_
  intro W base args ds gs before hval0 hW hcnd _
  have hval : ∀ (j : Nat) t v, Try.f3.params[j]? = some t → args[j]? = some v → Value.okWide Try.prog W .any base t v := hval0
  have hW' := hW
  obtain ⟨p, q, hA0, hV, rfl, hfz, hnd⟩ := hW
  have hA : DataW.TrodAll enc Try.prog W 0 (fun _ => true) true Try.f3.params.toList args.toList ds p := hA0
  rw [Try.params3] at hA hval
  obtain ⟨v0, vs0, d0, ds0, p0, q0, hargs, rfl, rfl, h0, r0⟩ := trodAll_cons hA
  obtain ⟨v1, vs1, d1, ds1, p1, q1, rfl, rfl, rfl, h1, r1⟩ := trodAll_cons r0
  obtain ⟨v2, vs2, d2, ds2, p2, q2, rfl, rfl, rfl, h2, r2⟩ := trodAll_cons r1
  obtain ⟨v3, vs3, d3, ds3, p3, q3, rfl, rfl, rfl, h3, r3⟩ := trodAll_cons r2
  obtain ⟨rfl, rfl, rfl⟩ := trodAll_nil r3
  obtain rfl : args = #[v0, v1, v2, v3] := by cases args; simp_all
  obtain ⟨rfl, rfl⟩ := trodVars_none hV
  have lt0 : ∀ x ∈ p0, x.block < W.heap.size := by obtain ⟨m, hm⟩ := h0; exact DataW.trod_lt m _ _ _ hm
  have lt1 : ∀ x ∈ p1, x.block < W.heap.size := by obtain ⟨m, hm⟩ := h1; exact DataW.trod_lt m _ _ _ hm
  have lt2 : ∀ x ∈ p2, x.block < W.heap.size := by obtain ⟨m, hm⟩ := h2; exact DataW.trod_lt m _ _ _ hm
  have lt3 : ∀ x ∈ p3, x.block < W.heap.size := by obtain ⟨m, hm⟩ := h3; exact DataW.trod_lt m _ _ _ hm
  obtain ⟨x0, rfl, -, -, wx0⟩ := open_int Try.underlying3 (hval 0 3 v0 rfl rfl) h0
  obtain ⟨a1, len1, cap1, rfl⟩ := okWide_slice Try.underlying22 (hval 1 22 v1 rfl rfl)
  obtain ⟨n1, hn1⟩ := trod_slice_value h1
  obtain ⟨x1, hx1⟩ := opBools hn1
  obtain ⟨x2, rfl, -, -, wx2⟩ := open_int Try.underlying3 (hval 2 3 v2 rfl rfl) h2
  obtain ⟨x3, rfl, -, -, wx3⟩ := open_int Try.underlying3 (hval 3 3 v3 rfl rfl) h3
  clear hA0 hval0
  refine (walk x0 _ x1 x2 x3 W hx1).mono fun e W' ⟨he, bel⟩ => ?_
  subst he
  exact ⟨_, rfl, _, _, _, [], _, [], hW', trodAll_mk1 (shut_bool Try.underlying4 _), (trodAll_cons_mk (Below.trod laidOut (by kernel_rfl) (of_decide_eq_true (by kernel_rfl)) h0 bel lt0) (trodAll_cons_mk (Below.trod laidOut (by kernel_rfl) (of_decide_eq_true (by kernel_rfl)) h1 bel lt1) (trodAll_cons_mk (Below.trod laidOut (by kernel_rfl) (of_decide_eq_true (by kernel_rfl)) h2 bel lt2) (trodAll_cons_mk (Below.trod laidOut (by kernel_rfl) (of_decide_eq_true (by kernel_rfl)) h3 bel lt3) trodAll_mk0)))), rfl, Below.frame bel _, fun h => by cases h⟩
theorem over : Rows.digraphReachesRow.holds Try.pinned (OpenSpec.ofChange Rows.digraphReachesSpec) :=
  OpenClaim.holds_of_wide 3 Try.f3 rfl rfl rfl rfl rfl rfl rfl ⟨rfl, rfl, rfl, rfl, rfl⟩ rfl rfl rfl rfl rfl (by kernel_rfl) Try.func3 (by kernel_rfl)
    (of_decide_eq_true (by kernel_rfl)) (by unfold Func.isWrapper; first | (rw [if_pos (by decide +kernel)]; kernel_rfl) | (rw [if_neg (by decide +kernel)]; exact ⟨rfl, rfl⟩))
    (fun os started H enc _ => lifted os started H enc)
theorem proved : Rows.DigraphReachesSaid := over
end Go.Proofs.Ytlkabhjkncklnaa.lawReaches
