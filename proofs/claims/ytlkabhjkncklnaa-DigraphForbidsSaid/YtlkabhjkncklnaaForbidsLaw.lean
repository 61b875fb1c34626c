
/-
DigraphForbids: for every size and all lists of edges the law returns true and leaves its arguments as they were.
-/
import Derived.Test.YtlkabhjkncklnaaDgOpen
namespace Go.Proofs.Ytlkabhjkncklnaa.lawForbids
set_option linter.unusedSimpArgs false
set_option linter.unusedVariables false
open Go.ChangeShapes Go.WideShapes Go.ChangeAt Go.RowKit

set_option maxHeartbeats 2000000 in
theorem walk (s : Int) (va vb : Value) (es ps : List Bool) (w : World) (ha : Bools w va es) (hb : Bools w vb ps) : Calls Try.prog 5 #[.int .i64 s, va, vb] w fun e w' => e = .returned (.bool true) ∧ Kp w w' := by
  obtain ⟨A, c, rfl, hc, hm⟩ := ha.form
  obtain ⟨B, d, rfl, hd, hn⟩ := hb.form
  have HA := hid ha
  have HB := hid hb
  clear ha hb
  go_enter Try.func5, Try.ntmps5
  go_wp2_with fail
  refine (awake19_any w).mono ?_
  rintro e w1 ⟨rfl, k1⟩
  by_cases h1 : 60 < es.length
  · have e1 : decide (60 < (es.length : Int)) = true := decide_eq_true (by omega)
    go_wp2
    go_ret
    exact ⟨rfl, k1⟩
  · have e1 : decide (60 < (es.length : Int)) = false := decide_eq_false (by omega)
    by_cases h2 : 60 < ps.length
    · have e2 : decide (60 < (ps.length : Int)) = true := decide_eq_true (by omega)
      go_wp2
      go_ret
      exact ⟨rfl, k1⟩
    · have e2 : decide (60 < (ps.length : Int)) = false := decide_eq_false (by omega)
      go_wp2_with fail
      refine (dForbid_any s _ _ es ps w1 (HA.out.keep (pl_stable _) k1) (HB.out.keep (pl_stable _) k1)).mono ?_
      rw [forbPub_eq]
      rintro e w2 ⟨v2, rfl, i2, k2⟩
      have k12 := k1.trans k2
      go_wp2_with fail
      refine (qForbid_any s _ _ es ps w2 (HA.out.keep (pl_stable _) k12) (HB.out.keep (pl_stable _) k12)).mono ?_
      rintro e w3 ⟨v3, rfl, i3, k3⟩
      have k13 := k12.trans k3
      have HI := hid (i2.keep (pl_stable _) k3)
      have HJ := hid i3
      generalize forbQ s es ps = L at *
      obtain ⟨A2, c2, rfl, -, -⟩ := i2.form
      obtain ⟨A3, c3, rfl, -, -⟩ := i3.form
      clear i2 i3
      go_wp2_with fail
      refine (EqualI_any _ _ L L w3 HI.out HJ.out).mono ?_
      rintro e w4 ⟨e4, k4⟩
      rw [decide_eq_true rfl] at e4
      subst e4
      go_wp2
      go_ret
      exact ⟨rfl, k13.trans k4⟩
theorem own : ownKnob Try.prog.godebug = none := by kernel_rfl
theorem laidOut : laidOutB Try.prog = true := by kernel_rfl
set_option maxRecDepth 100000 in
theorem lifted (os : Os) (started : os.Started) (H : Type) (enc : TypeId × Value → H) :
    ReturnsInHanded {} Try.checked os 5 .any (Rows.digraphForbidsSpec.pre6 enc Try.prog Try.f5 Rows.digraphForbidsRow.domain false) (Rows.digraphForbidsSpec.post enc Try.prog Try.f5 false true false false) := by
  refine returnsInHanded_of_change (C := Try.checked) own started (by kernel_rfl) Try.func5
    (ChangeSpec.witness6 (enc := enc) (C := Try.checked) false ⟨#[], #[.int .i64 0, .slice none 0 0, .slice none 0 0], []⟩ 8 (by kernel_rfl) (by kernel_rfl) (by kernel_rfl) (by kernel_rfl)) ?_
  intro W base args ds gs before hval0 hW hcnd _
  have hval : ∀ (j : Nat) t v, Try.f5.params[j]? = some t → args[j]? = some v → Value.okWide Try.prog W .any base t v := hval0
  have hW' := hW
  obtain ⟨p, q, hA0, hV, rfl, hfz, hnd⟩ := hW
  have hA : DataW.TrodAll enc Try.prog W 0 (fun _ => true) true Try.f5.params.toList args.toList ds p := hA0
  rw [Try.params5] at hA hval
  obtain ⟨v0, vs0, d0, ds0, p0, q0, hargs, rfl, rfl, h0, r0⟩ := trodAll_cons hA
  obtain ⟨v1, vs1, d1, ds1, p1, q1, rfl, rfl, rfl, h1, r1⟩ := trodAll_cons r0
  obtain ⟨v2, vs2, d2, ds2, p2, q2, rfl, rfl, rfl, h2, r2⟩ := trodAll_cons r1
  obtain ⟨rfl, rfl, rfl⟩ := trodAll_nil r2
  obtain rfl : args = #[v0, v1, v2] := by cases args; simp_all
  obtain ⟨rfl, rfl⟩ := trodVars_none hV
  have lt0 : ∀ x ∈ p0, x.block < W.heap.size := by obtain ⟨m, hm⟩ := h0; exact DataW.trod_lt m _ _ _ hm
  have lt1 : ∀ x ∈ p1, x.block < W.heap.size := by obtain ⟨m, hm⟩ := h1; exact DataW.trod_lt m _ _ _ hm
  have lt2 : ∀ x ∈ p2, x.block < W.heap.size := by obtain ⟨m, hm⟩ := h2; exact DataW.trod_lt m _ _ _ hm
  obtain ⟨x0, rfl, -, -, wx0⟩ := open_int Try.underlying3 (hval 0 3 v0 rfl rfl) h0
  obtain ⟨a1, len1, cap1, rfl⟩ := okWide_slice Try.underlying22 (hval 1 22 v1 rfl rfl)
  obtain ⟨n1, hn1⟩ := trod_slice_value h1
  obtain ⟨x1, hx1⟩ := opBools hn1
  obtain ⟨a2, len2, cap2, rfl⟩ := okWide_slice Try.underlying22 (hval 2 22 v2 rfl rfl)
  obtain ⟨n2, hn2⟩ := trod_slice_value h2
  obtain ⟨x2, hx2⟩ := opBools hn2
  clear hA0 hval0
  refine (walk x0 _ _ x1 x2 W hx1 hx2).mono fun e W' ⟨he, bel⟩ => ?_
  subst he
  exact ⟨_, rfl, _, _, _, [], _, [], hW', trodAll_mk1 (shut_bool Try.underlying4 _), (trodAll_cons_mk (Below.trod laidOut (by kernel_rfl) (of_decide_eq_true (by kernel_rfl)) h0 bel lt0) (trodAll_cons_mk (Below.trod laidOut (by kernel_rfl) (of_decide_eq_true (by kernel_rfl)) h1 bel lt1) (trodAll_cons_mk (Below.trod laidOut (by kernel_rfl) (of_decide_eq_true (by kernel_rfl)) h2 bel lt2) trodAll_mk0))), rfl, Below.frame bel _, fun h => by cases h⟩
theorem over : Rows.digraphForbidsRow.holds Try.pinned (OpenSpec.ofChange Rows.digraphForbidsSpec) :=
  OpenClaim.holds_of_wide 5 Try.f5 rfl rfl rfl rfl rfl rfl rfl ⟨rfl, rfl, rfl, rfl, rfl⟩ rfl rfl rfl rfl rfl (by kernel_rfl) Try.func5 (by kernel_rfl)
    (of_decide_eq_true (by kernel_rfl)) (by unfold Func.isWrapper; first | (rw [if_pos (by decide +kernel)]; kernel_rfl) | (rw [if_neg (by decide +kernel)]; exact ⟨rfl, rfl⟩))
    (fun os started H enc _ => lifted os started H enc)
theorem proved : Rows.DigraphForbidsSaid := over
end Go.Proofs.Ytlkabhjkncklnaa.lawForbids
