
/-
IntervalFixes: for every box and rows the law returns true and leaves its arguments as they were.
-/
import Derived.Test.YtmecjjfpgjpeoaaAwake
import Derived.Test.YtmecjjfpgjpeoaaIntOpen
namespace Go.Proofs.Ytmecjjfpgjpeoaa.lawFixes
open Go.ChangeShapes Go.WideShapes Go.ChangeAt Go.RowKit

set_option maxHeartbeats 1000000 in
theorem walk (vb vr : Value) (b : List Rng) (rows : List Row) (w : World) (hb : Rngs w vb b) (hr : RowsL w vr rows) :
    Calls Try.prog 6 #[vb, vr] w fun e w' => e = .returned (.bool true) ∧ Kp w w' := by
  obtain ⟨A, c, rfl, hc, hm⟩ := hb.form
  obtain ⟨A', c', rfl, hc', hm'⟩ := hr.form
  go_enter Try.func6, Try.ntmps6
  go_wp2_with fail
  refine (awake_any _).mono ?_
  rintro e w1 ⟨rfl, hbel1⟩
  go_wp2_with fail
  refine (light_any _ _ b rows _ (hb.keep (pl_stable _) hbel1) (hr.keep rdRow_stable hbel1)).mono ?_
  rintro e w2 ⟨rfl, hk2⟩
  have hbel2 := (hbel1).trans hk2
  cases hl : lightB b rows with
  | false =>
    go_wp2
    go_ret
    exact ⟨rfl, hbel2⟩
  | true =>
    clear hl
    go_wp2_with fail
    refine (Fix_any _ _ b rows _ (hb.keep (pl_stable _) hbel2) (hr.keep rdRow_stable hbel2)).mono ?_
    rintro e w3 ⟨v3, rfl, own3, hk3⟩
    have hbel3 := hbel2.trans hk3
    have S3 := own3.sl encRng_len
    clear own3
    go_wp2_with fail
    refine (rFix_any _ _ b rows _ (hb.keep (pl_stable _) hbel3) (hr.keep rdRow_stable hbel3)).mono ?_
    rintro e w4 ⟨v4, rfl, own4, hk4⟩
    have hbel4 := hbel3.trans hk4
    have S4 := own4.sl encRng_len
    have S3' := S3.keep (pl_stable _) hk4
    clear own4 S3
    generalize (fixB b rows).isSome = x at *
    generalize (fixB b rows).getD [] = L at *
    go_wp2_with fail
    refine (EqualRange_any _ _ L L _ S3' S4).mono ?_
    rintro e w5 ⟨rfl, hk5⟩
    rw [(eqR_iff L L).2 rfl]
    go_wp2
    go_ret
    exact ⟨rfl, hbel4.trans hk5⟩

theorem own : ownKnob Try.prog.godebug = none := by kernel_rfl
theorem laidOut : laidOutB Try.prog = true := by kernel_rfl
set_option maxRecDepth 100000 in
theorem lifted (os : Os) (started : os.Started) (H : Type) (enc : TypeId × Value → H) :
    ReturnsInHanded {} Try.checked os 6 .any (Rows.intervalFixesSpec.pre6 enc Try.prog Try.f6 Rows.intervalFixesRow.domain false) (Rows.intervalFixesSpec.post enc Try.prog Try.f6 false true false false) := by
  refine returnsInHanded_of_change (C := Try.checked) own started (by kernel_rfl) Try.func6
    (ChangeSpec.witness6 (enc := enc) (C := Try.checked) false ⟨#[], #[.slice none 0 0, .slice none 0 0], []⟩ 8 (by kernel_rfl) (by kernel_rfl) (by kernel_rfl) (by kernel_rfl)) ?_
  intro W base args ds gs before hval0 hW hcnd _
  have hval : ∀ (j : Nat) t v, Try.f6.params[j]? = some t → args[j]? = some v → Value.okWide Try.prog W .any base t v := hval0
  have hW' := hW
  obtain ⟨p, q, hA0, hV, rfl, hfz, hnd⟩ := hW
  have hA : DataW.TrodAll enc Try.prog W 0 (fun _ => true) true Try.f6.params.toList args.toList ds p := hA0
  rw [Try.params6] at hA hval
  obtain ⟨v0, vs0, d0, ds0, p0, q0, hargs, rfl, rfl, h0, r0⟩ := trodAll_cons hA
  obtain ⟨v1, vs1, d1, ds1, p1, q1, rfl, rfl, rfl, h1, r1⟩ := trodAll_cons r0
  obtain ⟨rfl, rfl, rfl⟩ := trodAll_nil r1
  obtain rfl : args = #[v0, v1] := by cases args; simp_all
  obtain ⟨rfl, rfl⟩ := trodVars_none hV
  have lt0 : ∀ x ∈ p0, x.block < W.heap.size := by obtain ⟨m, hm⟩ := h0; exact DataW.trod_lt m _ _ _ hm
  have lt1 : ∀ x ∈ p1, x.block < W.heap.size := by obtain ⟨m, hm⟩ := h1; exact DataW.trod_lt m _ _ _ hm
  obtain ⟨a0, len0, cap0, rfl⟩ := okWide_slice Try.underlying22 (hval 0 22 v0 rfl rfl)
  obtain ⟨n0, hn0⟩ := trod_slice_value h0
  obtain ⟨x0, hx0⟩ := opRngs hn0
  obtain ⟨a1, len1, cap1, rfl⟩ := okWide_slice Try.underlying23 (hval 1 23 v1 rfl rfl)
  obtain ⟨n1, hn1⟩ := trod_slice_value h1
  obtain ⟨x1, hx1⟩ := opRows hn1
  clear hA0 hval0
  refine (walk _ _ x0 x1 W hx0 hx1).mono fun e W' ⟨he, bel⟩ => ?_
  subst he
  exact ⟨_, rfl, _, _, _, [], _, [], hW', trodAll_mk1 (shut_bool Try.underlying4 _), (trodAll_cons_mk (Below.trod laidOut (by kernel_rfl) (of_decide_eq_true (by kernel_rfl)) h0 bel lt0) (trodAll_cons_mk (Below.trod laidOut (by kernel_rfl) (of_decide_eq_true (by kernel_rfl)) h1 bel lt1) trodAll_mk0)), rfl, Below.frame bel _, fun h => by cases h⟩
theorem over : Rows.intervalFixesRow.holds Try.pinned (OpenSpec.ofChange Rows.intervalFixesSpec) :=
  OpenClaim.holds_of_wide 6 Try.f6 rfl rfl rfl rfl rfl rfl rfl ⟨rfl, rfl, rfl, rfl, rfl⟩ rfl rfl rfl rfl rfl (by kernel_rfl) Try.func6 (by kernel_rfl)
    (of_decide_eq_true (by kernel_rfl)) (by unfold Func.isWrapper; first | (rw [if_pos (by decide +kernel)]; kernel_rfl) | (rw [if_neg (by decide +kernel)]; exact ⟨rfl, rfl⟩))
    (fun os started H enc _ => lifted os started H enc)
theorem proved : Rows.IntervalFixesSaid := over
end Go.Proofs.Ytmecjjfpgjpeoaa.lawFixes
