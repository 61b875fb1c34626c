
/-
SearchPropagates: for every system, box and budget the law returns true and leaves its arguments as they were.
-/
import Derived.Test.YtlbhidiliogflaaSfW
import Derived.Test.YtlbhidiliogflaaSrE
import Derived.Test.YtlbhidiliogflaaSysOpen
namespace Go.Proofs.Ytlbhidiliogflaa.lawPropagates
set_option linter.unusedSimpArgs false
set_option linter.unusedVariables false
open Go.ChangeShapes Go.WideShapes Go.ChangeAt Go.RowKit

set_option maxRecDepth 10000 in
set_option maxHeartbeats 8000000 in
theorem walk (va vb : Value) (s : Sys) (box : List Rng) (bud : Int) (w : World) (hs : SysV w va s) (hbx : Rngs w vb box) :
    Calls Try.prog 3 #[va, vb, .int .i64 bud] w fun e w' => e = .returned (.bool true) ∧ Kp w w' := by
  have hs' := hs
  obtain ⟨Ab, cb, Ar, cr, Ag, cg, Ac, cc, rfl, hb, hr, hg, hc⟩ := hs'
  obtain ⟨l1, m1⟩ := hb.caps
  obtain ⟨l2, m2⟩ := hr.caps
  obtain ⟨l3, m3⟩ := hg.caps
  obtain ⟨l4, m4⟩ := hc.caps
  obtain ⟨Ax, cx, rfl, hx1, hx2⟩ := hbx.form
  have K := (Kp.refl w).alloc (.cells #[.slice Ab s.box.length cb, .slice Ar s.rows.length cr, .slice Ag s.graphs.length cg, .slice Ac s.cases.length cc] 27)
  have B := SysB.new w #[.slice Ab s.box.length cb, .slice Ar s.rows.length cr, .slice Ag s.graphs.length cg, .slice Ac s.cases.length cc] 27
  go_enter Try.func3, Try.ntmps3
  go_wp2_with fail
  generalize w.alloc (.cells #[.slice Ab s.box.length cb, .slice Ar s.rows.length cr, .slice Ag s.graphs.length cg, .slice Ac s.cases.length cc] 27) = w0 at *
  generalize hb0 : w.heap.size = b0 at *
  replace hb0 := hid hb0
  refine (awake20_any _).mono ?_
  rintro e w1 ⟨rfl, k1⟩
  replace B := B.keep k1
  replace K := K.trans k1
  clear k1
  obtain ⟨s0, s1, s2, s3⟩ := B.cells
  have hgl := block_lt_of_cell s0
  go_wp2_with fail
  refine (lawFew_any _ s 2000 _ (hs.keep K)).mono ?_
  rintro e w2 ⟨rfl, k2⟩
  clear s0 s1 s2 s3 hgl
  replace B := B.keep k2
  replace K := K.trans k2
  obtain ⟨s0, s1, s2, s3⟩ := B.cells
  have hgl := block_lt_of_cell s0
  cases hF : fewL s 2000 with
  | false =>
    clear hF
    go_wp2
    go_ret
    exact ⟨rfl, K⟩
  | true =>
    clear hF
    by_cases h20 : 20 < box.length
    · have e1 : decide ((20 : Int) < (box.length : Int)) = true := decide_eq_true (by omega)
      have e1' : decide (20 < box.length) = true := decide_eq_true h20
      go_wp2
      go_ret
      exact ⟨rfl, K⟩
    · have e1 : decide ((20 : Int) < (box.length : Int)) = false := decide_eq_false (by omega)
      have e1' : decide (20 < box.length) = false := decide_eq_false h20
      go_wp2_with fail
      refine (rSize_any _ box _ (hbx.keep (pl_stable _) K)).mono ?_
      rintro e w3 ⟨rfl, k3⟩
      clear s0 s1 s2 s3 hgl
      replace B := B.keep k3
      replace K := K.trans k3
      obtain ⟨s0, s1, s2, s3⟩ := B.cells
      have hgl := block_lt_of_cell s0
      generalize sizeB box = z at *
      by_cases hz : 2000 < z
      · have e2 : decide (2000 < z) = true := decide_eq_true hz
        go_wp2
        go_ret
        exact ⟨rfl, K⟩
      · have e2 : decide (2000 < z) = false := decide_eq_false hz
        obtain ⟨R, hR⟩ : ∃ R, Hid (propR s box bud = R) := ⟨_, hid rfl⟩
        obtain ⟨st, bx, o, er⟩ := R
        clear hz
        go_wp2_with fail
        refine (Propagate_any _ _ s box bud _ (hs.keep K) (hbx.keep (pl_stable _) K)).mono ?_
        rw [hR.out]
        rintro e w4 ⟨v1, v2, rfl, h1, h2, k4⟩
        obtain ⟨A1, c1, rfl, -, -⟩ := h1.form
        obtain ⟨A2, c2, rfl, -, -⟩ := h2.form
        replace h1 := hid h1
        replace h2 := hid h2
        dsimp only at *
        clear s0 s1 s2 s3 hgl
        replace B := B.keep k4
        replace K := K.trans k4
        obtain ⟨s0, s1, s2, s3⟩ := B.cells
        have hgl := block_lt_of_cell s0
        go_wp2_with fail
        refine (rPropagate_any _ _ s box bud _ (hs.keep K) (hbx.keep (pl_stable _) K)).mono ?_
        rw [hR.out]
        rintro e w5 ⟨v3, v4, rfl, h3, h4, k5⟩
        obtain ⟨A3, c3, rfl, -, -⟩ := h3.form
        obtain ⟨A4, c4, rfl, -, -⟩ := h4.form
        replace h3 := hid h3
        replace h4 := hid h4
        dsimp only at *
        clear s0 s1 s2 s3 hgl
        replace B := B.keep k5
        replace K := K.trans k5
        obtain ⟨s0, s1, s2, s3⟩ := B.cells
        have hgl := block_lt_of_cell s0
        have eo : (o == o) = true := by simp
        go_wp2_with fail
        refine (EqualStp_refl _ _ st w5 (h1.out.keep (pl_stable _) k5) h3.out).mono ?_
        rintro e w6 ⟨rfl, k6⟩
        replace K := K.trans k6
        go_wp2_with fail
        refine (EqualRange_any _ _ bx bx w6 (h2.out.keep (pl_stable _) (k5.trans k6)) (h4.out.keep (pl_stable _) k6)).mono ?_
        rintro e w7 ⟨rfl, k7⟩
        rw [(eqR_iff bx bx).2 rfl]
        replace K := K.trans k7
        go_wp2
        go_ret
        exact ⟨rfl, K⟩
theorem own : ownKnob Try.prog.godebug = none := by kernel_rfl
theorem laidOut : laidOutB Try.prog = true := by kernel_rfl
set_option maxRecDepth 100000 in
theorem lifted (os : Os) (started : os.Started) (H : Type) (enc : TypeId × Value → H) :
    ReturnsInHanded {} Try.checked os 3 .any (Rows.searchPropagatesSpec.pre6 enc Try.prog Try.f3 Rows.searchPropagatesRow.domain false) (Rows.searchPropagatesSpec.post enc Try.prog Try.f3 false true false false) := by
  refine returnsInHanded_of_change (C := Try.checked) own started (by kernel_rfl) Try.func3
    (ChangeSpec.witness6 (enc := enc) (C := Try.checked) false ⟨#[], #[.agg #[.slice none 0 0, .slice none 0 0, .slice none 0 0, .slice none 0 0], .slice none 0 0, .int .i64 0], []⟩ 8 (by kernel_rfl) (by kernel_rfl) (by kernel_rfl) (by kernel_rfl)) ?_
  intro W base args ds gs before hval0 hW hcnd _
  have hval : ∀ (j : Nat) t v, Try.f3.params[j]? = some t → args[j]? = some v → Value.okWide Try.prog W .any base t v := hval0
  have hW' := hW
  obtain ⟨p, q, hA0, hV, rfl, hfz, hnd⟩ := hW
  have hA : DataW.TrodAll enc Try.prog W 0 (fun _ => true) true Try.f3.params.toList args.toList ds p := hA0
  rw [Try.params3] at hA hval
  obtain ⟨v0, vs0, d0, ds0, p0, q0, hargs, rfl, rfl, h0, r0⟩ := trodAll_cons hA
  obtain ⟨v1, vs1, d1, ds1, p1, q1, rfl, rfl, rfl, h1, r1⟩ := trodAll_cons r0
  obtain ⟨v2, vs2, d2, ds2, p2, q2, rfl, rfl, rfl, h2, r2⟩ := trodAll_cons r1
  obtain ⟨rfl, rfl, rfl⟩ := trodAll_nil r2
  obtain rfl : args = #[v0, v1, v2] := by cases args; simp_all
  obtain ⟨rfl, rfl⟩ := trodVars_none hV
  have lt0 : ∀ x ∈ p0, x.block < W.heap.size := by obtain ⟨m, hm⟩ := h0; exact DataW.trod_lt m _ _ _ hm
  have lt1 : ∀ x ∈ p1, x.block < W.heap.size := by obtain ⟨m, hm⟩ := h1; exact DataW.trod_lt m _ _ _ hm
  have lt2 : ∀ x ∈ p2, x.block < W.heap.size := by obtain ⟨m, hm⟩ := h2; exact DataW.trod_lt m _ _ _ hm
  obtain ⟨s0, hs0⟩ := opSys (hval 0 27 v0 rfl rfl) h0
  obtain ⟨a1, len1, cap1, rfl⟩ := okWide_slice Try.underlying22 (hval 1 22 v1 rfl rfl)
  obtain ⟨n1, hn1⟩ := trod_slice_value h1
  obtain ⟨x1, hx1⟩ := opRngs hn1
  obtain ⟨x2, rfl, -, -, wx2⟩ := open_int Try.underlying3 (hval 2 3 v2 rfl rfl) h2
  clear hA0 hval0
  refine (walk _ _ s0 x1 x2 W hs0 hx1).mono fun e W' ⟨he, bel⟩ => ?_
  subst he
  exact ⟨_, rfl, _, _, _, [], _, [], hW', trodAll_mk1 (shut_bool Try.underlying4 _), (trodAll_cons_mk (Below.trod laidOut (by kernel_rfl) (of_decide_eq_true (by kernel_rfl)) h0 bel lt0) (trodAll_cons_mk (Below.trod laidOut (by kernel_rfl) (of_decide_eq_true (by kernel_rfl)) h1 bel lt1) (trodAll_cons_mk (Below.trod laidOut (by kernel_rfl) (of_decide_eq_true (by kernel_rfl)) h2 bel lt2) trodAll_mk0))), rfl, Below.frame bel _, fun h => by cases h⟩
theorem over : Rows.searchPropagatesRow.holds Try.pinned (OpenSpec.ofChange Rows.searchPropagatesSpec) :=
  OpenClaim.holds_of_wide 3 Try.f3 rfl rfl rfl rfl rfl rfl rfl ⟨rfl, rfl, rfl, rfl, rfl⟩ rfl rfl rfl rfl rfl (by kernel_rfl) Try.func3 (by kernel_rfl)
    (of_decide_eq_true (by kernel_rfl)) (by unfold Func.isWrapper; first | (rw [if_pos (by decide +kernel)]; kernel_rfl) | (rw [if_neg (by decide +kernel)]; exact ⟨rfl, rfl⟩))
    (fun os started H enc _ => lifted os started H enc)
theorem proved : Rows.SearchPropagatesSaid := over
end Go.Proofs.Ytlbhidiliogflaa.lawPropagates
