
/-
SystemCounts: for every system the law returns true and leaves its argument as it was.
-/
import Derived.Test.YtfllmnaillilhaaAwake18
import Derived.Test.YtfllmnaillilhaaCut18
import Derived.Test.YtfllmnaillilhaaFew
import Derived.Test.YtfllmnaillilhaaRefS16
import Derived.Test.YtfllmnaillilhaaSysOpen
namespace Go.Proofs.Ytfllmnaillilhaa
set_option linter.unusedSimpArgs false
set_option linter.unusedVariables false
open Go.RowKit

theorem sols_len {s : Sys} (h : validS s = true) : (solsL s).length = cntS (solvesB s) s.box := by
  unfold solsL cntS
  rw [h, if_pos rfl, ← List.countP_eq_length_filter]
  refine List.countP_congr fun vs hvs => ?_
  have hc : containsB s.box vs = true := (inB_iff _ _).1 ((allS_mem s.box vs).1 hvs)
  unfold holdsS
  rw [h, hc]
  simp
set_option maxRecDepth 8000 in
set_option maxHeartbeats 1600000 in
theorem qCount_any (va : Value) (s : Sys) (w : World) (hs : SysV w va s) :
    Calls Try.prog 21 #[va] w fun e w' => e = .returned (.tuple #[.int .i64 (CountR s).1, .int .i64 (CountR s).2]) ∧ Kp w w' := by
  have hs' := hs
  obtain ⟨Ab, cb, Ar, cr, Ag, cg, Ac, cc, rfl, hb, hr, hg, hc⟩ := hs'
  obtain ⟨l1, m1⟩ := hb.caps
  obtain ⟨l2, m2⟩ := hr.caps
  obtain ⟨l3, m3⟩ := hg.caps
  obtain ⟨l4, m4⟩ := hc.caps
  have k0 := (Kp.refl w).alloc (.cells #[.slice Ab s.box.length cb, .slice Ar s.rows.length cr, .slice Ag s.graphs.length cg, .slice Ac s.cases.length cc] 27)
  have B0 := SysB.new w #[.slice Ab s.box.length cb, .slice Ar s.rows.length cr, .slice Ag s.graphs.length cg, .slice Ac s.cases.length cc] 27
  have z0 := alloc_lt w (.cells #[.slice Ab s.box.length cb, .slice Ar s.rows.length cr, .slice Ag s.graphs.length cg, .slice Ac s.cases.length cc] 27)
  go_enter Try.func21, Try.ntmps21
  go_wp2_with fail
  try rw [← World.size_alloc w (.cells #[.slice Ab s.box.length cb, .slice Ar s.rows.length cr, .slice Ag s.graphs.length cg, .slice Ac s.cases.length cc] 27)]
  generalize w.alloc (.cells #[.slice Ab s.box.length cb, .slice Ar s.rows.length cr, .slice Ag s.graphs.length cg, .slice Ac s.cases.length cc] 27) = w0 at *
  generalize w.heap.size = b0 at *
  refine (qValid_any _ s _ (hs.keep k0)).mono ?_
  rintro e w1 ⟨rfl, k1⟩
  replace B0 := B0.keep k1
  replace k1 := k0.trans k1
  obtain ⟨c0, c1, c2, c3⟩ := B0.cells
  have hgl := block_lt_of_cell c0
  cases hV : validS s with
  | false =>
    have HN := hid (CountR_0 hV)
    clear hV
    go_wp2
    go_ret2
    exact ⟨by rw [HN.out]; rfl, k1⟩
  | true =>
    go_wp2_with fail
    refine (rSize_any _ s.box _ (hb.keep (pl_stable _) k1)).mono ?_
    rintro e w2 ⟨rfl, k2⟩
    replace B0 := B0.keep k2
    replace k2 := k1.trans k2
    clear c0 c1 c2 c3 hgl k1
    obtain ⟨c0, c1, c2, c3⟩ := B0.cells
    have hgl := block_lt_of_cell c0
    by_cases hsz : 65536 < sizeB s.box
    · have HN := hid (CountR_1 hV hsz)
      have e1 : decide (65536 < sizeB s.box) = true := decide_eq_true hsz
      clear hV hsz
      generalize sizeB s.box = z at *
      go_wp2
      go_ret2
      exact ⟨by rw [HN.out]; rfl, k2⟩
    · have HN := hid (CountR_2 hV hsz)
      have HL := hid (sols_len hV)
      have HZ := hid (show validS s = true → sizeB s.box ≤ 65536 from fun _ => by omega)
      have e1 : decide (65536 < sizeB s.box) = false := decide_eq_false hsz
      clear hV hsz
      generalize hz : sizeB s.box = z at *
      replace hz := hid hz
      go_wp2_with fail
      refine (qSolutions_any _ s _ (hs.keep k2) (fun h => by rw [hz.out]; exact HZ.out h)).mono ?_
      rintro e w3 ⟨v, rfl, hS, k3⟩
      obtain ⟨A3, c3', rfl, _, _⟩ := hS.form
      rw [HL.out]
      generalize cntS (solvesB s) s.box = n at *
      go_wp2
      go_ret2
      exact ⟨by rw [HN.out]; rfl, k2.trans k3⟩
end Go.Proofs.Ytfllmnaillilhaa
namespace Go.Proofs.Ytfllmnaillilhaa.lawCounts18
open Go.ChangeShapes Go.WideShapes Go.ChangeAt Go.RowKit

set_option maxRecDepth 10000 in
set_option maxHeartbeats 8000000 in
theorem walk (va : Value) (s : Sys) (w : World) (hs : SysV w va s) :
    Calls Try.prog 4 #[va] w fun e w' => e = .returned (.bool true) ∧ Kp w w' := by
  have hs' := hs
  obtain ⟨Ab, cb, Ar, cr, Ag, cg, Ac, cc, rfl, hb, hr, hg, hc⟩ := hs'
  obtain ⟨l1, m1⟩ := hb.caps
  obtain ⟨l2, m2⟩ := hr.caps
  obtain ⟨l3, m3⟩ := hg.caps
  obtain ⟨l4, m4⟩ := hc.caps
  have K := (Kp.refl w).alloc (.cells #[.slice Ab s.box.length cb, .slice Ar s.rows.length cr, .slice Ag s.graphs.length cg, .slice Ac s.cases.length cc] 27)
  have B := SysB.new w #[.slice Ab s.box.length cb, .slice Ar s.rows.length cr, .slice Ag s.graphs.length cg, .slice Ac s.cases.length cc] 27
  go_enter Try.func4, Try.ntmps4
  go_wp2_with fail
  generalize w.alloc (.cells #[.slice Ab s.box.length cb, .slice Ar s.rows.length cr, .slice Ag s.graphs.length cg, .slice Ac s.cases.length cc] 27) = w0 at *
  generalize hb0 : w.heap.size = b0 at *
  replace hb0 := hid hb0
  refine (awake18_any _).mono ?_
  rintro e w1 ⟨rfl, k1⟩
  replace B := B.keep k1
  replace K := K.trans k1
  clear k1
  obtain ⟨s0, s1, s2, s3⟩ := B.cells
  have hgl := block_lt_of_cell s0
  go_wp2_with fail
  refine (cut18_any _ s _ (hs.keep K)).mono ?_
  rintro e w2 ⟨rfl, k2⟩
  clear s0 s1 s2 s3 hgl
  replace B := B.keep k2
  replace K := K.trans k2
  clear k2
  obtain ⟨s0, s1, s2, s3⟩ := B.cells
  have hgl := block_lt_of_cell s0
  cases hC : cutB s with
  | false =>
    go_wp2
    go_ret
    exact ⟨rfl, K⟩
  | true =>
    clear hC
    go_wp2_with fail
    refine (qValid_any _ s _ (hs.keep K)).mono ?_
    rintro e w3 ⟨rfl, k3⟩
    clear s0 s1 s2 s3 hgl
    replace B := B.keep k3
    replace K := K.trans k3
    clear k3
    obtain ⟨s0, s1, s2, s3⟩ := B.cells
    have hgl := block_lt_of_cell s0
    cases hV : validS s with
    | false =>
      clear hV
      go_wp2_with fail
      refine (sCount_any _ s _ (hs.keep K)).mono ?_
      generalize hx : CountR s = x at *
      replace hx := hid hx
      obtain ⟨n, er⟩ := x
      rintro e w7 ⟨rfl, k7⟩
      clear s0 s1 s2 s3 hgl
      replace B := B.keep k7
      replace K := K.trans k7
      clear k7
      obtain ⟨s0, s1, s2, s3⟩ := B.cells
      have hgl := block_lt_of_cell s0
      go_wp2_with fail
      refine (qCount_any _ s _ (hs.keep K)).mono ?_
      rw [hx.out]
      rintro e w8 ⟨rfl, k8⟩
      clear s0 s1 s2 s3 hgl
      replace B := B.keep k8
      replace K := K.trans k8
      clear k8
      obtain ⟨s0, s1, s2, s3⟩ := B.cells
      have hgl := block_lt_of_cell s0
      clear hx
      go_wp2
      go_ret
      exact ⟨rfl, K⟩
    | true =>
      clear hV
      go_wp2_with fail
      refine (qFew_any _ s 2000 _ (hs.keep K)).mono ?_
      rintro e w4 ⟨rfl, k4⟩
      clear s0 s1 s2 s3 hgl
      replace B := B.keep k4
      replace K := K.trans k4
      clear k4
      obtain ⟨s0, s1, s2, s3⟩ := B.cells
      have hgl := block_lt_of_cell s0
      cases hF : fewB s 2000 with
      | true =>
        clear hF
        go_wp2_with fail
        refine (sCount_any _ s _ (hs.keep K)).mono ?_
        generalize hx : CountR s = x at *
        replace hx := hid hx
        obtain ⟨n, er⟩ := x
        rintro e w7 ⟨rfl, k7⟩
        clear s0 s1 s2 s3 hgl
        replace B := B.keep k7
        replace K := K.trans k7
        clear k7
        obtain ⟨s0, s1, s2, s3⟩ := B.cells
        have hgl := block_lt_of_cell s0
        go_wp2_with fail
        refine (qCount_any _ s _ (hs.keep K)).mono ?_
        rw [hx.out]
        rintro e w8 ⟨rfl, k8⟩
        clear s0 s1 s2 s3 hgl
        replace B := B.keep k8
        replace K := K.trans k8
        clear k8
        obtain ⟨s0, s1, s2, s3⟩ := B.cells
        have hgl := block_lt_of_cell s0
        clear hx
        go_wp2
        go_ret
        exact ⟨rfl, K⟩
      | false =>
        clear hF
        go_wp2_with fail
        refine (rSize_any _ s.box _ (hb.keep (pl_stable _) K)).mono ?_
        rintro e w5 ⟨rfl, k5⟩
        clear s0 s1 s2 s3 hgl
        replace B := B.keep k5
        replace K := K.trans k5
        clear k5
        obtain ⟨s0, s1, s2, s3⟩ := B.cells
        have hgl := block_lt_of_cell s0
        generalize sizeB s.box = z at *
        by_cases hz : z ≤ 65536
        · have e1 : decide (z ≤ 65536) = true := decide_eq_true hz
          go_wp2
          go_ret
          exact ⟨rfl, K⟩
        · have e1 : decide (z ≤ 65536) = false := decide_eq_false hz
          clear hz
          go_wp2_with fail
          refine (sCount_any _ s _ (hs.keep K)).mono ?_
          generalize hx : CountR s = x at *
          replace hx := hid hx
          obtain ⟨n, er⟩ := x
          rintro e w7 ⟨rfl, k7⟩
          clear s0 s1 s2 s3 hgl
          replace B := B.keep k7
          replace K := K.trans k7
          clear k7
          obtain ⟨s0, s1, s2, s3⟩ := B.cells
          have hgl := block_lt_of_cell s0
          go_wp2_with fail
          refine (qCount_any _ s _ (hs.keep K)).mono ?_
          rw [hx.out]
          rintro e w8 ⟨rfl, k8⟩
          clear s0 s1 s2 s3 hgl
          replace B := B.keep k8
          replace K := K.trans k8
          clear k8
          obtain ⟨s0, s1, s2, s3⟩ := B.cells
          have hgl := block_lt_of_cell s0
          clear hx
          go_wp2
          go_ret
          exact ⟨rfl, K⟩
theorem own : ownKnob Try.prog.godebug = none := by kernel_rfl
theorem laidOut : laidOutB Try.prog = true := by kernel_rfl
set_option maxRecDepth 100000 in
theorem lifted (os : Os) (started : os.Started) (H : Type) (enc : TypeId × Value → H) :
    ReturnsInHanded {} Try.checked os 4 .any (Rows.systemCountsSpec.pre6 enc Try.prog Try.f4 Rows.systemCountsRow.domain false) (Rows.systemCountsSpec.post enc Try.prog Try.f4 false true false false) := by
  refine returnsInHanded_of_change (C := Try.checked) own started (by kernel_rfl) Try.func4
    (ChangeSpec.witness6 (enc := enc) (C := Try.checked) false ⟨#[], #[.agg #[.slice none 0 0, .slice none 0 0, .slice none 0 0, .slice none 0 0]], []⟩ 8 (by kernel_rfl) (by kernel_rfl) (by kernel_rfl) (by kernel_rfl)) ?_
  intro W base args ds gs before hval0 hW hcnd _
  have hval : ∀ (j : Nat) t v, Try.f4.params[j]? = some t → args[j]? = some v → Value.okWide Try.prog W .any base t v := hval0
  have hW' := hW
  obtain ⟨p, q, hA0, hV, rfl, hfz, hnd⟩ := hW
  have hA : DataW.TrodAll enc Try.prog W 0 (fun _ => true) true Try.f4.params.toList args.toList ds p := hA0
  rw [Try.params4] at hA hval
  obtain ⟨v0, vs0, d0, ds0, p0, q0, hargs, rfl, rfl, h0, r0⟩ := trodAll_cons hA
  obtain ⟨rfl, rfl, rfl⟩ := trodAll_nil r0
  obtain rfl : args = #[v0] := by cases args; simp_all
  obtain ⟨rfl, rfl⟩ := trodVars_none hV
  have lt0 : ∀ x ∈ p0, x.block < W.heap.size := by obtain ⟨m, hm⟩ := h0; exact DataW.trod_lt m _ _ _ hm
  obtain ⟨s0, hs0⟩ := opSys (hval 0 27 v0 rfl rfl) h0
  clear hA0 hval0
  refine (walk _ s0 W hs0).mono fun e W' ⟨he, bel⟩ => ?_
  subst he
  exact ⟨_, rfl, _, _, _, [], _, [], hW', trodAll_mk1 (shut_bool Try.underlying4 _), (trodAll_cons_mk (Below.trod laidOut (by kernel_rfl) (of_decide_eq_true (by kernel_rfl)) h0 bel lt0) trodAll_mk0), rfl, Below.frame bel _, fun h => by cases h⟩
theorem over : Rows.systemCountsRow.holds Try.pinned (OpenSpec.ofChange Rows.systemCountsSpec) :=
  OpenClaim.holds_of_wide 4 Try.f4 rfl rfl rfl rfl rfl rfl rfl ⟨rfl, rfl, rfl, rfl, rfl⟩ rfl rfl rfl rfl rfl (by kernel_rfl) Try.func4 (by kernel_rfl)
    (of_decide_eq_true (by kernel_rfl)) (by unfold Func.isWrapper; first | (rw [if_pos (by decide +kernel)]; kernel_rfl) | (rw [if_neg (by decide +kernel)]; exact ⟨rfl, rfl⟩))
    (fun os started H enc _ => lifted os started H enc)
theorem proved : Rows.SystemCountsSaid := over
end Go.Proofs.Ytfllmnaillilhaa.lawCounts18
