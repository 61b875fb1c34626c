
/-
SystemParts: for every system, cell, value and index the law returns true and leaves its arguments as they were.
-/
import Derived.Test.YtfllmnaillilhaaAwake18
import Derived.Test.YtfllmnaillilhaaCut18
import Derived.Test.YtfllmnaillilhaaSys23
import Derived.Test.YtfllmnaillilhaaRefS10
import Derived.Test.YtfllmnaillilhaaRefS11
import Derived.Test.YtfllmnaillilhaaSysOpen
namespace Go.Proofs.Ytfllmnaillilhaa.lawParts18
set_option linter.unusedSimpArgs false
set_option linter.unusedVariables false
open Go.ChangeShapes Go.WideShapes Go.ChangeAt Go.RowKit

set_option maxRecDepth 10000 in
set_option maxHeartbeats 8000000 in
theorem walk (va : Value) (s : Sys) (c x i : Int) (w : World) (hs : SysV w va s) :
    Calls Try.prog 8 #[va, .int .i64 c, .int .i64 x, .int .i64 i] w fun e w' => e = .returned (.bool true) ∧ Kp w w' := by
  have hs' := hs
  obtain ⟨Ab, cb, Ar, cr, Ag, cg, Ac, cc, rfl, hb, hr, hg, hc⟩ := hs'
  obtain ⟨l1, m1⟩ := hb.caps
  obtain ⟨l2, m2⟩ := hr.caps
  obtain ⟨l3, m3⟩ := hg.caps
  obtain ⟨l4, m4⟩ := hc.caps
  have K := (Kp.refl w).alloc (.cells #[.slice Ab s.box.length cb, .slice Ar s.rows.length cr, .slice Ag s.graphs.length cg, .slice Ac s.cases.length cc] 27)
  have B := SysB.new w #[.slice Ab s.box.length cb, .slice Ar s.rows.length cr, .slice Ag s.graphs.length cg, .slice Ac s.cases.length cc] 27
  go_enter Try.func8, Try.ntmps8
  go_wp2_with fail
  generalize w.alloc (.cells #[.slice Ab s.box.length cb, .slice Ar s.rows.length cr, .slice Ag s.graphs.length cg, .slice Ac s.cases.length cc] 27) = w0 at *
  generalize hb0 : w.heap.size = b0 at *
  replace hb0 := hid hb0
  refine (awake18_any _).mono ?_
  rintro e w1 ⟨rfl, k1⟩
  replace B := B.keep k1
  replace K := K.trans k1
  obtain ⟨s0, s1, s2, s3⟩ := B.cells
  have hgl := block_lt_of_cell s0
  go_wp2_with fail
  refine (cut18_any _ s _ (hs.keep K)).mono ?_
  rintro e w2 ⟨rfl, k2⟩
  clear s0 s1 s2 s3 hgl
  replace B := B.keep (k2)
  replace K := K.trans (k2)
  obtain ⟨s0, s1, s2, s3⟩ := B.cells
  have hgl := block_lt_of_cell s0
  cases hC : cutB s with
  | false =>
    go_wp2
    go_ret
    exact ⟨rfl, K⟩
  | true =>
    clear hC
    go_wp2_with fail
    refine (sSubstitute_any _ s c x _ (hs.keep K)).mono ?_
    generalize hx : SubR s c x = sx at *
    replace hx := hid hx
    obtain ⟨sx, er⟩ := sx
    rintro e w3 ⟨v3, rfl, s3', k3⟩
    dsimp only at s3' ⊢
    obtain ⟨A3, a3, B3, b3, C3, c3, D3, d3, rfl, q1, q2, q3, q4⟩ := s3'
    have kA := (k3).trans ((Kp.refl w3).alloc (.cells #[.slice A3 sx.box.length a3, .slice B3 sx.rows.length b3, .slice C3 sx.graphs.length c3, .slice D3 sx.cases.length d3] 27))
    have S3 : SysV _ _ sx := SysV.keep ⟨A3, a3, B3, b3, C3, c3, D3, d3, rfl, q1, q2, q3, q4⟩ ((Kp.refl w3).alloc (.cells #[.slice A3 sx.box.length a3, .slice B3 sx.rows.length b3, .slice C3 sx.graphs.length c3, .slice D3 sx.cases.length d3] 27))
    have X3 := SysB.new w3 #[.slice A3 sx.box.length a3, .slice B3 sx.rows.length b3, .slice C3 sx.graphs.length c3, .slice D3 sx.cases.length d3] 27
    clear s0 s1 s2 s3 hgl
    replace B := B.keep (kA)
    replace K := K.trans (kA)
    clear q1 q2 q3 q4
    obtain ⟨s0, s1, s2, s3⟩ := B.cells
    have hgl := block_lt_of_cell s0
    go_wp2_with fail
    generalize (w3).alloc (.cells #[.slice A3 sx.box.length a3, .slice B3 sx.rows.length b3, .slice C3 sx.graphs.length c3, .slice D3 sx.cases.length d3] 27) = w4 at *
    generalize (w3).heap.size = p3 at *
    clear kA k3
    refine (qSubstitute_any _ s c x _ (hs.keep K)).mono ?_
    rw [hx.out]
    rintro e w5 ⟨v5, rfl, s5', k5⟩
    dsimp only at s5' ⊢
    obtain ⟨A5, a5, B5, b5, C5, c5, D5, d5, rfl, q1, q2, q3, q4⟩ := s5'
    have kA := (k5).trans ((Kp.refl w5).alloc (.cells #[.slice A5 sx.box.length a5, .slice B5 sx.rows.length b5, .slice C5 sx.graphs.length c5, .slice D5 sx.cases.length d5] 27))
    have S5 : SysV _ _ sx := SysV.keep ⟨A5, a5, B5, b5, C5, c5, D5, d5, rfl, q1, q2, q3, q4⟩ ((Kp.refl w5).alloc (.cells #[.slice A5 sx.box.length a5, .slice B5 sx.rows.length b5, .slice C5 sx.graphs.length c5, .slice D5 sx.cases.length d5] 27))
    have X5 := SysB.new w5 #[.slice A5 sx.box.length a5, .slice B5 sx.rows.length b5, .slice C5 sx.graphs.length c5, .slice D5 sx.cases.length d5] 27
    clear s0 s1 s2 s3 hgl
    replace B := B.keep (kA)
    replace K := K.trans (kA)
    clear q1 q2 q3 q4
    replace S3 := S3.keep kA
    replace X3 := X3.keep kA
    obtain ⟨s0, s1, s2, s3⟩ := B.cells
    have hgl := block_lt_of_cell s0
    go_wp2_with fail
    generalize (w5).alloc (.cells #[.slice A5 sx.box.length a5, .slice B5 sx.rows.length b5, .slice C5 sx.graphs.length c5, .slice D5 sx.cases.length d5] 27) = w6 at *
    generalize (w5).heap.size = p5 at *
    clear kA k5
    refine (sBranch_any _ s i _ (hs.keep K)).mono ?_
    generalize hy : BranchR s i = sy at *
    replace hy := hid hy
    obtain ⟨sy, es⟩ := sy
    rintro e w7 ⟨v7, rfl, s7', k7⟩
    dsimp only at s7' ⊢
    obtain ⟨A7, a7, B7, b7, C7, c7, D7, d7, rfl, q1, q2, q3, q4⟩ := s7'.here
    have kA := (k7).trans ((Kp.refl w7).alloc (.cells #[.slice A7 sy.box.length a7, .slice B7 sy.rows.length b7, .slice C7 sy.graphs.length c7, .slice D7 sy.cases.length d7] 27))
    have S7 : SysV _ _ sy := SysV.keep ⟨A7, a7, B7, b7, C7, c7, D7, d7, rfl, q1, q2, q3, q4⟩ ((Kp.refl w7).alloc (.cells #[.slice A7 sy.box.length a7, .slice B7 sy.rows.length b7, .slice C7 sy.graphs.length c7, .slice D7 sy.cases.length d7] 27))
    have X7 := SysB.new w7 #[.slice A7 sy.box.length a7, .slice B7 sy.rows.length b7, .slice C7 sy.graphs.length c7, .slice D7 sy.cases.length d7] 27
    clear s0 s1 s2 s3 hgl
    replace B := B.keep (kA)
    replace K := K.trans (kA)
    clear q1 q2 q3 q4
    replace S3 := S3.keep kA
    replace X3 := X3.keep kA
    replace S5 := S5.keep kA
    replace X5 := X5.keep kA
    obtain ⟨s0, s1, s2, s3⟩ := B.cells
    have hgl := block_lt_of_cell s0
    clear s7'
    go_wp2_with fail
    generalize (w7).alloc (.cells #[.slice A7 sy.box.length a7, .slice B7 sy.rows.length b7, .slice C7 sy.graphs.length c7, .slice D7 sy.cases.length d7] 27) = w8 at *
    generalize (w7).heap.size = p7 at *
    clear kA k7
    refine (qBranch_any _ s i _ (hs.keep K)).mono ?_
    rw [hy.out]
    rintro e w9 ⟨v9, rfl, s9', k9⟩
    dsimp only at s9' ⊢
    obtain ⟨A9, a9, B9, b9, C9, c9, D9, d9, rfl, q1, q2, q3, q4⟩ := s9'
    have kA := (k9).trans ((Kp.refl w9).alloc (.cells #[.slice A9 sy.box.length a9, .slice B9 sy.rows.length b9, .slice C9 sy.graphs.length c9, .slice D9 sy.cases.length d9] 27))
    have S9 : SysV _ _ sy := SysV.keep ⟨A9, a9, B9, b9, C9, c9, D9, d9, rfl, q1, q2, q3, q4⟩ ((Kp.refl w9).alloc (.cells #[.slice A9 sy.box.length a9, .slice B9 sy.rows.length b9, .slice C9 sy.graphs.length c9, .slice D9 sy.cases.length d9] 27))
    have X9 := SysB.new w9 #[.slice A9 sy.box.length a9, .slice B9 sy.rows.length b9, .slice C9 sy.graphs.length c9, .slice D9 sy.cases.length d9] 27
    clear s0 s1 s2 s3 hgl
    replace B := B.keep (kA)
    replace K := K.trans (kA)
    clear q1 q2 q3 q4
    replace S3 := S3.keep kA
    replace X3 := X3.keep kA
    replace S5 := S5.keep kA
    replace X5 := X5.keep kA
    replace S7 := S7.keep kA
    replace X7 := X7.keep kA
    obtain ⟨x0, x1, x2, x3⟩ := X3.cells
    obtain ⟨y0, y1, y2, y3⟩ := X5.cells
    have z1 := block_lt_of_cell x0
    have z2 := block_lt_of_cell y0
    go_wp2_with fail
    generalize (w9).alloc (.cells #[.slice A9 sy.box.length a9, .slice B9 sy.rows.length b9, .slice C9 sy.graphs.length c9, .slice D9 sy.cases.length d9] 27) = w10 at *
    generalize (w9).heap.size = p9 at *
    clear kA k9 x0 x1 x2 x3 y0 y1 y2 y3 z1 z2
    refine (qSame_refl _ _ sx _ S3 S5).mono ?_
    rintro e w11 ⟨rfl, k11⟩
    obtain ⟨x0, x1, x2, x3⟩ := (X7.keep k11).cells
    obtain ⟨y0, y1, y2, y3⟩ := (X9.keep k11).cells
    have z1 := block_lt_of_cell x0
    have z2 := block_lt_of_cell y0
    clear hx hy
    go_wp2_with fail
    refine (qSame_refl _ _ sy _ (S7.keep k11) (S9.keep k11)).mono ?_
    rintro e w12 ⟨rfl, k12⟩
    go_wp2
    go_ret
    exact ⟨rfl, (K.trans k11).trans k12⟩

theorem own : ownKnob Try.prog.godebug = none := by kernel_rfl
theorem laidOut : laidOutB Try.prog = true := by kernel_rfl
set_option maxRecDepth 100000 in
theorem lifted (os : Os) (started : os.Started) (H : Type) (enc : TypeId × Value → H) :
    ReturnsInHanded {} Try.checked os 8 .any (Rows.systemPartsSpec.pre6 enc Try.prog Try.f8 Rows.systemPartsRow.domain false) (Rows.systemPartsSpec.post enc Try.prog Try.f8 false true false false) := by
  refine returnsInHanded_of_change (C := Try.checked) own started (by kernel_rfl) Try.func8
    (ChangeSpec.witness6 (enc := enc) (C := Try.checked) false ⟨#[], #[.agg #[.slice none 0 0, .slice none 0 0, .slice none 0 0, .slice none 0 0], .int .i64 0, .int .i64 0, .int .i64 0], []⟩ 8 (by kernel_rfl) (by kernel_rfl) (by kernel_rfl) (by kernel_rfl)) ?_
  intro W base args ds gs before hval0 hW hcnd _
  have hval : ∀ (j : Nat) t v, Try.f8.params[j]? = some t → args[j]? = some v → Value.okWide Try.prog W .any base t v := hval0
  have hW' := hW
  obtain ⟨p, q, hA0, hV, rfl, hfz, hnd⟩ := hW
  have hA : DataW.TrodAll enc Try.prog W 0 (fun _ => true) true Try.f8.params.toList args.toList ds p := hA0
  rw [Try.params8] at hA hval
  obtain ⟨v0, vs0, d0, ds0, p0, q0, hargs, rfl, rfl, h0, r0⟩ := trodAll_cons hA
  obtain ⟨v1, vs1, d1, ds1, p1, q1, rfl, rfl, rfl, h1, r1⟩ := trodAll_cons r0
  obtain ⟨v2, vs2, d2, ds2, p2, q2, rfl, rfl, rfl, h2, r2⟩ := trodAll_cons r1
  obtain ⟨v3, vs3, d3, ds3, p3, q3, rfl, rfl, rfl, h3, r3⟩ := trodAll_cons r2
  obtain ⟨rfl, rfl, rfl⟩ := trodAll_nil r3
  obtain rfl : args = #[v0, v1, v2, v3] := by cases args; simp_all
  obtain ⟨rfl, rfl⟩ := trodVars_none hV
  have lt0 : ∀ x ∈ p0, x.block < W.heap.size := by obtain ⟨m, hm⟩ := h0; exact DataW.trod_lt m _ _ _ hm
  have lt1 : ∀ x ∈ p1, x.block < W.heap.size := by obtain ⟨m, hm⟩ := h1; exact DataW.trod_lt m _ _ _ hm
  have lt2 : ∀ x ∈ p2, x.block < W.heap.size := by obtain ⟨m, hm⟩ := h2; exact DataW.trod_lt m _ _ _ hm
  have lt3 : ∀ x ∈ p3, x.block < W.heap.size := by obtain ⟨m, hm⟩ := h3; exact DataW.trod_lt m _ _ _ hm
  obtain ⟨s0, hs0⟩ := opSys (hval 0 27 v0 rfl rfl) h0
  obtain ⟨x1, rfl, -, -, wx1⟩ := open_int Try.underlying3 (hval 1 3 v1 rfl rfl) h1
  obtain ⟨x2, rfl, -, -, wx2⟩ := open_int Try.underlying3 (hval 2 3 v2 rfl rfl) h2
  obtain ⟨x3, rfl, -, -, wx3⟩ := open_int Try.underlying3 (hval 3 3 v3 rfl rfl) h3
  clear hA0 hval0
  refine (walk _ s0 x1 x2 x3 W hs0).mono fun e W' ⟨he, bel⟩ => ?_
  subst he
  exact ⟨_, rfl, _, _, _, [], _, [], hW', trodAll_mk1 (shut_bool Try.underlying4 _), (trodAll_cons_mk (Below.trod laidOut (by kernel_rfl) (of_decide_eq_true (by kernel_rfl)) h0 bel lt0) (trodAll_cons_mk (Below.trod laidOut (by kernel_rfl) (of_decide_eq_true (by kernel_rfl)) h1 bel lt1) (trodAll_cons_mk (Below.trod laidOut (by kernel_rfl) (of_decide_eq_true (by kernel_rfl)) h2 bel lt2) (trodAll_cons_mk (Below.trod laidOut (by kernel_rfl) (of_decide_eq_true (by kernel_rfl)) h3 bel lt3) trodAll_mk0)))), rfl, Below.frame bel _, fun h => by cases h⟩
theorem over : Rows.systemPartsRow.holds Try.pinned (OpenSpec.ofChange Rows.systemPartsSpec) :=
  OpenClaim.holds_of_wide 8 Try.f8 rfl rfl rfl rfl rfl rfl rfl ⟨rfl, rfl, rfl, rfl, rfl⟩ rfl rfl rfl rfl rfl (by kernel_rfl) Try.func8 (by kernel_rfl)
    (of_decide_eq_true (by kernel_rfl)) (by unfold Func.isWrapper; first | (rw [if_pos (by decide +kernel)]; kernel_rfl) | (rw [if_neg (by decide +kernel)]; exact ⟨rfl, rfl⟩))
    (fun os started H enc _ => lifted os started H enc)
theorem proved : Rows.SystemPartsSaid := over
end Go.Proofs.Ytfllmnaillilhaa.lawParts18
