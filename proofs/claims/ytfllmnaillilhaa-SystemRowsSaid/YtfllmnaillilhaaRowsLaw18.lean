
/-
SystemRows: for every system and row the law returns true and leaves its arguments as they were.
-/
import Derived.Test.YtfllmnaillilhaaAwake18
import Derived.Test.YtfllmnaillilhaaCut18
import Derived.Test.YtfllmnaillilhaaTD
import Derived.Test.YtfllmnaillilhaaSysOpen
namespace Go.Proofs.Ytfllmnaillilhaa.lawRows
set_option linter.unusedSimpArgs false
set_option linter.unusedVariables false
open Go.ChangeShapes Go.WideShapes Go.ChangeAt Go.RowKit

set_option maxRecDepth 10000 in
set_option maxHeartbeats 8000000 in
theorem walk (va vt : Value) (s : Sys) (ts : List Term) (bd : Int) (w : World) (hs : SysV w va s) (ht : Terms w vt ts) :
    Calls Try.prog 3 #[va, .agg #[vt, .int .i64 bd]] w fun e w' => e = .returned (.bool true) ∧ Kp w w' := by
  have hs' := hs
  obtain ⟨Ab, cb, Ar, cr, Ag, cg, Ac, cc, rfl, hb, hr, hg, hc⟩ := hs'
  obtain ⟨l1, m1⟩ := hb.caps
  obtain ⟨l2, m2⟩ := hr.caps
  obtain ⟨l3, m3⟩ := hg.caps
  obtain ⟨l4, m4⟩ := hc.caps
  obtain ⟨At, ct, rfl, hct, hmt⟩ := ht.form
  have K := ((Kp.refl w).alloc (.cells #[.slice Ab s.box.length cb, .slice Ar s.rows.length cr, .slice Ag s.graphs.length cg, .slice Ac s.cases.length cc] 27)).alloc (.cells #[.slice At ts.length ct, .int .i64 bd] 30)
  have B := (SysB.new w #[.slice Ab s.box.length cb, .slice Ar s.rows.length cr, .slice Ag s.graphs.length cg, .slice Ac s.cases.length cc] 27).keep ((Kp.refl _).alloc (.cells #[.slice At ts.length ct, .int .i64 bd] 30))
  have r0 := alloc_cell (w.alloc (.cells #[.slice Ab s.box.length cb, .slice Ar s.rows.length cr, .slice Ag s.graphs.length cg, .slice Ac s.cases.length cc] 27)) #[.slice At ts.length ct, .int .i64 bd] 30 0 rfl
  have r1 := alloc_cell (w.alloc (.cells #[.slice Ab s.box.length cb, .slice Ar s.rows.length cr, .slice Ag s.graphs.length cg, .slice Ac s.cases.length cc] 27)) #[.slice At ts.length ct, .int .i64 bd] 30 1 rfl
  rw [World.size_alloc] at r0 r1
  go_enter Try.func3, Try.ntmps3
  go_wp2_with fail
  generalize (w.alloc (.cells #[.slice Ab s.box.length cb, .slice Ar s.rows.length cr, .slice Ag s.graphs.length cg, .slice Ac s.cases.length cc] 27)).alloc (.cells #[.slice At ts.length ct, .int .i64 bd] 30) = w0 at *
  generalize hb0 : w.heap.size = b0 at *
  replace hb0 := hid hb0
  refine (awake18_any _).mono ?_
  rintro e w1 ⟨rfl, k1⟩
  replace B := B.keep k1
  replace r0 := k1.cellS r0
  replace r1 := k1.cellS r1
  replace K := K.trans k1
  obtain ⟨s0, s1, s2, s3⟩ := B.cells
  have hgl := block_lt_of_cell s0
  have hgr := block_lt_of_cell r0
  go_wp2_with fail
  refine (cut18_any _ s _ (hs.keep K)).mono ?_
  rintro e w2 ⟨rfl, k2⟩
  clear s0 s1 s2 s3 hgl hgr
  replace B := B.keep (k2)
  replace r0 := (k2).cellS r0
  replace r1 := (k2).cellS r1
  replace K := K.trans (k2)
  obtain ⟨s0, s1, s2, s3⟩ := B.cells
  have hgl := block_lt_of_cell s0
  have hgr := block_lt_of_cell r0
  cases hC : cutB s with
  | false =>
    go_wp2
    go_ret
    exact ⟨rfl, K⟩
  | true =>
    by_cases hl : 130 < ts.length
    · have e1 : decide ((130 : Int) < (ts.length : Int)) = true := decide_eq_true (by omega)
      go_wp2
      go_ret
      exact ⟨rfl, K⟩
    · have e1 : decide ((130 : Int) < (ts.length : Int)) = false := decide_eq_false (by omega)
      clear hC
      go_wp2_with fail
      refine (sNormal_any _ ts bd _ (ht.keep (pl_stable _) K)).mono ?_
      rintro e w3 ⟨v3, rfl, o3, k3⟩
      generalize hn : NormalR ⟨ts, bd⟩ = nr at *
      replace hn := hid hn
      obtain ⟨⟨nts, nb⟩, nok⟩ := nr
      dsimp only at o3 ⊢
      have t3 := o3.sl encTerm_len
      obtain ⟨A3, c3, rfl, _, _⟩ := o3.form
      have kA := k3.trans ((Kp.refl w3).alloc (.cells #[.slice A3 nts.length c3, .int .i64 nb] 30))
      have a0 := alloc_cell w3 #[.slice A3 nts.length c3, .int .i64 nb] 30 0 rfl
      have a1 := alloc_cell w3 #[.slice A3 nts.length c3, .int .i64 nb] 30 1 rfl
      have t4 := t3.keep (pl_stable _) ((Kp.refl w3).alloc (.cells #[.slice A3 nts.length c3, .int .i64 nb] 30))
      clear s0 s1 s2 s3 hgl hgr
      replace B := B.keep (kA)
      replace r0 := (kA).cellS r0
      replace r1 := (kA).cellS r1
      replace K := K.trans (kA)
      clear k3 o3 t3 kA
      obtain ⟨s0, s1, s2, s3⟩ := B.cells
      have hgl := block_lt_of_cell s0
      have hgr := block_lt_of_cell r0
      go_wp2_with fail
      generalize w3.alloc (.cells #[.slice A3 nts.length c3, .int .i64 nb] 30) = w4 at *
      generalize w3.heap.size = p3 at *
      refine (qNormal_any _ ts bd _ (ht.keep (pl_stable _) K)).mono ?_
      rw [hn.out]
      rintro e w5 ⟨v5, rfl, o5, k5⟩
      dsimp only at o5 ⊢
      have t5 := o5.sl encTerm_len
      obtain ⟨A5, c5, rfl, _, _⟩ := o5.form
      have kA := k5.trans ((Kp.refl w5).alloc (.cells #[.slice A5 nts.length c5, .int .i64 nb] 30))
      have d0 := alloc_cell w5 #[.slice A5 nts.length c5, .int .i64 nb] 30 0 rfl
      have d1 := alloc_cell w5 #[.slice A5 nts.length c5, .int .i64 nb] 30 1 rfl
      have t6 := t5.keep (pl_stable _) ((Kp.refl w5).alloc (.cells #[.slice A5 nts.length c5, .int .i64 nb] 30))
      clear s0 s1 s2 s3 hgl hgr
      replace B := B.keep (kA)
      replace r0 := (kA).cellS r0
      replace r1 := (kA).cellS r1
      replace K := K.trans (kA)
      replace a0 := kA.cellS a0
      replace a1 := kA.cellS a1
      replace t4 := t4.keep (pl_stable _) kA
      clear k5 o5 t5 kA
      obtain ⟨s0, s1, s2, s3⟩ := B.cells
      have hgl := block_lt_of_cell s0
      have hgr := block_lt_of_cell r0
      go_wp2_with fail
      generalize w5.alloc (.cells #[.slice A5 nts.length c5, .int .i64 nb] 30) = w6 at *
      generalize w5.heap.size = p5 at *
      refine (sSimplify_any _ s _ (hs.keep K)).mono ?_
      generalize hx : SimpR s = sx at *
      replace hx := hid hx
      obtain ⟨sx, er⟩ := sx
      rintro e w7 ⟨v7, rfl, s7, k7⟩
      dsimp only at s7 ⊢
      obtain ⟨B1, e1', B2, e2, B3, e3, B4, e4, rfl, b1, b2, b3, b4⟩ := s7
      have kA := k7.trans ((Kp.refl w7).alloc (.cells #[.slice B1 sx.box.length e1', .slice B2 sx.rows.length e2, .slice B3 sx.graphs.length e3, .slice B4 sx.cases.length e4] 27))
      have S7 : SysV _ _ sx := SysV.keep ⟨B1, e1', B2, e2, B3, e3, B4, e4, rfl, b1, b2, b3, b4⟩ ((Kp.refl w7).alloc (.cells #[.slice B1 sx.box.length e1', .slice B2 sx.rows.length e2, .slice B3 sx.graphs.length e3, .slice B4 sx.cases.length e4] 27))
      have X7 := SysB.new w7 #[.slice B1 sx.box.length e1', .slice B2 sx.rows.length e2, .slice B3 sx.graphs.length e3, .slice B4 sx.cases.length e4] 27
      clear s0 s1 s2 s3 hgl hgr
      replace B := B.keep (kA)
      replace r0 := (kA).cellS r0
      replace r1 := (kA).cellS r1
      replace K := K.trans (kA)
      replace a0 := kA.cellS a0
      replace a1 := kA.cellS a1
      replace t4 := t4.keep (pl_stable _) kA
      replace d0 := kA.cellS d0
      replace d1 := kA.cellS d1
      replace t6 := t6.keep (pl_stable _) kA
      clear k7 kA b1 b2 b3 b4
      obtain ⟨s0, s1, s2, s3⟩ := B.cells
      have hgl := block_lt_of_cell s0
      have hgr := block_lt_of_cell r0
      go_wp2_with fail
      generalize w7.alloc (.cells #[.slice B1 sx.box.length e1', .slice B2 sx.rows.length e2, .slice B3 sx.graphs.length e3, .slice B4 sx.cases.length e4] 27) = w8 at *
      generalize w7.heap.size = p7 at *
      refine (qSimplify_any _ s _ (hs.keep K)).mono ?_
      rw [hx.out]
      rintro e w9 ⟨v9, rfl, s9, k9⟩
      dsimp only at s9 ⊢
      obtain ⟨D1, f1, D2, f2, D3, f3, D4, f4, rfl, b1, b2, b3, b4⟩ := s9
      have kA := k9.trans ((Kp.refl w9).alloc (.cells #[.slice D1 sx.box.length f1, .slice D2 sx.rows.length f2, .slice D3 sx.graphs.length f3, .slice D4 sx.cases.length f4] 27))
      have S9 : SysV _ _ sx := SysV.keep ⟨D1, f1, D2, f2, D3, f3, D4, f4, rfl, b1, b2, b3, b4⟩ ((Kp.refl w9).alloc (.cells #[.slice D1 sx.box.length f1, .slice D2 sx.rows.length f2, .slice D3 sx.graphs.length f3, .slice D4 sx.cases.length f4] 27))
      have X9 := SysB.new w9 #[.slice D1 sx.box.length f1, .slice D2 sx.rows.length f2, .slice D3 sx.graphs.length f3, .slice D4 sx.cases.length f4] 27
      clear s0 s1 s2 s3 hgl hgr
      replace B := B.keep (kA)
      replace r0 := (kA).cellS r0
      replace r1 := (kA).cellS r1
      replace K := K.trans (kA)
      replace a0 := kA.cellS a0
      replace a1 := kA.cellS a1
      replace t4 := t4.keep (pl_stable _) kA
      replace d0 := kA.cellS d0
      replace d1 := kA.cellS d1
      replace t6 := t6.keep (pl_stable _) kA
      replace S7 := S7.keep kA
      replace X7 := X7.keep kA
      clear k9 kA b1 b2 b3 b4
      have z1 := block_lt_of_cell a0
      have z2 := block_lt_of_cell d0
      go_wp2_with fail
      generalize w9.alloc (.cells #[.slice D1 sx.box.length f1, .slice D2 sx.rows.length f2, .slice D3 sx.graphs.length f3, .slice D4 sx.cases.length f4] 27) = w10 at *
      generalize w9.heap.size = p9 at *
      refine (qTerms_any _ _ nts nts nb nb _ t4 t6).mono ?_
      rw [(eqT_iff nts nts).2 rfl]
      rintro e w11 ⟨rfl, k11⟩
      replace K := K.trans k11
      replace X7 := X7.keep k11
      replace X9 := X9.keep k11
      obtain ⟨x0, x1, x2, x3⟩ := X7.cells
      obtain ⟨y0, y1, y2, y3⟩ := X9.cells
      have z3 := block_lt_of_cell x0
      have z4 := block_lt_of_cell y0
      clear a0 a1 d0 d1 z1 z2 hx hn
      go_wp2_with fail
      refine (qSame_refl _ _ sx _ (S7.keep k11) (S9.keep k11)).mono ?_
      rintro e w12 ⟨rfl, k12⟩
      go_wp2
      go_ret
      exact ⟨rfl, K.trans k12⟩

theorem own : ownKnob Try.prog.godebug = none := by kernel_rfl
theorem laidOut : laidOutB Try.prog = true := by kernel_rfl
set_option maxRecDepth 100000 in
theorem lifted (os : Os) (started : os.Started) (H : Type) (enc : TypeId × Value → H) :
    ReturnsInHanded {} Try.checked os 3 .any (Rows.systemRowsSpec.pre6 enc Try.prog Try.f3 Rows.systemRowsRow.domain false) (Rows.systemRowsSpec.post enc Try.prog Try.f3 false true false false) := by
  refine returnsInHanded_of_change (C := Try.checked) own started (by kernel_rfl) Try.func3
    (ChangeSpec.witness6 (enc := enc) (C := Try.checked) false ⟨#[], #[.agg #[.slice none 0 0, .slice none 0 0, .slice none 0 0, .slice none 0 0], .agg #[.slice none 0 0, .int .i64 0]], []⟩ 8 (by kernel_rfl) (by kernel_rfl) (by kernel_rfl) (by kernel_rfl)) ?_
  intro W base args ds gs before hval0 hW hcnd _
  have hval : ∀ (j : Nat) t v, Try.f3.params[j]? = some t → args[j]? = some v → Value.okWide Try.prog W .any base t v := hval0
  have hW' := hW
  obtain ⟨p, q, hA0, hV, rfl, hfz, hnd⟩ := hW
  have hA : DataW.TrodAll enc Try.prog W 0 (fun _ => true) true Try.f3.params.toList args.toList ds p := hA0
  rw [Try.params3] at hA hval
  obtain ⟨v0, vs0, d0, ds0, p0, q0, hargs, rfl, rfl, h0, r0⟩ := trodAll_cons hA
  obtain ⟨v1, vs1, d1, ds1, p1, q1, rfl, rfl, rfl, h1, r1⟩ := trodAll_cons r0
  obtain ⟨rfl, rfl, rfl⟩ := trodAll_nil r1
  obtain rfl : args = #[v0, v1] := by cases args; simp_all
  obtain ⟨rfl, rfl⟩ := trodVars_none hV
  have lt0 : ∀ x ∈ p0, x.block < W.heap.size := by obtain ⟨m, hm⟩ := h0; exact DataW.trod_lt m _ _ _ hm
  have lt1 : ∀ x ∈ p1, x.block < W.heap.size := by obtain ⟨m, hm⟩ := h1; exact DataW.trod_lt m _ _ _ hm
  obtain ⟨s0, hs0⟩ := opSys (hval 0 27 v0 rfl rfl) h0
  obtain ⟨c1, e1, y1, z1, n1, rfl, -, -, hy1, hz1⟩ := Joins.open_agg2 Try.underlying30 (by kernel_rfl) (by kernel_rfl) (hval 1 30 v1 rfl rfl) h1
  obtain ⟨x1, hx1⟩ := opTerms hy1
  obtain ⟨bd1, rfl⟩ := opField_int Try.underlying3 hz1
  clear hA0 hval0
  refine (walk _ _ s0 x1 bd1 W hs0 hx1).mono fun e W' ⟨he, bel⟩ => ?_
  subst he
  exact ⟨_, rfl, _, _, _, [], _, [], hW', trodAll_mk1 (shut_bool Try.underlying4 _), (trodAll_cons_mk (Below.trod laidOut (by kernel_rfl) (of_decide_eq_true (by kernel_rfl)) h0 bel lt0) (trodAll_cons_mk (Below.trod laidOut (by kernel_rfl) (of_decide_eq_true (by kernel_rfl)) h1 bel lt1) trodAll_mk0)), rfl, Below.frame bel _, fun h => by cases h⟩
theorem over : Rows.systemRowsRow.holds Try.pinned (OpenSpec.ofChange Rows.systemRowsSpec) :=
  OpenClaim.holds_of_wide 3 Try.f3 rfl rfl rfl rfl rfl rfl rfl ⟨rfl, rfl, rfl, rfl, rfl⟩ rfl rfl rfl rfl rfl (by kernel_rfl) Try.func3 (by kernel_rfl)
    (of_decide_eq_true (by kernel_rfl)) (by unfold Func.isWrapper; first | (rw [if_pos (by decide +kernel)]; kernel_rfl) | (rw [if_neg (by decide +kernel)]; exact ⟨rfl, rfl⟩))
    (fun os started H enc _ => lifted os started H enc)
theorem proved : Rows.SystemRowsSaid := over
end Go.Proofs.Ytfllmnaillilhaa.lawRows
