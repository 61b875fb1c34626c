
/-
SystemKeeps: for every system the law returns true and leaves its argument as it was.
-/
import Derived.Test.YtfllmnaillilhaaAwake18
import Derived.Test.YtfllmnaillilhaaFew
import Derived.Test.YtfllmnaillilhaaPlain7
import Derived.Test.YtfllmnaillilhaaSysOpen
import Derived.Test.YtfllmnaillilhaaTD
namespace Go.Proofs.Ytfllmnaillilhaa.lawKeeps18
set_option linter.unusedSimpArgs false
set_option linter.unusedVariables false
open Go.ChangeShapes Go.WideShapes Go.ChangeAt Go.RowKit

set_option maxRecDepth 10000 in
set_option maxHeartbeats 16000000 in
theorem walk (va : Value) (s : Sys) (w : World) (hs : SysV w va s) :
    Calls Try.prog 5 #[va] w fun e w' => e = .returned (.bool true) ∧ Kp w w' := by
  have hs' := hs
  obtain ⟨Ab, cb, Ar, cr, Ag, cg, Ac, cc, rfl, hb, hr, hg, hc⟩ := hs'
  obtain ⟨l1, m1⟩ := hb.caps
  obtain ⟨l2, m2⟩ := hr.caps
  obtain ⟨l3, m3⟩ := hg.caps
  obtain ⟨l4, m4⟩ := hc.caps
  have k0 := (Kp.refl w).alloc (.cells #[.slice Ab s.box.length cb, .slice Ar s.rows.length cr, .slice Ag s.graphs.length cg, .slice Ac s.cases.length cc] 27)
  have B0 := SysB.new w #[.slice Ab s.box.length cb, .slice Ar s.rows.length cr, .slice Ag s.graphs.length cg, .slice Ac s.cases.length cc] 27
  have z0 := alloc_lt w (.cells #[.slice Ab s.box.length cb, .slice Ar s.rows.length cr, .slice Ag s.graphs.length cg, .slice Ac s.cases.length cc] 27)
  go_enter Try.func5, Try.ntmps5
  go_wp2_with fail
  try rw [← World.size_alloc w (.cells #[.slice Ab s.box.length cb, .slice Ar s.rows.length cr, .slice Ag s.graphs.length cg, .slice Ac s.cases.length cc] 27)]
  generalize w.alloc (.cells #[.slice Ab s.box.length cb, .slice Ar s.rows.length cr, .slice Ag s.graphs.length cg, .slice Ac s.cases.length cc] 27) = w0 at *
  generalize w.heap.size = b0 at *
  refine (awake18_any _).mono ?_
  rintro e w1 ⟨rfl, k1⟩
  replace B0 := B0.keep k1
  replace k1 := k0.trans k1
  obtain ⟨c0, c1, c2, c3⟩ := B0.cells
  have hgl := block_lt_of_cell c0
  go_wp2_with fail
  refine (cut18_any _ s _ (hs.keep k1)).mono ?_
  rintro e w2 ⟨rfl, k2⟩
  replace B0 := B0.keep k2
  replace k2 := k1.trans k2
  clear c0 c1 c2 c3 hgl k1
  obtain ⟨c0, c1, c2, c3⟩ := B0.cells
  have hgl := block_lt_of_cell c0
  cases hC : cutB s with
  | false =>
    go_wp2
    go_ret
    exact ⟨rfl, k2⟩
  | true =>
    clear hC
    go_wp2_with fail
    refine (qFew_any _ s 300 _ (hs.keep k2)).mono ?_
    rintro e w3 ⟨rfl, k3⟩
    replace B0 := B0.keep k3
    replace k3 := k2.trans k3
    clear c0 c1 c2 c3 hgl k2
    obtain ⟨c0, c1, c2, c3⟩ := B0.cells
    have hgl := block_lt_of_cell c0
    cases hF : fewB s 300 with
    | false =>
      go_wp2
      go_ret
      exact ⟨rfl, k3⟩
    | true =>
      obtain ⟨f1, f2, f3, f4, hV, f6, f7⟩ := few_parts hF
      have HV := hid hV
      have HX : Hid (SimpR s = (simpS s, 0)) := hid (by unfold SimpR; rw [hV]; rfl)
      have hlen := simp_len hV
      have HB := hid (validS_parts hV).1
      have HE := hid (validS_parts hV).2.1
      have hfit := hid (validB_ok (validS_parts hV).2.2.1.2).2.2
      have HEQ := hid (fun L (hL : containsB s.box L = true) => simp_holds hV L hL)
      clear hF hV f3 f4 f6 f7
      go_wp2_with fail
      refine (sSimplify_any _ s _ (hs.keep k3)).mono ?_
      rw [HX.out]
      dsimp only
      generalize simpS s = x at *
      rintro e w4 ⟨v4, rfl, sx, k4⟩
      obtain ⟨D1, g1, D2, g2, D3, g3, D4, g4, rfl, x1, x2, x3, x4⟩ := sx
      have SX := SysV.keep (s := x) ⟨D1, g1, D2, g2, D3, g3, D4, g4, rfl, x1, x2, x3, x4⟩ ((Kp.refl w4).alloc (.cells #[.slice D1 x.box.length g1, .slice D2 x.rows.length g2, .slice D3 x.graphs.length g3, .slice D4 x.cases.length g4] 27))
      have X0 := SysB.new w4 #[.slice D1 x.box.length g1, .slice D2 x.rows.length g2, .slice D3 x.graphs.length g3, .slice D4 x.cases.length g4] 27
      have kA := k4.trans ((Kp.refl w4).alloc (.cells #[.slice D1 x.box.length g1, .slice D2 x.rows.length g2, .slice D3 x.graphs.length g3, .slice D4 x.cases.length g4] 27))
      replace B0 := B0.keep kA
      have k5 := k3.trans kA
      clear c0 c1 c2 c3 hgl k3 k4 kA x1 x2 x3 x4 HX
      obtain ⟨c0, c1, c2, c3⟩ := B0.cells
      obtain ⟨d0, d1, d2, d3⟩ := X0.cells
      have hgl := block_lt_of_cell c0
      have hgx := block_lt_of_cell d0
      have e1 : decide ((s.rows.length : Int) < (x.rows.length : Int)) = false := decide_eq_false (by omega)
      go_wp2_with fail
      generalize w4.alloc (.cells #[.slice D1 x.box.length g1, .slice D2 x.rows.length g2, .slice D3 x.graphs.length g3, .slice D4 x.cases.length g4] 27) = w5 at *
      generalize w4.heap.size = bx at *
      refine (rLeast_any _ s.box _ (hb.keep (pl_stable _) k5) (by omega)).mono ?_
      rintro e w6 ⟨v6, rfl, o6, k6⟩
      replace B0 := B0.keep k6
      replace X0 := X0.keep k6
      replace SX := SX.keep k6
      have I6 := o6.sl encInt_len
      replace k6 := k5.trans k6
      clear c0 c1 c2 c3 d0 d1 d2 d3 hgl hgx k5 o6 e1
      go_wp2
      go_loopg [5, 6] ((allS s.box).length + 1) (fun gk v m wr => (m = .bool true ∧ ∃ (pre rest : List (List Int)) (L : List Int), Hid (allS s.box = pre ++ L :: rest) ∧ rest.length < gk ∧ Ints wr v L ∧ Kp w6 wr) ∨ (m = .bool false ∧ Kp w6 wr))
      case atStart =>
        obtain ⟨t, ht⟩ := allS_head s.box (wide_of HE.out)
        exact .inl ⟨rfl, [], t, _, hid ht, by rw [ht]; simp; omega, I6, Kp.refl _⟩
      case round =>
        clear I6
        rcases hrel with ⟨rfl, pre, rest, L, HL, hgk, hI, hkr⟩ | ⟨rfl, hkr⟩
        · have B1 := B0.keep hkr
          have X1 := X0.keep hkr
          have S1 := SX.keep hkr
          have kk := k6.trans hkr
          obtain ⟨c0, c1, c2, c3⟩ := B1.cells
          obtain ⟨d0, d1, d2, d3⟩ := X1.cells
          have hgl := block_lt_of_cell c0
          have hgx := block_lt_of_cell d0
          obtain ⟨AL, cL, rfl, hcL, hmL⟩ := hI.form
          have hin : containsB s.box L = true := (inB_iff _ _).1 ((allS_mem s.box L).1 (by rw [HL.out]; simp))
          have hbl := hid (not_badV hin).1
          have HN := hid (next_all HB.out HE.out HL.out)
          have hq := HEQ.out L hin
          have hokV := hid (fit_of HV.out hin)
          have HCL := hid (show ∀ (u : World) (vy : Value), (vy = .agg #[.slice Ab s.box.length cb, .slice Ar s.rows.length cr, .slice Ag s.graphs.length cg, .slice Ac s.cases.length cc] ∨ vy = .agg #[.slice D1 x.box.length g1, .slice D2 x.rows.length g2, .slice D3 x.graphs.length g3, .slice D4 x.cases.length g4]) → Calls Try.prog 23 #[vy, .slice AL L.length cL] (Kw wr u) (fun e w' => e = .returned (.bool (holdsS s L)) ∧ Kp (Kw wr u) w') from fun u vy h => by
            rcases h with rfl | rfl
            · exact sHolds_any _ _ s L _ (hs.keep (kk.trans (kw_kp wr u))) (hI.keep (pl_stable _) (kw_kp wr u))
            · have := sHolds_any _ _ x L _ (S1.keep (kw_kp wr u)) (hI.keep (pl_stable _) (kw_kp wr u))
              rw [hq] at this
              exact this)
          clear hq hin
          generalize holdsS s L = q at *
          go_wp2
          refine wp_region_kw (by kernel_rfl) (by kernel_rfl) ?_
          repeat (go_big_quiet_step ((go_at_call 23; exact quiet_kw (HCL.out _ _ (by first | exact Or.inl rfl | exact Or.inr rfl)))))
          refine wpQuiet_nil ?_
          intro _ hw'
          obtain ⟨u, hw''⟩ := hw'
          subst hw''
          have kU := kw_kp wr u
          replace hI := hI.keep (pl_stable _) kU
          replace B1 := B1.keep kU
          replace hkr := hkr.trans kU
          replace kk := kk.trans kU
          clear X1 S1 c0 c1 c2 c3 d0 d1 d2 d3 hgl hgx HCL
          generalize Kw wr u = w7 at *
          obtain ⟨c0, c1, c2, c3⟩ := B1.cells
          have hgl := block_lt_of_cell c0
          clear kU
          go_wp2
          go_loopw [53] (fun i wr => ∃ k : Nat, k ≤ s.rows.length ∧ i = .int .i64 k ∧ Kp w7 wr) (fun i _ => s.rows.length - (intOf i).toNat)
          case atStart => exact ⟨0, Nat.zero_le _, rfl, Kp.refl _⟩
          case round =>
            obtain ⟨k, hk, rfl, hk7⟩ := hrel
            have kr := kk.trans hk7
            by_cases hlt : k < s.rows.length
            · obtain ⟨g, o, A', c', rfl, hg', h1', h2', hT'⟩ := hr.row hlt
              have h1 := kr.cellS h1'
              have h2 := kr.cellS h2'
              have hT := hT'.keep (pl_stable _) kr
              have hf := hfit.out s.rows[k] (List.getElem_mem hlt)
              clear h1' h2' hT' hg' c0 c1 c2 c3 hgl
              generalize s.rows[k] = r at *
              obtain ⟨ts, bd⟩ := r
              dsimp only at h1 h2 hT
              have HR := hid (NormalR_ok (by omega) hf)
              have HNF := hid (norm_fits hf)
              have HNH := hid (norm_holds L hf)
              have hts := (fitsB_ok hf).2.1
              have hrow : rowOkV L ⟨ts, bd⟩ := ⟨fun t ht => by rw [← hbl.out]; exact (fitsn_all hf t ht).1, by omega⟩
              replace hf := hid hf
              have kB := (Kp.refl wr).alloc (.cells #[.slice A' ts.length c', .int .i64 bd] 30)
              have r0 := alloc_cell wr #[.slice A' ts.length c', .int .i64 bd] 30 0 rfl
              have r1 := alloc_cell wr #[.slice A' ts.length c', .int .i64 bd] 30 1 rfl
              have hTB := hT.keep (pl_stable _) kB
              have k8 := hk7.trans kB
              clear kB hT
              go_wp2_with fail
              generalize wr.alloc (.cells #[.slice A' ts.length c', .int .i64 bd] 30) = w8 at *
              generalize wr.heap.size = br at *
              refine (sNormal_any _ ts bd _ hTB).mono ?_
              rw [HR.out]
              dsimp only
              rintro e w9 ⟨v9, rfl, o9, k9⟩
              generalize hnr : normR ⟨ts, bd⟩ = nr at *
              obtain ⟨nts, nb⟩ := nr
              dsimp only at o9 ⊢
              have hnts := (fitsB_ok HNF.out).2.1
              have hnrow : rowOkV L ⟨nts, nb⟩ := ⟨fun t ht => by rw [← hbl.out]; exact (fitsn_all HNF.out t ht).1, by have := hnts; dsimp only at this ⊢; omega⟩
              have nT := o9.sl encTerm_len
              obtain ⟨A9, c9, rfl, _, _⟩ := o9.form
              have kC := k9.trans ((Kp.refl w9).alloc (.cells #[.slice A9 nts.length c9, .int .i64 nb] 30))
              have n0 := alloc_cell w9 #[.slice A9 nts.length c9, .int .i64 nb] 30 0 rfl
              have n1 := alloc_cell w9 #[.slice A9 nts.length c9, .int .i64 nb] 30 1 rfl
              have nTB := nT.keep (pl_stable _) ((Kp.refl w9).alloc (.cells #[.slice A9 nts.length c9, .int .i64 nb] 30))
              replace r0 := kC.cellS r0
              replace r1 := kC.cellS r1
              replace hTB := hTB.keep (pl_stable _) kC
              replace k8 := k8.trans kC
              replace hnr := hid hnr
              clear k9 o9 nT kC HR
              go_wp2
              generalize w9.alloc (.cells #[.slice A9 nts.length c9, .int .i64 nb] 30) = w10 at *
              generalize w9.heap.size = bn at *
              go_loopw [67] (fun i wr => ∃ j : Nat, j ≤ nts.length ∧ i = .int .i64 j ∧ Kp w10 wr) (fun i _ => nts.length - (intOf i).toNat)
              case atStart => exact ⟨0, Nat.zero_le _, rfl, Kp.refl _⟩
              case round =>
                obtain ⟨j, hj, rfl, hk10⟩ := hrel
                by_cases hjl : j < nts.length
                · obtain ⟨g3', o3, rfl, hg3, t1', t2'⟩ := nTB.term hjl
                  have t1 := hk10.cellS t1'
                  have t2 := hk10.cellS t2'
                  have hc := (hnrow.1 nts[j] (List.getElem_mem hjl))
                  clear t1' t2'
                  generalize nts[j] = t at *
                  obtain ⟨tc, tf⟩ := t
                  unfold okT at hc
                  dsimp only at t1 t2 hc
                  have e1 : decide (tc < 0) = false := decide_eq_false (by omega)
                  have e2 : decide ((L.length : Int) ≤ tc) = false := decide_eq_false (by omega)
                  go_wp2
                  go_roundw
                  case rel => exact ⟨j + 1, by omega, by go_num, hk10.alloc _⟩
                  case measure => simp [intOf]; omega
                · have q0 := hk10.cellS r0
                  have q1 := hk10.cellS r1
                  have q2 := hk10.cellS n0
                  have q3 := hk10.cellS n1
                  have z1 := block_lt_of_cell q0
                  have z2 := block_lt_of_cell q2
                  have hK := hid (k8.trans hk10)
                  have hI7 := hI.keep (pl_stable _) hK.out
                  have HVO := hid (show ∀ (u : World) (q : Value × Int), (q = (.agg #[.slice A' ts.length c', .int .i64 bd], valueL L 0 ts) ∨ q = (.agg #[.slice A9 nts.length c9, .int .i64 nb], valueL L 0 nts)) → Calls Try.prog 24 #[q.1, .slice AL L.length cL] (Kw wr u) (fun e w' => e = .returned (.int .i64 q.2) ∧ Kp (Kw wr u) w') from fun u q h => by
                    rcases h with rfl | rfl
                    · exact rValue_any _ _ ts bd L (Kw wr u) ((hTB.keep (pl_stable _) hk10).keep (pl_stable _) (kw_kp wr u)) (hI7.keep (pl_stable _) (kw_kp wr u)) hrow.1 hokV.out.okv (by have := hrow.2; exact this)
                    · exact rValue_any _ _ nts nb L (Kw wr u) ((nTB.keep (pl_stable _) hk10).keep (pl_stable _) (kw_kp wr u)) (hI7.keep (pl_stable _) (kw_kp wr u)) hnrow.1 hokV.out.okv (by have := hnrow.2; exact this))
                  have HQ : Hid (decide (valueL L 0 nts ≤ nb) = decide (valueL L 0 ts ≤ bd)) := hid HNH.out
                  generalize valueL L 0 nts = V2 at *
                  generalize valueL L 0 ts = V1 at *
                  clear r0 r1 n0 n1 hTB nTB hI7 hrow hnrow
                  by_cases hv : V1 ≤ bd
                  · have e1 : decide (V1 ≤ bd) = true := decide_eq_true hv
                    have e2 : decide (V2 ≤ nb) = true := by rw [HQ.out]; exact e1
                    clear hv
                    go_wp2
                    refine wp_region_kw (by kernel_rfl) (by kernel_rfl) ?_
                    repeat (go_big_quiet_step ((go_at_call 24; exact quiet_kw (HVO.out _ (_, _) (by first | exact Or.inl rfl | exact Or.inr rfl)))))
                    refine wpQuiet_nil ?_
                    intro _ hw'
                    obtain ⟨u, hw''⟩ := hw'
                    subst hw''
                    go_wp2
                    go_roundw
                    case rel => exact ⟨k + 1, by omega, by go_num, hK.out.trans (kw_kp _ _)⟩
                    case measure => simp [intOf]; omega
                  · have e1 : decide (V1 ≤ bd) = false := decide_eq_false hv
                    have e2 : decide (V2 ≤ nb) = false := by rw [HQ.out]; exact e1
                    clear hv
                    go_wp2
                    refine wp_region_kw (by kernel_rfl) (by kernel_rfl) ?_
                    repeat (go_big_quiet_step ((go_at_call 24; exact quiet_kw (HVO.out _ (_, _) (by first | exact Or.inl rfl | exact Or.inr rfl)))))
                    refine wpQuiet_nil ?_
                    intro _ hw'
                    obtain ⟨u, hw''⟩ := hw'
                    subst hw''
                    go_wp2
                    go_roundw
                    case rel => exact ⟨k + 1, by omega, by go_num, hK.out.trans (kw_kp _ _)⟩
                    case measure => simp [intOf]; omega
            · have hI7 := hI.keep (pl_stable _) hk7
              have B2 := B1.keep hk7
              have hkz := hid (hkr.trans hk7)
              clear c0 c1 c2 c3 hgl
              obtain ⟨c0, c1, c2, c3⟩ := B2.cells
              have hgl := block_lt_of_cell c0
              go_wp2_with fail
              refine (rNext_any _ _ s.box L _ (hb.keep (pl_stable _) kr) hI7).mono ?_
              rw [HN.out]
              rintro e w9 ⟨v', rfl, own9, k9⟩
              cases rest with
              | nil =>
                go_wp2
                go_roundg 0
                case measure => simp at hgk; omega
                case rel => exact .inr ⟨rfl, hkz.out.trans k9⟩
              | cons L2 rest =>
                go_wp2
                go_roundg (rest.length + 1)
                case measure => simp at hgk; omega
                case rel => exact .inl ⟨rfl, pre ++ [L], rest, L2, hid (by rw [HL.out]; simp), by omega, own9.sl encInt_len, hkz.out.trans k9⟩
        · go_wp2
          go_ret
          exact ⟨rfl, k6.trans hkr⟩

theorem own : ownKnob Try.prog.godebug = none := by kernel_rfl
theorem laidOut : laidOutB Try.prog = true := by kernel_rfl
set_option maxRecDepth 100000 in
theorem lifted (os : Os) (started : os.Started) (H : Type) (enc : TypeId × Value → H) :
    ReturnsInHanded {} Try.checked os 5 .any (Rows.systemKeepsSpec.pre6 enc Try.prog Try.f5 Rows.systemKeepsRow.domain false) (Rows.systemKeepsSpec.post enc Try.prog Try.f5 false true false false) := by
  refine returnsInHanded_of_change (C := Try.checked) own started (by kernel_rfl) Try.func5
    (ChangeSpec.witness6 (enc := enc) (C := Try.checked) false ⟨#[], #[.agg #[.slice none 0 0, .slice none 0 0, .slice none 0 0, .slice none 0 0]], []⟩ 8 (by kernel_rfl) (by kernel_rfl) (by kernel_rfl) (by kernel_rfl)) ?_
  intro W base args ds gs before hval0 hW hcnd _
  have hval : ∀ (j : Nat) t v, Try.f5.params[j]? = some t → args[j]? = some v → Value.okWide Try.prog W .any base t v := hval0
  have hW' := hW
  obtain ⟨p, q, hA0, hV, rfl, hfz, hnd⟩ := hW
  have hA : DataW.TrodAll enc Try.prog W 0 (fun _ => true) true Try.f5.params.toList args.toList ds p := hA0
  rw [Try.params5] at hA hval
  obtain ⟨v0, vs0, d0, ds0, p0, q0, hargs, rfl, rfl, h0, r0⟩ := trodAll_cons hA
  obtain ⟨rfl, rfl, rfl⟩ := trodAll_nil r0
  obtain rfl : args = #[v0] := by cases args; simp_all
  obtain ⟨rfl, rfl⟩ := trodVars_none hV
  have lt0 : ∀ x ∈ p0, x.block < W.heap.size := by obtain ⟨m, hm⟩ := h0; exact DataW.trod_lt m _ _ _ hm
  obtain ⟨s0, hs0⟩ := opSys (hval 0 27 v0 rfl rfl) h0
  clear hA0 hval0
  refine (walk _ s0 W hs0).mono fun e W' ⟨he, bel⟩ => ?_
  subst he
  exact ⟨_, rfl, _, _, _, [], _, [], hW', trodAll_mk1 (shut_bool Try.underlying4 _), (trodAll_cons_mk (Below.trod laidOut (by kernel_rfl) (of_decide_eq_true (by kernel_rfl)) h0 bel lt0) trodAll_mk0), rfl, Below.frame bel _, fun h => by cases h⟩
theorem over : Rows.systemKeepsRow.holds Try.pinned (OpenSpec.ofChange Rows.systemKeepsSpec) :=
  OpenClaim.holds_of_wide 5 Try.f5 rfl rfl rfl rfl rfl rfl rfl ⟨rfl, rfl, rfl, rfl, rfl⟩ rfl rfl rfl rfl rfl (by kernel_rfl) Try.func5 (by kernel_rfl)
    (of_decide_eq_true (by kernel_rfl)) (by unfold Func.isWrapper; first | (rw [if_pos (by decide +kernel)]; kernel_rfl) | (rw [if_neg (by decide +kernel)]; exact ⟨rfl, rfl⟩))
    (fun os started H enc _ => lifted os started H enc)
theorem proved : Rows.SystemKeepsSaid := over
end Go.Proofs.Ytfllmnaillilhaa.lawKeeps18
