
/-
SystemSplits: for every system, cell and values the law returns true and leaves its arguments as they were.
-/
import Derived.Test.YtfllmnaillilhaaAwake18
import Derived.Test.YtfllmnaillilhaaFew
import Derived.Test.YtfllmnaillilhaaPlain9
import Derived.Test.YtfllmnaillilhaaSysOpen
namespace Go.Proofs.Ytfllmnaillilhaa.lawSplits18
set_option linter.unusedSimpArgs false
set_option linter.unusedVariables false
open Go.ChangeShapes Go.WideShapes Go.ChangeAt Go.RowKit

theorem sum_ok {a b k : Nat} (h1 : a ≤ 300 * k) (h2 : b ≤ 300) (h3 : (k : Int) ≤ 2001) : wrap64 ((a : Int) + (b : Int)) = (a : Int) + (b : Int) ∧ IntKind.i64.wrap ((a : Int) + (b : Int)) = (a : Int) + (b : Int) :=
  ⟨IntWalk.wrap64_in _ (by omega), IntWalk.i64_in _ (by omega)⟩
theorem x_ok {lo hi x : Int} {k : Nat} (h3 : -1000 ≤ lo) (h4 : hi ≤ 1000) (h : x ≤ hi) (hx : lo + (k : Int) = x) : -1000 ≤ x ∧ x ≤ 1000 := by omega
theorem end_ok {lo hi : Int} {k : Nat} (h : ¬ lo + (k : Int) ≤ hi) (h2 : lo + (k : Int) ≤ hi + 1) : (hi - lo + 1).toNat = k := by omega
theorem rel_ok {lo hi x : Int} {k : Nat} (h : x ≤ hi) (hx : lo + (k : Int) = x) : lo + ((k + 1 : Nat) : Int) ≤ hi + 1 := by omega
theorem mea_ok {hi x : Int} (h : x ≤ hi) : (hi + 1 - (x + 1)).toNat < (hi + 1 - x).toNat := by omega
theorem val_ok {lo x : Int} {k : Nat} (hx : lo + (k : Int) = x) : Value.int .i64 (x + 1) = .int .i64 (lo + ((k + 1 : Nat) : Int)) := by
  rw [← hx, Int.natCast_add, Int.add_assoc]
  rfl
theorem sum_eq {a b c : Nat} (h : c = a + b) : Value.int .i64 ((a : Int) + (b : Int)) = .int .i64 (c : Int) := by rw [h, Int.natCast_add]
theorem inc_ok {x : Int} (h1 : -1000 ≤ x) (h2 : x ≤ 1000) : wrap64 (x + 1) = x + 1 ∧ IntKind.i64.wrap (x + 1) = x + 1 :=
  ⟨IntWalk.wrap64_in _ (by omega), IntWalk.i64_in _ (by omega)⟩
set_option maxRecDepth 10000 in
set_option maxHeartbeats 16000000 in
theorem walk (va vv : Value) (s : Sys) (c : Int) (vs : List Int) (w : World) (hs : SysV w va s) (hv : Ints w vv vs) :
    Calls Try.prog 7 #[va, .int .i64 c, vv] w fun e w' => e = .returned (.bool true) ∧ Kp w w' := by
  have hs' := hs
  obtain ⟨Ab, cb, Ar, cr, Ag, cg, Ac, cc, rfl, hb, hr, hg, hc⟩ := hs'
  obtain ⟨l1, m1⟩ := hb.caps
  obtain ⟨l2, m2⟩ := hr.caps
  obtain ⟨l3, m3⟩ := hg.caps
  obtain ⟨l4, m4⟩ := hc.caps
  obtain ⟨Av, cv, rfl, hcv, hmv⟩ := hv.form
  have k0 := (Kp.refl w).alloc (.cells #[.slice Ab s.box.length cb, .slice Ar s.rows.length cr, .slice Ag s.graphs.length cg, .slice Ac s.cases.length cc] 27)
  have B0 := SysB.new w #[.slice Ab s.box.length cb, .slice Ar s.rows.length cr, .slice Ag s.graphs.length cg, .slice Ac s.cases.length cc] 27
  have z0 := alloc_lt w (.cells #[.slice Ab s.box.length cb, .slice Ar s.rows.length cr, .slice Ag s.graphs.length cg, .slice Ac s.cases.length cc] 27)
  go_enter Try.func7, Try.ntmps7
  go_wp2_with fail
  try rw [← World.size_alloc w (.cells #[.slice Ab s.box.length cb, .slice Ar s.rows.length cr, .slice Ag s.graphs.length cg, .slice Ac s.cases.length cc] 27)]
  generalize w.alloc (.cells #[.slice Ab s.box.length cb, .slice Ar s.rows.length cr, .slice Ag s.graphs.length cg, .slice Ac s.cases.length cc] 27) = w0 at *
  generalize w.heap.size = b0 at *
  refine (awake18_any _).mono ?_
  rintro e w1 ⟨rfl, k1⟩
  replace B0 := B0.keep k1
  replace k1 := k0.trans k1
  obtain ⟨c0, c1, c2, c3⟩ := B0.cells
  have hgl := block_lt_of_cell c0
  go_wp2_with fail
  refine (cut18_any _ s _ (hs.keep k1)).mono ?_
  rintro e w2 ⟨rfl, k2⟩
  replace B0 := B0.keep k2
  replace k2 := k1.trans k2
  clear c0 c1 c2 c3 hgl k1
  obtain ⟨c0, c1, c2, c3⟩ := B0.cells
  have hgl := block_lt_of_cell c0
  cases hC : cutB s with
  | false =>
    go_wp2
    go_ret
    exact ⟨rfl, k2⟩
  | true =>
    clear hC
    go_wp2_with fail
    refine (qFew_any _ s 300 _ (hs.keep k2)).mono ?_
    rintro e w3 ⟨rfl, k3⟩
    replace B0 := B0.keep k3
    replace k3 := k2.trans k3
    clear c0 c1 c2 c3 hgl k2
    obtain ⟨c0, c1, c2, c3⟩ := B0.cells
    have hgl := block_lt_of_cell c0
    cases hF : fewB s 300 with
    | false =>
      go_wp2
      go_ret
      exact ⟨rfl, k3⟩
    | true =>
      obtain ⟨f1, f2, f3, f4, hV, f6, f7⟩ := few_parts hF
      clear hF
      by_cases g1 : c < 0
      · have e1 : decide (c < 0) = true := decide_eq_true g1
        clear hV
        go_wp2
        go_ret
        exact ⟨rfl, k3⟩
      have e1 : decide (c < 0) = false := decide_eq_false g1
      by_cases g2 : (s.box.length : Int) ≤ c
      · have e2 : decide ((s.box.length : Int) ≤ c) = true := decide_eq_true g2
        clear hV
        go_wp2
        go_ret
        exact ⟨rfl, k3⟩
      have e2 : decide ((s.box.length : Int) ≤ c) = false := decide_eq_false g2
      obtain ⟨i, rfl⟩ := Int.eq_ofNat_of_zero_le (show 0 ≤ c by omega)
      have hi : i < s.box.length := by omega
      have e2n : decide (s.box.length ≤ i) = false := decide_eq_false (by omega)
      have j1 : (0 : Int) ≤ i := by omega
      have j2 : (i : Int) < s.box.length := by omega
      obtain ⟨q, o, rfl, hq, h1', h2'⟩ := (hb.keep (pl_stable _) k3).rng hi
      have HSUB := hid (fun (x : Int) (h1 : s.box[i].lo ≤ x) (h2 : x ≤ s.box[i].hi) => SubR_val hV hi h1 h2)
      have HCNT := hid (fun (x : Int) (h1 : s.box[i].lo ≤ x) (h2 : x ≤ s.box[i].hi) hf => sub_count hV f7 hi h1 h2 hf)
      have HHAS := hid (fun (x : Int) (h1 : s.box[i].lo ≤ x) (h2 : x ≤ s.box[i].hi) hf hx => sub_has hV hi h1 h2 hf vs hx)
      have HALL := hid (sumV_all (s := s) hi)
      have HTOT : Hid (CountR s = (((cntS (solvesB s) s.box : Nat) : Int), 0)) := hid (CountR_2 hV (by omega))
      have HBD := hid (fun k => sumV_bd i s.box[i].lo hV f7 k)
      have HCB := hid (fun x => cntV_bd (c := i) (x := x) hV f7)
      have hne := wide_of (validS_parts hV).2.1 s.box[i] (List.getElem_mem hi)
      have hV' := hid hV
      clear hV g1 g2 f1 f2 f3 f4 f6 f7
      have HST := hid (fun k => sumV_succ s i s.box[i].lo k)
      have hz0 : sumV s i s.box[i].lo 0 = 0 := by simp [sumV]
      generalize s.box[i] = r at *
      obtain ⟨lo, hi'⟩ := r
      obtain ⟨SV, hSV⟩ : ∃ SV : Nat → Nat, SV = sumV s i lo := ⟨_, rfl⟩
      obtain ⟨MV, hMV⟩ : ∃ MV : Int → Nat, MV = cntV s i := ⟨_, rfl⟩
      dsimp only at *
      rw [← hSV] at HALL HBD HST hz0
      rw [← hMV] at HCNT HCB HST
      clear hSV hMV
      by_cases g3 : lo < -1000
      · have e3 : decide (lo < -1000) = true := decide_eq_true g3
        go_wp2
        go_ret
        exact ⟨rfl, k3⟩
      have e3 : decide (lo < -1000) = false := decide_eq_false g3
      by_cases g4 : 1000 < hi'
      · have e4 : decide (1000 < hi') = true := decide_eq_true g4
        go_wp2
        go_ret
        exact ⟨rfl, k3⟩
      have e4 : decide (1000 < hi') = false := decide_eq_false g4
      go_wp2
      clear e1 e2 e3 e4 c0 c1 c2 c3 hgl
      go_loopw [7, 8] (fun sv iv wr => ∃ k : Nat, lo + (k : Int) ≤ hi' + 1 ∧ sv = .int .i64 (SV k) ∧ iv = .int .i64 (lo + k) ∧ Kp w3 wr) (fun _ iv _ => (hi' + 1 - intOf iv).toNat)
      case atStart => exact ⟨0, by omega, by rw [hz0]; rfl, by simp, Kp.refl _⟩
      case round =>
        obtain ⟨k, hk, rfl, rfl, hkr⟩ := hrel
        have B1 := B0.keep hkr
        have kk := k3.trans hkr
        obtain ⟨c0, c1, c2, c3⟩ := B1.cells
        have hgl := block_lt_of_cell c0
        have h1 := hkr.cellS h1'
        have h2 := hkr.cellS h2'
        have hbd := HBD.out k
        by_cases hlt : lo + (k : Int) ≤ hi'
        · have g : decide (lo + (k : Int) ≤ hi') = true := decide_eq_true hlt
          have HS1 := hid (HSUB.out (lo + k) (by omega) hlt)
          have HC1 := hid (fun hf => HCNT.out (lo + k) (by omega) hlt hf)
          have HH1 := hid (fun hf hx => HHAS.out (lo + k) (by omega) hlt hf hx)
          have hcb := HCB.out (lo + k)
          have HSU := hid (HST.out k)
          generalize hx : lo + (k : Int) = x at *
          replace hx := hid hx
          go_wp2_with fail
          refine (sSubstitute_any _ s i x _ (hs.keep kk)).mono ?_
          rw [HS1.out]
          cases hfi : (s.rows :: s.cases).all (fineL i x) with
          | false =>
            rintro e w5 ⟨v5, rfl, S5, k5⟩
            obtain ⟨D1, g1, D2, g2, D3, g3', D4, g4', rfl, x1, x2, x3, x4⟩ := S5
            clear c0 c1 c2 c3 hgl h1 h2
            go_wp2
            go_ret
            exact ⟨rfl, (kk.trans k5).trans ((Kp.refl w5).alloc _)⟩
          | true =>
            rintro e w5 ⟨v5, rfl, S5, k5⟩
            simp only [if_true] at S5 ⊢
            have HC2 := hid (HC1.out hfi)
            have HH2 := hid (HH1.out hfi)
            clear HC1 HH1 HS1 hfi
            generalize subS s i x = y at *
            generalize MV x = m at *
            obtain ⟨D1, g1, D2, g2, D3, g3', D4, g4', rfl, x1, x2, x3, x4⟩ := S5
            have SX := SysV.keep (s := y) ⟨D1, g1, D2, g2, D3, g3', D4, g4', rfl, x1, x2, x3, x4⟩ ((Kp.refl w5).alloc (.cells #[.slice D1 y.box.length g1, .slice D2 y.rows.length g2, .slice D3 y.graphs.length g3', .slice D4 y.cases.length g4'] 27))
            have X0 := SysB.new w5 #[.slice D1 y.box.length g1, .slice D2 y.rows.length g2, .slice D3 y.graphs.length g3', .slice D4 y.cases.length g4'] 27
            have k6 := k5.trans ((Kp.refl w5).alloc (.cells #[.slice D1 y.box.length g1, .slice D2 y.rows.length g2, .slice D3 y.graphs.length g3', .slice D4 y.cases.length g4'] 27))
            obtain ⟨d0, d1, d2, d3⟩ := X0.cells
            have hgx := block_lt_of_cell d0
            clear c0 c1 c2 c3 hgl h1 h2 x1 x2 x3 x4
            replace B1 := B1.keep k6
            replace kk := kk.trans k6
            replace hkr := hkr.trans k6
            obtain ⟨c0, c1, c2, c3⟩ := B1.cells
            have hgl := block_lt_of_cell c0
            clear k5 k6
            go_wp2_with fail
            generalize w5.alloc (.cells #[.slice D1 y.box.length g1, .slice D2 y.rows.length g2, .slice D3 y.graphs.length g3', .slice D4 y.cases.length g4'] 27) = w6 at *
            generalize w5.heap.size = bx at *
            refine (sCount_any _ y _ SX).mono ?_
            rw [HC2.out]
            rintro e w7 ⟨rfl, k7⟩
            clear c0 c1 c2 c3 hgl d0 d1 d2 d3 hgx
            replace B1 := B1.keep k7
            replace X0 := X0.keep k7
            replace SX := SX.keep k7
            replace kk := kk.trans k7
            replace hkr := hkr.trans k7
            obtain ⟨c0, c1, c2, c3⟩ := B1.cells
            have hgl := block_lt_of_cell c0
            obtain ⟨d0, d1, d2, d3⟩ := X0.cells
            have hgx := block_lt_of_cell d0
            have hV7 := hv.keep (pl_stable _) kk
            have hS7 := hs.keep kk
            clear k7 HC2
            have hkm : (k : Int) ≤ 2001 := by have := hx.out; omega
            obtain ⟨w1, w2⟩ := sum_ok hbd hcb hkm
            obtain ⟨w3', w4⟩ := inc_ok (x_ok g3 g4 hlt hx.out).1 (x_ok g3 g4 hlt hx.out).2
            clear hbd hcb hkm
            by_cases hl : vs.length = s.box.length
            · have t1 : ((vs.length : Int) == (s.box.length : Int)) = true := beq_iff_eq.2 (by omega)
              have t1n : (vs.length == s.box.length) = true := by simpa using hl
              have hiv : i < vs.length := hl ▸ hi
              have j3 : (i : Int) < vs.length := by rw [hl]; exact j2
              replace hl := hid hl
              obtain ⟨qv, ov, rfl, hqv, v1⟩ := Sl.ints hV7 hiv
              have hq0 := hid (fun (h : vs[i] = x) => HH2.out (by simp [List.getD, hiv, h]))
              clear HH2
              generalize vs[i] = z at *
              by_cases hxv : z = x
              · have t2 : (z == x) = true := by simpa using hxv
                have hq := hq0.out hxv
                have HCL := hid (show ∀ (u : World) (vy : Value), (vy = .agg #[.slice (some ⟨q, o, none⟩) s.box.length cb, .slice Ar s.rows.length cr, .slice Ag s.graphs.length cg, .slice Ac s.cases.length cc] ∨ vy = .agg #[.slice D1 y.box.length g1, .slice D2 y.rows.length g2, .slice D3 y.graphs.length g3', .slice D4 y.cases.length g4']) → Calls Try.prog 23 #[vy, .slice (some ⟨qv, ov, none⟩) vs.length cv] (Kw w7 u) (fun e w' => e = .returned (.bool (holdsS s vs)) ∧ Kp (Kw w7 u) w') from fun u vy h => by
                  rcases h with rfl | rfl
                  · exact sHolds_any _ _ s vs _ (hS7.keep (kw_kp w7 u)) (hV7.keep (pl_stable _) (kw_kp w7 u))
                  · have := sHolds_any _ _ y vs _ (SX.keep (kw_kp w7 u)) (hV7.keep (pl_stable _) (kw_kp w7 u))
                    rw [hq] at this
                    exact this)
                clear hq
                generalize holdsS s vs = hq at *
                clear hS7 SX hq0 hxv
                go_wp2
                refine wp_region_kw (by kernel_rfl) (by kernel_rfl) ?_
                repeat (go_big_quiet_step ((go_at_call 23; exact quiet_kw (HCL.out _ _ (by first | exact Or.inl rfl | exact Or.inr rfl)))))
                refine wpQuiet_nil ?_
                intro _ hw'
                obtain ⟨u, hw''⟩ := hw'
                subst hw''
                have kU := kw_kp w7 u
                replace hkr := hkr.trans kU
                clear c0 c1 c2 c3 d0 d1 d2 d3 hgl hgx HCL
                generalize Kw w7 u = w8 at *
                clear kU
                go_wp2
                go_roundw
                case rel => exact ⟨k + 1, rel_ok hlt hx.out, sum_eq HSU.out, val_ok hx.out, hkr⟩
                case measure => exact mea_ok hlt
              · have t2 : (z == x) = false := by simpa using hxv
                clear hS7 SX hq0 hxv
                go_wp2
                go_quiet (fail)
                replace hkr := hkr.drewN nq
                go_wp2
                go_roundw
                case rel => exact ⟨k + 1, rel_ok hlt hx.out, sum_eq HSU.out, val_ok hx.out, hkr⟩
                case measure => exact mea_ok hlt
            · have t1 : ((vs.length : Int) == (s.box.length : Int)) = false := beq_eq_false_iff_ne.2 (by omega)
              have t1n : (vs.length == s.box.length) = false := by simpa using hl
              clear hS7 SX HH2
              go_wp2
              go_quiet (fail)
              replace hkr := hkr.drewN nq
              go_wp2
              go_roundw
              case rel => exact ⟨k + 1, rel_ok hlt hx.out, sum_eq HSU.out, val_ok hx.out, hkr⟩
              case measure => exact mea_ok hlt
        · have hkn : (hi' - lo + 1).toNat = k := end_ok hlt hk
          have g : decide (lo + (k : Int) ≤ hi') = false := decide_eq_false hlt
          rw [hkn] at HALL
          clear HSUB HCNT HHAS HBD HCB hbd hlt
          go_wp2_with fail
          refine (sCount_any _ s _ (hs.keep kk)).mono ?_
          rw [HTOT.out, HALL.out]
          rintro e w5 ⟨rfl, k5⟩
          go_wp2
          go_ret
          exact ⟨rfl, kk.trans k5⟩
theorem own : ownKnob Try.prog.godebug = none := by kernel_rfl
theorem laidOut : laidOutB Try.prog = true := by kernel_rfl
set_option maxRecDepth 100000 in
theorem lifted (os : Os) (started : os.Started) (H : Type) (enc : TypeId × Value → H) :
    ReturnsInHanded {} Try.checked os 7 .any (Rows.systemSplitsSpec.pre6 enc Try.prog Try.f7 Rows.systemSplitsRow.domain false) (Rows.systemSplitsSpec.post enc Try.prog Try.f7 false true false false) := by
  refine returnsInHanded_of_change (C := Try.checked) own started (by kernel_rfl) Try.func7
    (ChangeSpec.witness6 (enc := enc) (C := Try.checked) false ⟨#[], #[.agg #[.slice none 0 0, .slice none 0 0, .slice none 0 0, .slice none 0 0], .int .i64 0, .slice none 0 0], []⟩ 8 (by kernel_rfl) (by kernel_rfl) (by kernel_rfl) (by kernel_rfl)) ?_
  intro W base args ds gs before hval0 hW hcnd _
  have hval : ∀ (j : Nat) t v, Try.f7.params[j]? = some t → args[j]? = some v → Value.okWide Try.prog W .any base t v := hval0
  have hW' := hW
  obtain ⟨p, q, hA0, hV, rfl, hfz, hnd⟩ := hW
  have hA : DataW.TrodAll enc Try.prog W 0 (fun _ => true) true Try.f7.params.toList args.toList ds p := hA0
  rw [Try.params7] at hA hval
  obtain ⟨v0, vs0, d0, ds0, p0, q0, hargs, rfl, rfl, h0, r0⟩ := trodAll_cons hA
  obtain ⟨v1, vs1, d1, ds1, p1, q1, rfl, rfl, rfl, h1, r1⟩ := trodAll_cons r0
  obtain ⟨v2, vs2, d2, ds2, p2, q2, rfl, rfl, rfl, h2, r2⟩ := trodAll_cons r1
  obtain ⟨rfl, rfl, rfl⟩ := trodAll_nil r2
  obtain rfl : args = #[v0, v1, v2] := by cases args; simp_all
  obtain ⟨rfl, rfl⟩ := trodVars_none hV
  have lt0 : ∀ x ∈ p0, x.block < W.heap.size := by obtain ⟨m, hm⟩ := h0; exact DataW.trod_lt m _ _ _ hm
  have lt1 : ∀ x ∈ p1, x.block < W.heap.size := by obtain ⟨m, hm⟩ := h1; exact DataW.trod_lt m _ _ _ hm
  have lt2 : ∀ x ∈ p2, x.block < W.heap.size := by obtain ⟨m, hm⟩ := h2; exact DataW.trod_lt m _ _ _ hm
  obtain ⟨s0, hs0⟩ := opSys (hval 0 27 v0 rfl rfl) h0
  obtain ⟨x1, rfl, -, -, wx1⟩ := open_int Try.underlying3 (hval 1 3 v1 rfl rfl) h1
  obtain ⟨a2, len2, cap2, rfl⟩ := okWide_slice Try.underlying45 (hval 2 45 v2 rfl rfl)
  obtain ⟨n2, hn2⟩ := trod_slice_value h2
  obtain ⟨x2, hx2⟩ := opInts hn2
  clear hA0 hval0
  refine (walk _ _ s0 x1 x2 W hs0 hx2).mono fun e W' ⟨he, bel⟩ => ?_
  subst he
  exact ⟨_, rfl, _, _, _, [], _, [], hW', trodAll_mk1 (shut_bool Try.underlying4 _), (trodAll_cons_mk (Below.trod laidOut (by kernel_rfl) (of_decide_eq_true (by kernel_rfl)) h0 bel lt0) (trodAll_cons_mk (Below.trod laidOut (by kernel_rfl) (of_decide_eq_true (by kernel_rfl)) h1 bel lt1) (trodAll_cons_mk (Below.trod laidOut (by kernel_rfl) (of_decide_eq_true (by kernel_rfl)) h2 bel lt2) trodAll_mk0))), rfl, Below.frame bel _, fun h => by cases h⟩
theorem over : Rows.systemSplitsRow.holds Try.pinned (OpenSpec.ofChange Rows.systemSplitsSpec) :=
  OpenClaim.holds_of_wide 7 Try.f7 rfl rfl rfl rfl rfl rfl rfl ⟨rfl, rfl, rfl, rfl, rfl⟩ rfl rfl rfl rfl rfl (by kernel_rfl) Try.func7 (by kernel_rfl)
    (of_decide_eq_true (by kernel_rfl)) (by unfold Func.isWrapper; first | (rw [if_pos (by decide +kernel)]; kernel_rfl) | (rw [if_neg (by decide +kernel)]; exact ⟨rfl, rfl⟩))
    (fun os started H enc _ => lifted os started H enc)
theorem proved : Rows.SystemSplitsSaid := over
end Go.Proofs.Ytfllmnaillilhaa.lawSplits18
