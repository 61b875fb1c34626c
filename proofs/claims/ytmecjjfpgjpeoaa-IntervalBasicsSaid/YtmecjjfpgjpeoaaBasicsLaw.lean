
/-
IntervalBasics: for every box, rows and values the law returns true and leaves its arguments as they were.
-/
import Derived.Test.YtmecjjfpgjpeoaaAwake
import Derived.Test.YtmecjjfpgjpeoaaIntOpen
namespace Go.Proofs.Ytmecjjfpgjpeoaa.lawBasics
open Go.ChangeShapes Go.WideShapes Go.ChangeAt Go.RowKit

set_option maxHeartbeats 4000000 in
theorem walk (vb vr vv : Value) (b : List Rng) (rows : List Row) (vs : List Int) (w : World) (hb : Rngs w vb b) (hr : RowsL w vr rows) (hv : Ints w vv vs) :
    Calls Try.prog 3 #[vb, vr, vv] w fun e w' => e = .returned (.bool true) ∧ Kp w w' := by
  obtain ⟨A, c, rfl, hc, hm⟩ := hb.form
  obtain ⟨A', c', rfl, hc', hm'⟩ := hr.form
  obtain ⟨A2, c2, rfl, hc2, hm2⟩ := hv.form
  go_enter Try.func3, Try.ntmps3
  go_wp2_with fail
  refine (awake_any _).mono ?_
  rintro e w1 ⟨rfl, hbel1⟩
  by_cases hbig : 130 < b.length ∨ 20 < rows.length
  · by_cases h1 : 130 < b.length
    · go_wp2
      go_ret
      exact ⟨rfl, hbel1⟩
    · have h2 : 20 < rows.length := by omega
      clear hbig
      go_wp2
      go_ret
      exact ⟨rfl, hbel1⟩
  · have h1 : b.length ≤ 130 := by omega
    have h2 : rows.length ≤ 20 := by omega
    clear hbig
    go_wp2
    go_loopw [25] (fun i wr => ∃ k : Nat, k ≤ b.length ∧ i = .int .i64 k ∧ Kp w wr) (fun i _ => b.length - (intOf i).toNat)
    case atStart => exact ⟨0, Nat.zero_le _, rfl, hbel1⟩
    case round =>
      clear hbel1
      obtain ⟨k, hk, rfl, hbel⟩ := hrel
      by_cases hlt : k < b.length
      · obtain ⟨g, o, rfl, hg, y1', y2'⟩ := hb.rng hlt
        obtain ⟨g0, o0, he, hg0, z1', z2'⟩ := hb.rng (k := 0) (by omega)
        simp only [Option.some.injEq, Addr.mk.injEq, and_true] at he
        obtain ⟨rfl, rfl⟩ := he
        have y1 := hbel.cellS y1'
        have y2 := hbel.cellS y2'
        have z1 := hbel.cellS z1'
        have z2 := hbel.cellS z2'
        simp only [Nat.zero_mul, Nat.add_zero] at z1 z2
        have lg : g < wr.heap.size := by have := hbel.size; omega
        have q1 : (0 : Int) ≤ k := by omega
        have q2 : (k : Int) < b.length := by omega
        have q3 : (0 : Int) < b.length := by omega
        have q4 : 0 < b.length := by omega
        clear y1' y2' z1' z2' hb hr hv
        generalize b[k] = r at *
        generalize b[0] = s at *
        obtain ⟨rl, rh⟩ := r
        obtain ⟨sl, sh⟩ := s
        dsimp only at y1 y2 z1 z2
        go_wp2
        have kA := (Kp.refl wr).alloc (.cells #[.int .i64 rl, .int .i64 rh] 27)
        have x0 := alloc_cell wr #[.int .i64 rl, .int .i64 rh] 27 0 rfl
        have x1 := alloc_cell wr #[.int .i64 rl, .int .i64 rh] 27 1 rfl
        have x2 := alloc_lt wr (.cells #[.int .i64 rl, .int .i64 rh] 27)
        have y1 := kA.cellS y1
        have y2 := kA.cellS y2
        have z1 := kA.cellS z1
        have z2 := kA.cellS z2
        have lg2 : g < (wr.alloc (.cells #[.int .i64 rl, .int .i64 rh] 27)).heap.size := by omega
        have hbel3 := hbel.trans kA
        clear kA
        generalize wr.alloc (.cells #[.int .i64 rl, .int .i64 rh] 27) = w3 at *
        have hne := fun W a b c d => run_neq_rng W a b c d
        have e1 : (middle ⟨rl, rh⟩ != middle ⟨rl, rh⟩) = false := by simp
        have e2 : (middle ⟨rl, rh⟩ == middle ⟨rl, rh⟩) = true := by simp
        have e3 : rngNe (max sl rl) (min sh rh) (max sl rl) (min sh rh) = false := by simp [rngNe]
        have HC1 := hid (fun u => Middle_any rl rh (Kw w3 u))
        have HC2 := hid (fun u => rMiddle_any rl rh (Kw w3 u))
        have HC3 := hid (fun u => Meet_any sl sh rl rh (Kw w3 u))
        have HC4 := hid (fun u => rMeet_any sl sh rl rh (Kw w3 u))
        generalize middle ⟨rl, rh⟩ = mm at *
        generalize max sl rl = m1 at *
        generalize min sh rh = m2 at *
        refine wp_region_kw (by kernel_rfl) (by kernel_rfl) ?_
        repeat (go_big_quiet_step ((first | (go_at_call 12; exact quiet_kw (HC1.out _)) | (go_at_call 13; exact quiet_kw (HC2.out _)) | (go_at_call 14; exact quiet_kw (HC3.out _)) | (go_at_call 15; exact quiet_kw (HC4.out _)))))
        refine wpQuiet_nil ?_
        intro _ hw'
        obtain ⟨u, hw''⟩ := hw'
        subst hw''
        go_wp2
        go_roundw
        case rel => exact ⟨k + 1, by omega, by go_num, hbel3.trans (kw_kp _ _)⟩
        case measure => simp [intOf]; omega
      · obtain ⟨wo, rfl⟩ : ∃ wo : World, wo = wr := ⟨_, rfl⟩
        go_wp2_with fail
        refine (Next_any _ _ b vs _ (hb.keep (pl_stable _) hbel) (hv.keep (pl_stable _) hbel)).mono ?_
        rintro e w3 ⟨v3, rfl, own3, hk3⟩
        have hbel3 := hbel.trans hk3
        have S3 := own3.sl encInt_len
        go_wp2_with fail
        refine (rNext_any _ _ b vs _ (hb.keep (pl_stable _) hbel3) (hv.keep (pl_stable _) hbel3)).mono ?_
        rintro e w4 ⟨v4, rfl, own4, hk4⟩
        have hbel4 := hbel3.trans hk4
        have S4 := own4.sl encInt_len
        have S3' := S3.keep (pl_stable _) hk4
        clear own3 own4 S3 hk3 hk4 hbel hbel3
        generalize (nextB b vs).isSome = nx at *
        generalize (nextB b vs).getD [] = L at *
        go_wp2_with fail
        refine (Valid_any _ _ b rows _ (hb.keep (pl_stable _) hbel4) (hr.keep rdRow_stable hbel4)).mono ?_
        rintro e w5 ⟨rfl, hk5⟩
        have hbel5 := (hbel4).trans hk5
        go_wp2_with fail
        refine (rValid_any _ _ b rows _ (hb.keep (pl_stable _) hbel5) (hr.keep rdRow_stable hbel5)).mono ?_
        rintro e w6 ⟨rfl, hk6⟩
        have hbel6 := (hbel5).trans hk6
        generalize validB b rows = x1 at *
        go_wp2_with fail
        refine (Empty_any _ b _ (hb.keep (pl_stable _) hbel6)).mono ?_
        rintro e w7 ⟨rfl, hk7⟩
        have hbel7 := (hbel6).trans hk7
        go_wp2_with fail
        refine (rEmpty_any _ b _ (hb.keep (pl_stable _) hbel7)).mono ?_
        rintro e w8 ⟨rfl, hk8⟩
        have hbel8 := (hbel7).trans hk8
        generalize b.any emptyR = x2 at *
        go_wp2_with fail
        refine (Contains_any _ _ b vs _ (hb.keep (pl_stable _) hbel8) (hv.keep (pl_stable _) hbel8)).mono ?_
        rintro e w9 ⟨rfl, hk9⟩
        have hbel9 := (hbel8).trans hk9
        go_wp2_with fail
        refine (rContains_any _ _ b vs _ (hb.keep (pl_stable _) hbel9) (hv.keep (pl_stable _) hbel9)).mono ?_
        rintro e w10 ⟨rfl, hk10⟩
        have hbel10 := (hbel9).trans hk10
        generalize containsB b vs = x3 at *
        go_wp2_with fail
        refine (Size_any _ b _ (hb.keep (pl_stable _) hbel10)).mono ?_
        rintro e w11 ⟨rfl, hk11⟩
        have hbel11 := (hbel10).trans hk11
        go_wp2_with fail
        refine (rSize_any _ b _ (hb.keep (pl_stable _) hbel11)).mono ?_
        rintro e w12 ⟨rfl, hk12⟩
        have hbel12 := (hbel11).trans hk12
        generalize sizeB b = x4 at *
        have S3'' := S3'.keep (pl_stable _) (((((((hk5.trans hk6).trans hk7).trans hk8).trans hk9).trans hk10).trans hk11).trans hk12)
        have S4'' := S4.keep (pl_stable _) (((((((hk5.trans hk6).trans hk7).trans hk8).trans hk9).trans hk10).trans hk11).trans hk12)
        go_wp2_with fail
        refine (EqualInt_any _ _ L L _ S3'' S4'').mono ?_
        rintro e w13 ⟨rfl, hk13⟩
        rw [(eqI_iff L L).2 rfl]
        go_wp2
        go_ret
        exact ⟨rfl, hbel12.trans hk13⟩

theorem own : ownKnob Try.prog.godebug = none := by kernel_rfl
theorem laidOut : laidOutB Try.prog = true := by kernel_rfl
set_option maxRecDepth 100000 in
theorem lifted (os : Os) (started : os.Started) (H : Type) (enc : TypeId × Value → H) :
    ReturnsInHanded {} Try.checked os 3 .any (Rows.intervalBasicsSpec.pre6 enc Try.prog Try.f3 Rows.intervalBasicsRow.domain false) (Rows.intervalBasicsSpec.post enc Try.prog Try.f3 false true false false) := by
  refine returnsInHanded_of_change (C := Try.checked) own started (by kernel_rfl) Try.func3
    (ChangeSpec.witness6 (enc := enc) (C := Try.checked) false ⟨#[], #[.slice none 0 0, .slice none 0 0, .slice none 0 0], []⟩ 8 (by kernel_rfl) (by kernel_rfl) (by kernel_rfl) (by kernel_rfl)) ?_
  intro W base args ds gs before hval0 hW hcnd _
  have hval : ∀ (j : Nat) t v, Try.f3.params[j]? = some t → args[j]? = some v → Value.okWide Try.prog W .any base t v := hval0
  have hW' := hW
  obtain ⟨p, q, hA0, hV, rfl, hfz, hnd⟩ := hW
  have hA : DataW.TrodAll enc Try.prog W 0 (fun _ => true) true Try.f3.params.toList args.toList ds p := hA0
  rw [Try.params3] at hA hval
  obtain ⟨v0, vs0, d0, ds0, p0, q0, hargs, rfl, rfl, h0, r0⟩ := trodAll_cons hA
  obtain ⟨v1, vs1, d1, ds1, p1, q1, rfl, rfl, rfl, h1, r1⟩ := trodAll_cons r0
  obtain ⟨v2, vs2, d2, ds2, p2, q2, rfl, rfl, rfl, h2, r2⟩ := trodAll_cons r1
  obtain ⟨rfl, rfl, rfl⟩ := trodAll_nil r2
  obtain rfl : args = #[v0, v1, v2] := by cases args; simp_all
  obtain ⟨rfl, rfl⟩ := trodVars_none hV
  have lt0 : ∀ x ∈ p0, x.block < W.heap.size := by obtain ⟨m, hm⟩ := h0; exact DataW.trod_lt m _ _ _ hm
  have lt1 : ∀ x ∈ p1, x.block < W.heap.size := by obtain ⟨m, hm⟩ := h1; exact DataW.trod_lt m _ _ _ hm
  have lt2 : ∀ x ∈ p2, x.block < W.heap.size := by obtain ⟨m, hm⟩ := h2; exact DataW.trod_lt m _ _ _ hm
  obtain ⟨a0, len0, cap0, rfl⟩ := okWide_slice Try.underlying22 (hval 0 22 v0 rfl rfl)
  obtain ⟨n0, hn0⟩ := trod_slice_value h0
  obtain ⟨x0, hx0⟩ := opRngs hn0
  obtain ⟨a1, len1, cap1, rfl⟩ := okWide_slice Try.underlying23 (hval 1 23 v1 rfl rfl)
  obtain ⟨n1, hn1⟩ := trod_slice_value h1
  obtain ⟨x1, hx1⟩ := opRows hn1
  obtain ⟨a2, len2, cap2, rfl⟩ := okWide_slice Try.underlying24 (hval 2 24 v2 rfl rfl)
  obtain ⟨n2, hn2⟩ := trod_slice_value h2
  obtain ⟨x2, hx2⟩ := opInts hn2
  clear hA0 hval0
  refine (walk _ _ _ x0 x1 x2 W hx0 hx1 hx2).mono fun e W' ⟨he, bel⟩ => ?_
  subst he
  exact ⟨_, rfl, _, _, _, [], _, [], hW', trodAll_mk1 (shut_bool Try.underlying4 _), (trodAll_cons_mk (Below.trod laidOut (by kernel_rfl) (of_decide_eq_true (by kernel_rfl)) h0 bel lt0) (trodAll_cons_mk (Below.trod laidOut (by kernel_rfl) (of_decide_eq_true (by kernel_rfl)) h1 bel lt1) (trodAll_cons_mk (Below.trod laidOut (by kernel_rfl) (of_decide_eq_true (by kernel_rfl)) h2 bel lt2) trodAll_mk0))), rfl, Below.frame bel _, fun h => by cases h⟩
theorem over : Rows.intervalBasicsRow.holds Try.pinned (OpenSpec.ofChange Rows.intervalBasicsSpec) :=
  OpenClaim.holds_of_wide 3 Try.f3 rfl rfl rfl rfl rfl rfl rfl ⟨rfl, rfl, rfl, rfl, rfl⟩ rfl rfl rfl rfl rfl (by kernel_rfl) Try.func3 (by kernel_rfl)
    (of_decide_eq_true (by kernel_rfl)) (by unfold Func.isWrapper; first | (rw [if_pos (by decide +kernel)]; kernel_rfl) | (rw [if_neg (by decide +kernel)]; exact ⟨rfl, rfl⟩))
    (fun os started H enc _ => lifted os started H enc)
theorem proved : Rows.IntervalBasicsSaid := over
end Go.Proofs.Ytmecjjfpgjpeoaa.lawBasics
