
/-
SearchFinds: for every system and budget the law returns true and leaves its arguments as they were.
-/
import Derived.Test.YtlbhidiliogflaaGreatSrP
import Derived.Test.YtlbhidiliogflaaGreatSysOpen
namespace Go.Proofs.YtlbhidiliogflaaGreat.lawFinds
set_option linter.unusedSimpArgs false
set_option linter.unusedVariables false
open Go.ChangeShapes Go.WideShapes Go.ChangeAt Go.RowKit

set_option maxRecDepth 10000 in
set_option maxHeartbeats 8000000 in
theorem walk (va : Value) (s : Sys) (bud : Int) (w : World) (hs : SysV w va s) :
    Calls Tryz.prog 3 #[va, .int .i64 bud] w fun e w' => e = .returned (.bool true) ∧ Kp w w' := by
  have hs' := hs
  obtain ⟨Ab, cb, Ar, cr, Ag, cg, Ac, cc, rfl, hb, hr, hg, hc⟩ := hs'
  obtain ⟨l1, m1⟩ := hb.caps
  obtain ⟨l2, m2⟩ := hr.caps
  obtain ⟨l3, m3⟩ := hg.caps
  obtain ⟨l4, m4⟩ := hc.caps
  have K := (Kp.refl w).alloc (.cells #[.slice Ab s.box.length cb, .slice Ar s.rows.length cr, .slice Ag s.graphs.length cg, .slice Ac s.cases.length cc] 27)
  have B := SysB.new w #[.slice Ab s.box.length cb, .slice Ar s.rows.length cr, .slice Ag s.graphs.length cg, .slice Ac s.cases.length cc] 27
  go_enter Tryz.func3, Tryz.ntmps3
  go_wp2_with fail
  generalize w.alloc (.cells #[.slice Ab s.box.length cb, .slice Ar s.rows.length cr, .slice Ag s.graphs.length cg, .slice Ac s.cases.length cc] 27) = w0 at *
  generalize hb0 : w.heap.size = b0 at *
  replace hb0 := hid hb0
  refine (awake20_any _).mono ?_
  rintro e w1 ⟨rfl, k1⟩
  replace B := B.keep k1
  replace K := K.trans k1
  clear k1
  obtain ⟨s0, s1, s2, s3⟩ := B.cells
  have hgl := block_lt_of_cell s0
  go_wp2_with fail
  refine (lawFew_any _ s 2000 _ (hs.keep K)).mono ?_
  rintro e w2 ⟨rfl, k2⟩
  clear s0 s1 s2 s3 hgl
  replace B := B.keep k2
  replace K := K.trans k2
  obtain ⟨s0, s1, s2, s3⟩ := B.cells
  have hgl := block_lt_of_cell s0
  cases hF : fewL s 2000 with
  | false =>
    clear hF
    go_wp2
    go_ret
    exact ⟨rfl, K⟩
  | true =>
    clear hF
    obtain ⟨R, hR⟩ : ∃ R, findR s bud = R := ⟨_, rfl⟩
    obtain ⟨⟨kd, ce, vs, t, sp⟩, er⟩ := R
    have HF := Find_any _ s bud w2 (hs.keep K)
    rw [hR] at HF
    replace HF := hid HF
    replace hR := hid hR
    go_wp2_with fail
    refine HF.out.mono ?_
    rintro e w3 ⟨cs, rfl, hx, k3⟩
    obtain ⟨A1, c1, p0, A2, n2, c2, p2, p3, A4, n4, c4, rfl⟩ := rdAns_cells hx
    dsimp only at hx
    have kx := (Kp.refl w3).alloc (.cells #[.int .i64 kd, .int .i64 ce, .slice A1 vs.length c1, .int .i64 p0, .slice A2 n2 c2, .int .i64 p2, .int .i64 p3, .slice A4 n4 c4, .int .i64 sp] 36)
    have BX := Bx.new w3 #[.int .i64 kd, .int .i64 ce, .slice A1 vs.length c1, .int .i64 p0, .slice A2 n2 c2, .int .i64 p2, .int .i64 p3, .slice A4 n4 c4, .int .i64 sp] 36
    replace hx := hid (rdAns_stable _ _ _ _ kx hx)
    go_upto_region 6 with (fail)
    generalize w3.alloc (.cells #[.int .i64 kd, .int .i64 ce, .slice A1 vs.length c1, .int .i64 p0, .slice A2 n2 c2, .int .i64 p2, .int .i64 p3, .slice A4 n4 c4, .int .i64 sp] 36) = w4 at *
    obtain ⟨tx, htx⟩ : ∃ tx, tx = w3.heap.size := ⟨_, rfl⟩
    rw [← htx] at BX ⊢
    replace htx := hid htx
    have k34 := k3.trans kx
    clear HF k3 kx
    clear s0 s1 s2 s3 hgl
    replace B := B.keep k34
    replace K := K.trans k34
    obtain ⟨s0, s1, s2, s3⟩ := B.cells
    have hgl := block_lt_of_cell s0
    have HG := rFind_any _ s bud w4 (hs.keep K)
    rw [hR.out] at HG
    replace HG := hid HG
    go_wp2_with fail
    refine HG.out.mono ?_
    rintro e w5 ⟨cs, rfl, hy, k5⟩
    obtain ⟨B1, d1, r0, B2, m2, d2, r2, r3, B4, m4, d4, rfl⟩ := rdAns_cells hy
    dsimp only at hy
    have ky := (Kp.refl w5).alloc (.cells #[.int .i64 kd, .int .i64 ce, .slice B1 vs.length d1, .int .i64 r0, .slice B2 m2 d2, .int .i64 r2, .int .i64 r3, .slice B4 m4 d4, .int .i64 sp] 36)
    have BY := Bx.new w5 #[.int .i64 kd, .int .i64 ce, .slice B1 vs.length d1, .int .i64 r0, .slice B2 m2 d2, .int .i64 r2, .int .i64 r3, .slice B4 m4 d4, .int .i64 sp] 36
    replace hy := hid (rdAns_stable _ _ _ _ ky hy)
    go_upto_region 7 with (fail)
    generalize w5.alloc (.cells #[.int .i64 kd, .int .i64 ce, .slice B1 vs.length d1, .int .i64 r0, .slice B2 m2 d2, .int .i64 r2, .int .i64 r3, .slice B4 m4 d4, .int .i64 sp] 36) = w6 at *
    obtain ⟨ty, hty⟩ : ∃ ty, ty = w5.heap.size := ⟨_, rfl⟩
    rw [← hty] at BY ⊢
    replace hty := hid hty
    have k46 := k5.trans ky
    clear HG k5 ky
    have BX6 := BX.kp k46 (BX.lt (by simp))
    replace hx := hid (rdAns_stable _ _ _ _ k46 hx.out)
    have kE := K.trans k46
    clear s0 s1 s2 s3 hgl BX k46
    try simp only [List.toList_toArray] at BX6 BY
    obtain ⟨lx, hlx⟩ : ∃ lx : List Value, Hid (lx = (#[.int .i64 kd, .int .i64 ce, .slice A1 vs.length c1, .int .i64 p0, .slice A2 n2 c2, .int .i64 p2, .int .i64 p3, .slice A4 n4 c4, .int .i64 sp]).toList) := ⟨_, hid rfl⟩
    obtain ⟨ly, hly⟩ : ∃ ly : List Value, Hid (ly = (#[.int .i64 kd, .int .i64 ce, .slice B1 vs.length d1, .int .i64 r0, .slice B2 m2 d2, .int .i64 r2, .int .i64 r3, .slice B4 m4 d4, .int .i64 sp]).toList) := ⟨_, hid rfl⟩
    have ix : (Tryz.prog.info? 36).map (·.size) = some lx.length := by rw [hlx.out]; kernel_rfl
    have iy : (Tryz.prog.info? 36).map (·.size) = some ly.length := by rw [hly.out]; kernel_rfl
    have ex : [Value.int .i64 kd, .int .i64 ce, .slice A1 vs.length c1, .int .i64 p0, .slice A2 n2 c2, .int .i64 p2, .int .i64 p3, .slice A4 n4 c4, .int .i64 sp] = lx := hlx.out.symm
    have ey : [Value.int .i64 kd, .int .i64 ce, .slice B1 vs.length d1, .int .i64 r0, .slice B2 m2 d2, .int .i64 r2, .int .i64 r3, .slice B4 m4 d4, .int .i64 sp] = ly := hly.out.symm
    rw [ex] at BX6 hx
    rw [ey] at BY hy
    clear ex ey
    have rx := BX6.range
    have ry := BY.range
    have hBx := BX6.lt (by rw [hlx.out]; simp)
    have hBy := BY.lt (by rw [hly.out]; simp)
    have eE : (er == er) = true := by simp
    clear BX6 BY
    go_wp2_with (first | (refine wpl_load_mid_g (by kernel_rfl) 36 (.tmp 5) rfl tx 0 rfl lx _ rx Tryz.underlying36 rfl ix ?_) | (refine wpl_load_mid_g (by kernel_rfl) 36 (.tmp 7) rfl ty 0 rfl ly _ ry Tryz.underlying36 rfl iy ?_) | fail)
    refine (rSame20_refl lx ly _ w6 hx.out hy.out).mono ?_
    rintro e w7 ⟨rfl, k7⟩
    have kend := kE.trans k7
    clear rx ry ix iy hx hy
    go_wp2
    go_ret
    exact ⟨rfl, kend⟩
theorem own : ownKnob Tryz.prog.godebug = none := by kernel_rfl
theorem laidOut : laidOutB Tryz.prog = true := by kernel_rfl
set_option maxRecDepth 100000 in
theorem lifted (os : Os) (started : os.Started) (H : Type) (enc : TypeId × Value → H) :
    ReturnsInHanded {} Tryz.checked os 3 .any (Rows.searchFindsSpec.pre6 enc Tryz.prog Tryz.f3 Rows.searchFindsRow.domain false) (Rows.searchFindsSpec.post enc Tryz.prog Tryz.f3 false true false false) := by
  refine returnsInHanded_of_change (C := Tryz.checked) own started (by kernel_rfl) Tryz.func3
    (ChangeSpec.witness6 (enc := enc) (C := Tryz.checked) false ⟨#[], #[.agg #[.slice none 0 0, .slice none 0 0, .slice none 0 0, .slice none 0 0], .int .i64 0], []⟩ 8 (by kernel_rfl) (by kernel_rfl) (by kernel_rfl) (by kernel_rfl)) ?_
  intro W base args ds gs before hval0 hW hcnd _
  have hval : ∀ (j : Nat) t v, Tryz.f3.params[j]? = some t → args[j]? = some v → Value.okWide Tryz.prog W .any base t v := hval0
  have hW' := hW
  obtain ⟨p, q, hA0, hV, rfl, hfz, hnd⟩ := hW
  have hA : DataW.TrodAll enc Tryz.prog W 0 (fun _ => true) true Tryz.f3.params.toList args.toList ds p := hA0
  rw [Tryz.params3] at hA hval
  obtain ⟨v0, vs0, d0, ds0, p0, q0, hargs, rfl, rfl, h0, r0⟩ := trodAll_cons hA
  obtain ⟨v1, vs1, d1, ds1, p1, q1, rfl, rfl, rfl, h1, r1⟩ := trodAll_cons r0
  obtain ⟨rfl, rfl, rfl⟩ := trodAll_nil r1
  obtain rfl : args = #[v0, v1] := by cases args; simp_all
  obtain ⟨rfl, rfl⟩ := trodVars_none hV
  have lt0 : ∀ x ∈ p0, x.block < W.heap.size := by obtain ⟨m, hm⟩ := h0; exact DataW.trod_lt m _ _ _ hm
  have lt1 : ∀ x ∈ p1, x.block < W.heap.size := by obtain ⟨m, hm⟩ := h1; exact DataW.trod_lt m _ _ _ hm
  obtain ⟨s0, hs0⟩ := opSys (hval 0 27 v0 rfl rfl) h0
  obtain ⟨x1, rfl, -, -, wx1⟩ := open_int Tryz.underlying3 (hval 1 3 v1 rfl rfl) h1
  clear hA0 hval0
  refine (walk _ s0 x1 W hs0).mono fun e W' ⟨he, bel⟩ => ?_
  subst he
  exact ⟨_, rfl, _, _, _, [], _, [], hW', trodAll_mk1 (shut_bool Tryz.underlying4 _), (trodAll_cons_mk (Below.trod laidOut (by kernel_rfl) (of_decide_eq_true (by kernel_rfl)) h0 bel lt0) (trodAll_cons_mk (Below.trod laidOut (by kernel_rfl) (of_decide_eq_true (by kernel_rfl)) h1 bel lt1) trodAll_mk0)), rfl, Below.frame bel _, fun h => by cases h⟩
theorem over : Rows.searchFindsRow.holds Tryz.pinned (OpenSpec.ofChange Rows.searchFindsSpec) :=
  OpenClaim.holds_of_wide 3 Tryz.f3 rfl rfl rfl rfl rfl rfl rfl ⟨rfl, rfl, rfl, rfl, rfl⟩ rfl rfl rfl rfl rfl (by kernel_rfl) Tryz.func3 (by kernel_rfl)
    (of_decide_eq_true (by kernel_rfl)) (by unfold Func.isWrapper; first | (rw [if_pos (by decide +kernel)]; kernel_rfl) | (rw [if_neg (by decide +kernel)]; exact ⟨rfl, rfl⟩))
    (fun os started H enc _ => lifted os started H enc)
theorem proved : Rows.SearchFindsSaid := over
end Go.Proofs.YtlbhidiliogflaaGreat.lawFinds
