
/-
Search, the reference: Find: the walk.
-/
import Derived.Test.YtlbhidiliogflaaGreatSrO
import Derived.Test.YtlbhidiliogflaaGreatSfW
namespace Go.Proofs.YtlbhidiliogflaaGreat
set_option linter.unusedSimpArgs false
set_option linter.unusedVariables false
open Go.RowKit

set_option maxRecDepth 8000 in
set_option maxHeartbeats 8000000 in
theorem rFind_any (va : Value) (s : Sys) (bud : Int) (w : World) (hs : SysV w va s) :
    Calls Tryz.prog 7 #[va, .int .i64 bud] w fun e w' => ∃ cs, e = .returned (.tuple #[.agg cs.toArray, .int .i64 (findR s bud).2]) ∧ rdAns w' cs (findR s bud).1 ∧ Kp w w' := by
  have hs' := hs
  obtain ⟨Ab, cb, Ar, cr, Ag, cg, Ac, cc, rfl, hb, hr, hg, hc⟩ := hs'
  obtain ⟨l1, m1⟩ := hb.caps
  obtain ⟨l2, m2⟩ := hr.caps
  obtain ⟨l3, m3⟩ := hg.caps
  obtain ⟨l4, m4⟩ := hc.caps
  obtain ⟨PR, hPR⟩ : ∃ PR, Hid (findR s bud = PR) := ⟨_, hid rfl⟩
  rw [hPR.out]
  have k0 := (Kp.refl w).alloc (.cells #[.slice Ab s.box.length cb, .slice Ar s.rows.length cr, .slice Ag s.graphs.length cg, .slice Ac s.cases.length cc] 27)
  have B0 := SysB.new w #[.slice Ab s.box.length cb, .slice Ar s.rows.length cr, .slice Ag s.graphs.length cg, .slice Ac s.cases.length cc] 27
  have z0 := World.size_alloc w (.cells #[.slice Ab s.box.length cb, .slice Ar s.rows.length cr, .slice Ag s.graphs.length cg, .slice Ac s.cases.length cc] 27)
  have BA := Bx.new (w.alloc (.cells #[.slice Ab s.box.length cb, .slice Ar s.rows.length cr, .slice Ag s.graphs.length cg, .slice Ac s.cases.length cc] 27)) [.int .i64 0, .int .i64 0, .slice none 0 0, .int .i64 0, .slice none 0 0, .int .i64 0, .int .i64 0, .slice none 0 0, .int .i64 0].toArray 36
  have zA := World.size_alloc (w.alloc (.cells #[.slice Ab s.box.length cb, .slice Ar s.rows.length cr, .slice Ag s.graphs.length cg, .slice Ac s.cases.length cc] 27)) (.cells [.int .i64 0, .int .i64 0, .slice none 0 0, .int .i64 0, .slice none 0 0, .int .i64 0, .int .i64 0, .slice none 0 0, .int .i64 0].toArray 36)
  have kA := (Kp.refl (w.alloc (.cells #[.slice Ab s.box.length cb, .slice Ar s.rows.length cr, .slice Ag s.graphs.length cg, .slice Ac s.cases.length cc] 27))).alloc (.cells [.int .i64 0, .int .i64 0, .slice none 0 0, .int .i64 0, .slice none 0 0, .int .i64 0, .int .i64 0, .slice none 0 0, .int .i64 0].toArray 36)
  go_enter Tryz.func7, Tryz.ntmps7
  go_wp2_with fail
  generalize w.alloc (.cells #[.slice Ab s.box.length cb, .slice Ar s.rows.length cr, .slice Ag s.graphs.length cg, .slice Ac s.cases.length cc] 27) = w00 at *
  generalize w00.alloc (.cells [.int .i64 0, .int .i64 0, .slice none 0 0, .int .i64 0, .slice none 0 0, .int .i64 0, .int .i64 0, .slice none 0 0, .int .i64 0].toArray 36) = w0 at *
  obtain ⟨b0, hb0⟩ : ∃ b0, b0 = w.heap.size := ⟨_, rfl⟩
  obtain ⟨tA, htA⟩ : ∃ tA, tA = b0 + 1 := ⟨_, rfl⟩
  rw [← hb0] at B0 z0 ⊢
  rw [z0, ← htA] at BA zA
  rw [← htA] at z0
  rw [← htA]
  try simp only [List.toList_toArray] at BA
  have hwA : Hid (w.heap.size ≤ tA) := hid (by omega)
  have hlA : tA < w0.heap.size := by omega
  replace hb0 := hid hb0
  replace htA := hid htA
  replace z0 := hid z0
  replace zA := hid zA
  have kk0 := k0.trans kA
  refine (qValid_any _ s _ (hs.keep kk0)).mono ?_
  rintro e w1 ⟨rfl, k1⟩
  have B1 := (B0.keep kA).keep k1
  have BA1 := BA.kp k1 (by omega)
  replace k1 := kk0.trans k1
  obtain ⟨c0, c1, c2, c3⟩ := B1.cells
  have hgl := block_lt_of_cell c0
  clear kA k0 BA B0 kk0
  cases hV : validS s with
  | false =>
    have hX : PR = (⟨0, 0, [], zTr, 0⟩, 1) := hPR.out.symm.trans (findR_bad hV)
    subst hX
    clear hV
    have y0 := (BA1).cell (j := 0) rfl
    have y1 := (BA1).cell (j := 1) rfl
    have y2 := (BA1).cell (j := 2) rfl
    have y3 := (BA1).cell (j := 3) rfl
    have y4 := (BA1).cell (j := 4) rfl
    have y5 := (BA1).cell (j := 5) rfl
    have y6 := (BA1).cell (j := 6) rfl
    have y7 := (BA1).cell (j := 7) rfl
    have y8 := (BA1).cell (j := 8) rfl
    have f0 := (BA1).free (j := 0) (by simp)
    have f1 := (BA1).free (j := 1) (by simp)
    have f2 := (BA1).free (j := 2) (by simp)
    have f3 := (BA1).free (j := 3) (by simp)
    have f4 := (BA1).free (j := 4) (by simp)
    have f5 := (BA1).free (j := 5) (by simp)
    have f6 := (BA1).free (j := 6) (by simp)
    have f7 := (BA1).free (j := 7) (by simp)
    have f8 := (BA1).free (j := 8) (by simp)
    go_wp2
    try simp only [Exit.inBlock, Exit.then]
    have BE := (BA1).all (cs := [.int .i64 0, .int .i64 0, .slice none 0 0, .int .i64 0, .slice none 0 0, .int .i64 0, .int .i64 0, .slice none 0 0, .int .i64 0]) rfl
    change bodyPost _ _ _ _ _ (w1.setCells tA 0 [.int .i64 0, .int .i64 0, .slice none 0 0, .int .i64 0, .slice none 0 0, .int .i64 0, .int .i64 0, .slice none 0 0, .int .i64 0])
    refine bodyPost_ret (results_cell_bx2 rfl _ (w1.setCells tA 0 [.int .i64 0, .int .i64 0, .slice none 0 0, .int .i64 0, .slice none 0 0, .int .i64 0, .int .i64 0, .slice none 0 0, .int .i64 0]) tA [.int .i64 0, .int .i64 0, .slice none 0 0, .int .i64 0, .slice none 0 0, .int .i64 0, .int .i64 0, .slice none 0 0, .int .i64 0] _ rfl BE.range Tryz.underlying36 rfl (by kernel_rfl)) rfl ?_
    have kS : Fx (fun q => q = tA) w1 (w1.setCells tA 0 [.int .i64 0, .int .i64 0, .slice none 0 0, .int .i64 0, .slice none 0 0, .int .i64 0, .int .i64 0, .slice none 0 0, .int .i64 0]) := setsFx tA 0 _ _ (Fx.refl _ _) (.inl rfl)
    have kE := kS.kp_of k1 (fun q e => by rw [e]; exact hwA.out)
    exact ⟨_, rfl, ⟨_, _, _, _, _, _, rfl, Sl.nil _ _ _, rdTr_z _ _ _ (Sl.nil _ _ _)⟩, kE⟩
  | true =>
    replace hV := hid hV
    go_wp2_with fail
    refine (rSmall_any bud _).mono ?_
    rintro e w2 ⟨rfl, rfl⟩
    by_cases h1 : 0 ≤ bud ∧ bud ≤ 65536
    · have hsm : smallB bud = true := by unfold smallB; rw [decide_eq_true h1.1, decide_eq_true h1.2]; rfl
      rw [hsm]
      clear hsm
      obtain ⟨b, rfl⟩ := Int.eq_ofNat_of_zero_le h1.1
      have hb9 : b ≤ 65536 := by omega
      obtain ⟨g1, g2, g3, g4, g5⟩ := sys_parts hV.out
      obtain ⟨v1, v2, ⟨v3, -⟩, v4, v5, v6, v7⟩ := validS_parts hV.out
      have HN := rNode_any s hV.out b _ _ _ s.rows s.box true b (b : Int) w2 (hs.keep k1) (hr.keep rdRow_stable k1) (hb.keep (pl_stable _) k1) g4 g2 (by omega) (fun _ _ => ⟨rfl, rfl⟩) hb9 (Nat.le_refl _) rfl
      rw [nodeG_root] at HN
      obtain ⟨G, hG⟩ : ∃ G, Hid (rootF s b = G) := ⟨_, hid rfl⟩
      rw [hG.out] at HN
      replace HN := hid HN
      clear g1 g2 g3 g4 g5 v1 v2 v3 v4 v5 v6 v7
      replace h1 := hid h1
      go_wp2_with fail
      refine HN.out.mono ?_
      rintro e w4 ⟨k4, hq⟩
      have BA4 := BA1.kp k4 (BA1.lt (by simp))
      have k04 := k1.trans k4
      have hA4 := BA1.lt (by simp)
      clear HN c0 c1 c2 c3 hgl
      cases G with
      | out =>
        have hX : PR = (⟨2, 0, [], zTr, (b : Int)⟩, 0) := hPR.out.symm.trans (findR_out hV.out h1.out (by rw [Int.toNat_natCast]; exact hG.out))
        subst hX
        subst hq
        have kY := (Kp.refl w4).alloc (.cells ([.int .i64 2, .int .i64 0, .slice none 0 0, .int .i64 0, .slice none 0 0, .int .i64 0, .int .i64 0, .slice none 0 0, .int .i64 0]).toArray 36)
        have BY := Bx.new w4 ([.int .i64 2, .int .i64 0, .slice none 0 0, .int .i64 0, .slice none 0 0, .int .i64 0, .int .i64 0, .slice none 0 0, .int .i64 0]).toArray 36
        have zY := World.size_alloc w4 (.cells ([.int .i64 2, .int .i64 0, .slice none 0 0, .int .i64 0, .slice none 0 0, .int .i64 0, .int .i64 0, .slice none 0 0, .int .i64 0]).toArray 36)
        go_upto_region 6 with (fail)
        generalize (w4).alloc (.cells ([.int .i64 2, .int .i64 0, .slice none 0 0, .int .i64 0, .slice none 0 0, .int .i64 0, .int .i64 0, .slice none 0 0, .int .i64 0]).toArray 36) = w9 at *
        obtain ⟨ty, hty⟩ : ∃ ty, ty = (w4).heap.size := ⟨_, rfl⟩
        rw [← hty] at BY zY ⊢
        try simp only [List.toList_toArray] at BY
        have hyz : (w4).heap.size ≤ ty := by rw [hty]; exact Nat.le_refl _
        replace hty := hid hty
        have u0 := (BY).cell (j := 0) rfl
        have u1 := (BY).cell (j := 1) rfl
        have u2 := (BY).cell (j := 2) rfl
        have u3 := (BY).cell (j := 3) rfl
        have u4 := (BY).cell (j := 4) rfl
        have u5 := (BY).cell (j := 5) rfl
        have u6 := (BY).cell (j := 6) rfl
        have u7 := (BY).cell (j := 7) rfl
        have u8 := (BY).cell (j := 8) rfl
        have hyl := BY.lt (by simp)
        have BA9 := BA4.kp kY (BA4.lt (by simp))
        have k09 := k04.trans kY
        have y0 := (BA9).cell (j := 0) rfl
        have y1 := (BA9).cell (j := 1) rfl
        have y2 := (BA9).cell (j := 2) rfl
        have y3 := (BA9).cell (j := 3) rfl
        have y4 := (BA9).cell (j := 4) rfl
        have y5 := (BA9).cell (j := 5) rfl
        have y6 := (BA9).cell (j := 6) rfl
        have y7 := (BA9).cell (j := 7) rfl
        have y8 := (BA9).cell (j := 8) rfl
        have f0 := (BA9).free (j := 0) (by simp)
        have f1 := (BA9).free (j := 1) (by simp)
        have f2 := (BA9).free (j := 2) (by simp)
        have f3 := (BA9).free (j := 3) (by simp)
        have f4 := (BA9).free (j := 4) (by simp)
        have f5 := (BA9).free (j := 5) (by simp)
        have f6 := (BA9).free (j := 6) (by simp)
        have f7 := (BA9).free (j := 7) (by simp)
        have f8 := (BA9).free (j := 8) (by simp)
        go_wp2
        try simp only [Exit.inBlock, Exit.then]
        have BE := (BA9).all (cs := [.int .i64 2, .int .i64 0, .slice none 0 0, .int .i64 0, .slice none 0 0, .int .i64 0, .int .i64 0, .slice none 0 0, .int .i64 (b : Int)]) rfl
        change bodyPost _ _ _ _ _ (w9.setCells tA 0 [.int .i64 2, .int .i64 0, .slice none 0 0, .int .i64 0, .slice none 0 0, .int .i64 0, .int .i64 0, .slice none 0 0, .int .i64 (b : Int)])
        refine bodyPost_ret (results_cell_bx2 rfl _ (w9.setCells tA 0 [.int .i64 2, .int .i64 0, .slice none 0 0, .int .i64 0, .slice none 0 0, .int .i64 0, .int .i64 0, .slice none 0 0, .int .i64 (b : Int)]) tA [.int .i64 2, .int .i64 0, .slice none 0 0, .int .i64 0, .slice none 0 0, .int .i64 0, .int .i64 0, .slice none 0 0, .int .i64 (b : Int)] _ rfl BE.range Tryz.underlying36 rfl (by kernel_rfl)) rfl ?_
        have kS : Fx (fun q => q = tA) w9 (w9.setCells tA 0 [.int .i64 2, .int .i64 0, .slice none 0 0, .int .i64 0, .slice none 0 0, .int .i64 0, .int .i64 0, .slice none 0 0, .int .i64 (b : Int)]) := setsFx tA 0 _ _ (Fx.refl _ _) (.inl rfl)
        have kE := kS.kp_of k09 (fun q e => by rw [e]; exact hwA.out)
        exact ⟨_, rfl, ⟨_, _, _, _, _, _, rfl, Sl.nil _ _ _, rdTr_z _ _ _ (Sl.nil _ _ _)⟩, kE⟩
      | sol vs i d =>
        have hX : PR = (⟨0, i, vs, zTr, d⟩, 0) := hPR.out.symm.trans (findR_sol hV.out h1.out (by rw [Int.toNat_natCast]; exact hG.out))
        subst hX
        obtain ⟨hd, Ao, co, rfl, hOv⟩ := hq
        have kY := (Kp.refl w4).alloc (.cells ([.int .i64 0, .int .i64 (i : Int), .slice Ao vs.length co, .int .i64 0, .slice none 0 0, .int .i64 0, .int .i64 0, .slice none 0 0, .int .i64 (d : Int)]).toArray 36)
        have BY := Bx.new w4 ([.int .i64 0, .int .i64 (i : Int), .slice Ao vs.length co, .int .i64 0, .slice none 0 0, .int .i64 0, .int .i64 0, .slice none 0 0, .int .i64 (d : Int)]).toArray 36
        have zY := World.size_alloc w4 (.cells ([.int .i64 0, .int .i64 (i : Int), .slice Ao vs.length co, .int .i64 0, .slice none 0 0, .int .i64 0, .int .i64 0, .slice none 0 0, .int .i64 (d : Int)]).toArray 36)
        go_upto_region 6 with (fail)
        generalize (w4).alloc (.cells ([.int .i64 0, .int .i64 (i : Int), .slice Ao vs.length co, .int .i64 0, .slice none 0 0, .int .i64 0, .int .i64 0, .slice none 0 0, .int .i64 (d : Int)]).toArray 36) = w9 at *
        obtain ⟨ty, hty⟩ : ∃ ty, ty = (w4).heap.size := ⟨_, rfl⟩
        rw [← hty] at BY zY ⊢
        try simp only [List.toList_toArray] at BY
        have hyz : (w4).heap.size ≤ ty := by rw [hty]; exact Nat.le_refl _
        replace hty := hid hty
        have u0 := (BY).cell (j := 0) rfl
        have u1 := (BY).cell (j := 1) rfl
        have u2 := (BY).cell (j := 2) rfl
        have u3 := (BY).cell (j := 3) rfl
        have u4 := (BY).cell (j := 4) rfl
        have u5 := (BY).cell (j := 5) rfl
        have u6 := (BY).cell (j := 6) rfl
        have u7 := (BY).cell (j := 7) rfl
        have u8 := (BY).cell (j := 8) rfl
        have hyl := BY.lt (by simp)
        have BA9 := BA4.kp kY (BA4.lt (by simp))
        have k09 := k04.trans kY
        have hge := hOv.ge
        have hO9 := hOv.kp kY
        have y0 := (BA9).cell (j := 0) rfl
        have y1 := (BA9).cell (j := 1) rfl
        have y2 := (BA9).cell (j := 2) rfl
        have y3 := (BA9).cell (j := 3) rfl
        have y4 := (BA9).cell (j := 4) rfl
        have y5 := (BA9).cell (j := 5) rfl
        have y6 := (BA9).cell (j := 6) rfl
        have y7 := (BA9).cell (j := 7) rfl
        have y8 := (BA9).cell (j := 8) rfl
        have f0 := (BA9).free (j := 0) (by simp)
        have f1 := (BA9).free (j := 1) (by simp)
        have f2 := (BA9).free (j := 2) (by simp)
        have f3 := (BA9).free (j := 3) (by simp)
        have f4 := (BA9).free (j := 4) (by simp)
        have f5 := (BA9).free (j := 5) (by simp)
        have f6 := (BA9).free (j := 6) (by simp)
        have f7 := (BA9).free (j := 7) (by simp)
        have f8 := (BA9).free (j := 8) (by simp)
        go_wp2
        try simp only [Exit.inBlock, Exit.then]
        have BE := (BA9).all (cs := [.int .i64 0, .int .i64 (i : Int), .slice Ao vs.length co, .int .i64 0, .slice none 0 0, .int .i64 0, .int .i64 0, .slice none 0 0, .int .i64 (d : Int)]) rfl
        change bodyPost _ _ _ _ _ (w9.setCells tA 0 [.int .i64 0, .int .i64 (i : Int), .slice Ao vs.length co, .int .i64 0, .slice none 0 0, .int .i64 0, .int .i64 0, .slice none 0 0, .int .i64 (d : Int)])
        refine bodyPost_ret (results_cell_bx2 rfl _ (w9.setCells tA 0 [.int .i64 0, .int .i64 (i : Int), .slice Ao vs.length co, .int .i64 0, .slice none 0 0, .int .i64 0, .int .i64 0, .slice none 0 0, .int .i64 (d : Int)]) tA [.int .i64 0, .int .i64 (i : Int), .slice Ao vs.length co, .int .i64 0, .slice none 0 0, .int .i64 0, .int .i64 0, .slice none 0 0, .int .i64 (d : Int)] _ rfl BE.range Tryz.underlying36 rfl (by kernel_rfl)) rfl ?_
        have kS : Fx (fun q => q = tA) w9 (w9.setCells tA 0 [.int .i64 0, .int .i64 (i : Int), .slice Ao vs.length co, .int .i64 0, .slice none 0 0, .int .i64 0, .int .i64 0, .slice none 0 0, .int .i64 (d : Int)]) := setsFx tA 0 _ _ (Fx.refl _ _) (.inl rfl)
        have kE := kS.kp_of k09 (fun q e => by rw [e]; exact hwA.out)
        have hOE := hO9.fx kS (fun q hq e => by have h1 := hge q hq; have e : q = tA := e; omega)
        exact ⟨_, rfl, ⟨_, _, _, _, _, _, rfl, hOE.sl encInt_len, rdTr_z _ _ _ (Sl.nil _ _ _)⟩, kE⟩
      | ref t d =>
        have hX : PR = (⟨1, 0, [], t, d⟩, 0) := hPR.out.symm.trans (findR_ref hV.out h1.out (by rw [Int.toNat_natCast]; exact hG.out))
        subst hX
        obtain ⟨hd, q0, q1, q2, q3, q4, rfl, hT⟩ := hq
        obtain ⟨p0, p2, p3, A1, A4, n1, c1', n4, c4', rfl, rfl, rfl, rfl, rfl⟩ := rdTr_form hT.here
        have kY := (Kp.refl w4).alloc (.cells ([.int .i64 1, .int .i64 0, .slice none 0 0, .int .i64 p0, .slice A1 n1 c1', .int .i64 p2, .int .i64 p3, .slice A4 n4 c4', .int .i64 (d : Int)]).toArray 36)
        have BY := Bx.new w4 ([.int .i64 1, .int .i64 0, .slice none 0 0, .int .i64 p0, .slice A1 n1 c1', .int .i64 p2, .int .i64 p3, .slice A4 n4 c4', .int .i64 (d : Int)]).toArray 36
        have zY := World.size_alloc w4 (.cells ([.int .i64 1, .int .i64 0, .slice none 0 0, .int .i64 p0, .slice A1 n1 c1', .int .i64 p2, .int .i64 p3, .slice A4 n4 c4', .int .i64 (d : Int)]).toArray 36)
        go_upto_region 6 with (fail)
        generalize (w4).alloc (.cells ([.int .i64 1, .int .i64 0, .slice none 0 0, .int .i64 p0, .slice A1 n1 c1', .int .i64 p2, .int .i64 p3, .slice A4 n4 c4', .int .i64 (d : Int)]).toArray 36) = w9 at *
        obtain ⟨ty, hty⟩ : ∃ ty, ty = (w4).heap.size := ⟨_, rfl⟩
        rw [← hty] at BY zY ⊢
        try simp only [List.toList_toArray] at BY
        have hyz : (w4).heap.size ≤ ty := by rw [hty]; exact Nat.le_refl _
        replace hty := hid hty
        have u0 := (BY).cell (j := 0) rfl
        have u1 := (BY).cell (j := 1) rfl
        have u2 := (BY).cell (j := 2) rfl
        have u3 := (BY).cell (j := 3) rfl
        have u4 := (BY).cell (j := 4) rfl
        have u5 := (BY).cell (j := 5) rfl
        have u6 := (BY).cell (j := 6) rfl
        have u7 := (BY).cell (j := 7) rfl
        have u8 := (BY).cell (j := 8) rfl
        have hyl := BY.lt (by simp)
        have BA9 := BA4.kp kY (BA4.lt (by simp))
        have k09 := k04.trans kY
        have hT9 := hT.fx (kY.fx _)
        have y0 := (BA9).cell (j := 0) rfl
        have y1 := (BA9).cell (j := 1) rfl
        have y2 := (BA9).cell (j := 2) rfl
        have y3 := (BA9).cell (j := 3) rfl
        have y4 := (BA9).cell (j := 4) rfl
        have y5 := (BA9).cell (j := 5) rfl
        have y6 := (BA9).cell (j := 6) rfl
        have y7 := (BA9).cell (j := 7) rfl
        have y8 := (BA9).cell (j := 8) rfl
        have f0 := (BA9).free (j := 0) (by simp)
        have f1 := (BA9).free (j := 1) (by simp)
        have f2 := (BA9).free (j := 2) (by simp)
        have f3 := (BA9).free (j := 3) (by simp)
        have f4 := (BA9).free (j := 4) (by simp)
        have f5 := (BA9).free (j := 5) (by simp)
        have f6 := (BA9).free (j := 6) (by simp)
        have f7 := (BA9).free (j := 7) (by simp)
        have f8 := (BA9).free (j := 8) (by simp)
        go_wp2
        try simp only [Exit.inBlock, Exit.then]
        have BE := (BA9).all (cs := [.int .i64 1, .int .i64 0, .slice none 0 0, .int .i64 p0, .slice A1 n1 c1', .int .i64 p2, .int .i64 p3, .slice A4 n4 c4', .int .i64 (d : Int)]) rfl
        change bodyPost _ _ _ _ _ (w9.setCells tA 0 [.int .i64 1, .int .i64 0, .slice none 0 0, .int .i64 p0, .slice A1 n1 c1', .int .i64 p2, .int .i64 p3, .slice A4 n4 c4', .int .i64 (d : Int)])
        refine bodyPost_ret (results_cell_bx2 rfl _ (w9.setCells tA 0 [.int .i64 1, .int .i64 0, .slice none 0 0, .int .i64 p0, .slice A1 n1 c1', .int .i64 p2, .int .i64 p3, .slice A4 n4 c4', .int .i64 (d : Int)]) tA [.int .i64 1, .int .i64 0, .slice none 0 0, .int .i64 p0, .slice A1 n1 c1', .int .i64 p2, .int .i64 p3, .slice A4 n4 c4', .int .i64 (d : Int)] _ rfl BE.range Tryz.underlying36 rfl (by kernel_rfl)) rfl ?_
        have kS : Fx (fun q => q = tA) w9 (w9.setCells tA 0 [.int .i64 1, .int .i64 0, .slice none 0 0, .int .i64 p0, .slice A1 n1 c1', .int .i64 p2, .int .i64 p3, .slice A4 n4 c4', .int .i64 (d : Int)]) := setsFx tA 0 _ _ (Fx.refl _ _) (.inl rfl)
        have kE := kS.kp_of k09 (fun q e => by rw [e]; exact hwA.out)
        have hTE := hT9 _ (kS.mono fun q _ e => by have e : q = tA := e; show q < w2.heap.size; rw [e]; exact hA4)
        exact ⟨_, rfl, ⟨_, _, _, _, _, _, rfl, Sl.nil _ _ _, rdTr_le (by omega) hTE⟩, kE⟩
    · have hsm : smallB bud = false := by
        unfold smallB
        by_cases h2 : 0 ≤ bud
        · rw [decide_eq_false (show ¬ bud ≤ 65536 from fun h => h1 ⟨h2, h⟩), Bool.and_false]
        · rw [decide_eq_false h2]; rfl
      have hX : PR = (⟨0, 0, [], zTr, 0⟩, 2) := hPR.out.symm.trans (findR_bud hV.out h1)
      rw [hsm]
      subst hX
      clear hsm h1
      have y0 := (BA1).cell (j := 0) rfl
      have y1 := (BA1).cell (j := 1) rfl
      have y2 := (BA1).cell (j := 2) rfl
      have y3 := (BA1).cell (j := 3) rfl
      have y4 := (BA1).cell (j := 4) rfl
      have y5 := (BA1).cell (j := 5) rfl
      have y6 := (BA1).cell (j := 6) rfl
      have y7 := (BA1).cell (j := 7) rfl
      have y8 := (BA1).cell (j := 8) rfl
      have f0 := (BA1).free (j := 0) (by simp)
      have f1 := (BA1).free (j := 1) (by simp)
      have f2 := (BA1).free (j := 2) (by simp)
      have f3 := (BA1).free (j := 3) (by simp)
      have f4 := (BA1).free (j := 4) (by simp)
      have f5 := (BA1).free (j := 5) (by simp)
      have f6 := (BA1).free (j := 6) (by simp)
      have f7 := (BA1).free (j := 7) (by simp)
      have f8 := (BA1).free (j := 8) (by simp)
      go_wp2
      try simp only [Exit.inBlock, Exit.then]
      have BE := (BA1).all (cs := [.int .i64 0, .int .i64 0, .slice none 0 0, .int .i64 0, .slice none 0 0, .int .i64 0, .int .i64 0, .slice none 0 0, .int .i64 0]) rfl
      change bodyPost _ _ _ _ _ (w2.setCells tA 0 [.int .i64 0, .int .i64 0, .slice none 0 0, .int .i64 0, .slice none 0 0, .int .i64 0, .int .i64 0, .slice none 0 0, .int .i64 0])
      refine bodyPost_ret (results_cell_bx2 rfl _ (w2.setCells tA 0 [.int .i64 0, .int .i64 0, .slice none 0 0, .int .i64 0, .slice none 0 0, .int .i64 0, .int .i64 0, .slice none 0 0, .int .i64 0]) tA [.int .i64 0, .int .i64 0, .slice none 0 0, .int .i64 0, .slice none 0 0, .int .i64 0, .int .i64 0, .slice none 0 0, .int .i64 0] _ rfl BE.range Tryz.underlying36 rfl (by kernel_rfl)) rfl ?_
      have kS : Fx (fun q => q = tA) w2 (w2.setCells tA 0 [.int .i64 0, .int .i64 0, .slice none 0 0, .int .i64 0, .slice none 0 0, .int .i64 0, .int .i64 0, .slice none 0 0, .int .i64 0]) := setsFx tA 0 _ _ (Fx.refl _ _) (.inl rfl)
      have kE := kS.kp_of k1 (fun q e => by rw [e]; exact hwA.out)
      exact ⟨_, rfl, ⟨_, _, _, _, _, _, rfl, Sl.nil _ _ _, rdTr_z _ _ _ (Sl.nil _ _ _)⟩, kE⟩
/-- a reading answer's form -/
theorem rdAns_cells {w : World} {cs : List Value} {A : Ans} (h : rdAns w cs A) : ∃ A1 c1 p0 A2 n2 c2 p2 p3 A4 n4 c4, cs = [.int .i64 A.kind, .int .i64 A.case, .slice A1 A.values.length c1, .int .i64 p0, .slice A2 n2 c2, .int .i64 p2, .int .i64 p3, .slice A4 n4 c4, .int .i64 A.steps] := by
  obtain ⟨vv, y0, y1, y2, y3, y4, rfl, hv, ht⟩ := h
  obtain ⟨p0, p2, p3, A1, A4, n1, c1, n4, c4, rfl, rfl, rfl, rfl, rfl⟩ := rdTr_form ht
  obtain ⟨A, c, rfl, -, -⟩ := hv.form
  exact ⟨A, c, p0, A1, n1, c1, p2, p3, A4, n4, c4, rfl⟩
end Go.Proofs.YtlbhidiliogflaaGreat
