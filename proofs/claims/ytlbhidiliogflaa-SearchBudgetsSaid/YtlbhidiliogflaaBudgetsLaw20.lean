
/-
SearchBudgets: for every system and budget the law returns true and leaves its arguments as they were.
-/
import Derived.Test.YtlbhidiliogflaaSfW
import Derived.Test.YtlbhidiliogflaaSfB
import Derived.Test.YtlbhidiliogflaaSysOpen
namespace Go.Proofs.Ytlbhidiliogflaa.lawBudgets
set_option linter.unusedSimpArgs false
set_option linter.unusedVariables false
open Go.ChangeShapes Go.WideShapes Go.ChangeAt Go.RowKit

set_option maxRecDepth 10000 in
set_option maxHeartbeats 8000000 in
theorem walk (va : Value) (s : Sys) (bud : Int) (w : World) (hs : SysV w va s) :
    Calls Try.prog 5 #[va, .int .i64 bud] w fun e w' => e = .returned (.bool true) ∧ Kp w w' := by
  have hs' := hs
  obtain ⟨Ab, cb, Ar, cr, Ag, cg, Ac, cc, rfl, hb, hr, hg, hc⟩ := hs'
  obtain ⟨l1, m1⟩ := hb.caps
  obtain ⟨l2, m2⟩ := hr.caps
  obtain ⟨l3, m3⟩ := hg.caps
  obtain ⟨l4, m4⟩ := hc.caps
  have K := (Kp.refl w).alloc (.cells #[.slice Ab s.box.length cb, .slice Ar s.rows.length cr, .slice Ag s.graphs.length cg, .slice Ac s.cases.length cc] 27)
  have B := SysB.new w #[.slice Ab s.box.length cb, .slice Ar s.rows.length cr, .slice Ag s.graphs.length cg, .slice Ac s.cases.length cc] 27
  go_enter Try.func5, Try.ntmps5
  go_wp2_with fail
  generalize w.alloc (.cells #[.slice Ab s.box.length cb, .slice Ar s.rows.length cr, .slice Ag s.graphs.length cg, .slice Ac s.cases.length cc] 27) = w0 at *
  generalize hb0 : w.heap.size = b0 at *
  replace hb0 := hid hb0
  refine (awake20_any _).mono ?_
  rintro e w1 ⟨rfl, k1⟩
  replace B := B.keep k1
  replace K := K.trans k1
  clear k1
  obtain ⟨s0, s1, s2, s3⟩ := B.cells
  have hgl := block_lt_of_cell s0
  go_wp2_with fail
  refine (lawFew_any _ s 300 _ (hs.keep K)).mono ?_
  rintro e w2 ⟨rfl, k2⟩
  clear s0 s1 s2 s3 hgl
  replace B := B.keep k2
  replace K := K.trans k2
  obtain ⟨s0, s1, s2, s3⟩ := B.cells
  have hgl := block_lt_of_cell s0
  cases hF : fewL s 300 with
  | false =>
    clear hF
    go_wp2
    go_ret
    exact ⟨rfl, K⟩
  | true =>
    clear hF
    go_wp2_with fail
    refine (qValid_any _ s _ (hs.keep K)).mono ?_
    rintro e w3 ⟨rfl, k3⟩
    clear s0 s1 s2 s3 hgl
    replace B := B.keep k3
    replace K := K.trans k3
    obtain ⟨s0, s1, s2, s3⟩ := B.cells
    have hgl := block_lt_of_cell s0
    cases hV : validS s with
    | false =>
      clear hV
      go_wp2
      go_ret
      exact ⟨rfl, K⟩
    | true =>
      by_cases h1 : bud < 0
      · have e1 : decide (bud < 0) = true := decide_eq_true h1
        clear hV
        go_wp2
        go_ret
        exact ⟨rfl, K⟩
      have e1 : decide (bud < 0) = false := decide_eq_false h1
      by_cases h2 : 65536 < bud
      · have e2 : decide (65536 < bud) = true := decide_eq_true h2
        clear hV
        go_wp2
        go_ret
        exact ⟨rfl, K⟩
      have e2 : decide (65536 < bud) = false := decide_eq_false h2
      obtain ⟨b, rfl⟩ := Int.eq_ofNat_of_zero_le (show 0 ≤ bud by omega)
      have hb9 : b ≤ 65536 := by omega
      obtain ⟨R, hR⟩ : ∃ R, findR s (b : Int) = R := ⟨_, rfl⟩
      obtain ⟨⟨kd, ce, vs, t, sp⟩, er⟩ := R
      obtain rfl : er = 0 := by
        have := congrArg Prod.snd hR
        rw [findR_at hV b hb9] at this
        exact this.symm
      by_cases hk : kd = 2
      · subst hk
        have hl := find_less hV hb9 (by rw [hR])
        obtain ⟨R', hR'⟩ : ∃ R, findR s 65536 = R := ⟨_, rfl⟩
        obtain ⟨⟨kd', ce', vs', t', sp'⟩, er'⟩ := R'
        obtain rfl : er' = 0 := by
          have := congrArg Prod.snd hR'
          rw [show (65536 : Int) = ((65536 : Nat) : Int) from rfl, findR_at hV 65536 (Nat.le_refl _)] at this
          exact this.symm
        rw [hR, hR'] at hl
        dsimp only at hl
        obtain ⟨rfl, hl2⟩ := hl
        have HL := hid hl2
        have HR := hid hR
        have HR' := hid hR'
        clear hl2 hR hR' hV
        go_wp2_with fail
        refine (Find_form _ s (b : Int) w3 (hs.keep K) 2 ce (b : Int) 0 vs t HR.out).mono ?_
        rintro e w4 ⟨Ax, cx, p0x, A1x, n1x, c1x, p2x, p3x, A4x, n4x, c4x, rfl, hAx, -, -, kc⟩
        have BXx := Bx.new w4 #[.int .i64 2, .int .i64 ce, .slice Ax (vs).length cx, .int .i64 p0x, .slice A1x n1x c1x, .int .i64 p2x, .int .i64 p3x, .slice A4x n4x c4x, .int .i64 (b : Int)] 48
        have kb := (Kp.refl w4).alloc (.cells #[.int .i64 2, .int .i64 ce, .slice Ax (vs).length cx, .int .i64 p0x, .slice A1x n1x c1x, .int .i64 p2x, .int .i64 p3x, .slice A4x n4x c4x, .int .i64 (b : Int)] 48)
        have k35 := kc.trans kb
        replace hAx := hid (rdAns_stable _ _ _ _ kb hAx)
        go_upto_region 6 with (fail)
        generalize w4.alloc (.cells #[.int .i64 2, .int .i64 ce, .slice Ax (vs).length cx, .int .i64 p0x, .slice A1x n1x c1x, .int .i64 p2x, .int .i64 p3x, .slice A4x n4x c4x, .int .i64 (b : Int)] 48) = w5 at *
        obtain ⟨tx, htx⟩ : ∃ tx, tx = w4.heap.size := ⟨_, rfl⟩
        rw [← htx] at BXx ⊢
        replace htx := hid htx
        clear kc kb
        clear s0 s1 s2 s3 hgl
        replace B := B.keep k35
        replace K := K.trans k35
        obtain ⟨s0, s1, s2, s3⟩ := B.cells
        have hgl := block_lt_of_cell s0
        go_wp2_with fail
        refine (Find_form _ s 65536 w5 (hs.keep K) kd' ce' sp' 0 vs' t' HR'.out).mono ?_
        rintro e w6 ⟨Ay, cy, p0y, A1y, n1y, c1y, p2y, p3y, A4y, n4y, c4y, rfl, hAy, -, -, kc⟩
        have BXy := Bx.new w6 #[.int .i64 kd', .int .i64 ce', .slice Ay (vs').length cy, .int .i64 p0y, .slice A1y n1y c1y, .int .i64 p2y, .int .i64 p3y, .slice A4y n4y c4y, .int .i64 sp'] 48
        have kb := (Kp.refl w6).alloc (.cells #[.int .i64 kd', .int .i64 ce', .slice Ay (vs').length cy, .int .i64 p0y, .slice A1y n1y c1y, .int .i64 p2y, .int .i64 p3y, .slice A4y n4y c4y, .int .i64 sp'] 48)
        have k57 := kc.trans kb
        replace hAy := hid (rdAns_stable _ _ _ _ kb hAy)
        go_upto_region 7 with (fail)
        generalize w6.alloc (.cells #[.int .i64 kd', .int .i64 ce', .slice Ay (vs').length cy, .int .i64 p0y, .slice A1y n1y c1y, .int .i64 p2y, .int .i64 p3y, .slice A4y n4y c4y, .int .i64 sp'] 48) = w7 at *
        obtain ⟨ty, hty⟩ : ∃ ty, ty = w6.heap.size := ⟨_, rfl⟩
        rw [← hty] at BXy ⊢
        replace hty := hid hty
        clear kc kb
        clear s0 s1 s2 s3 hgl
        replace B := B.keep k57
        replace K := K.trans k57
        obtain ⟨s0, s1, s2, s3⟩ := B.cells
        have hgl := block_lt_of_cell s0
        have BXx7 := BXx.kp k57 (BXx.lt (by simp))
        have x0 := BXx7.cell (j := 0) rfl
        have x8 := BXx7.cell (j := 8) rfl
        have y0 := BXy.cell (j := 0) rfl
        have y8 := BXy.cell (j := 8) rfl
        have hx7 := BXx7.lt (by simp)
        have hy7 := BXy.lt (by simp)
        have e3 : decide ((b : Int) < (b : Int)) = false := decide_eq_false (by omega)
        have e4 : ((b : Int) == (b : Int)) = true := by simp
        clear BXx BXy BXx7
        by_cases hk' : kd' = 2
        · subst hk'
          go_wp2
          go_ret
          exact ⟨rfl, K⟩
        · have e5 : (kd' == 2) = false := by simpa using hk'
          have e6 : decide ((b : Int) < sp') = true := decide_eq_true (HL.out.resolve_left hk')
          clear hk'
          go_wp2
          go_ret
          exact ⟨rfl, K⟩
      · have he := find_enough hV hb9 (by rw [hR]; exact hk)
        rw [hR] at he
        dsimp only at he
        obtain ⟨c, rfl, hc1, hc2, hM, hC, hL1, hL2⟩ := he
        obtain ⟨R', hR'⟩ : ∃ R, findR s ((c : Int) - 1) = R := ⟨_, rfl⟩
        obtain ⟨⟨kd', ce', vs', t', sp'⟩, er'⟩ := R'
        rw [hR'] at hL1 hL2
        dsimp only at hL1 hL2
        subst hL1 hL2
        have HR := hid hR
        have HM := hid hM
        have HC := hid hC
        have HR' := hid hR'
        have e3 : decide ((b : Int) < (c : Int)) = false := decide_eq_false (by omega)
        have e4 : (kd == 2) = false := by simpa using hk
        have e5 : wrap64 ((c : Int) - 1) = (c : Int) - 1 := IntWalk.wrap64_in _ (by omega)
        clear hR hM hC hR' hV hk
        go_wp2_with fail
        refine (Find_form _ s (b : Int) w3 (hs.keep K) kd ce (c : Int) 0 vs t HR.out).mono ?_
        rintro e w4 ⟨Ax, cx, p0x, A1x, n1x, c1x, p2x, p3x, A4x, n4x, c4x, rfl, hAx, -, -, kc⟩
        have BXx := Bx.new w4 #[.int .i64 kd, .int .i64 ce, .slice Ax (vs).length cx, .int .i64 p0x, .slice A1x n1x c1x, .int .i64 p2x, .int .i64 p3x, .slice A4x n4x c4x, .int .i64 (c : Int)] 48
        have kb := (Kp.refl w4).alloc (.cells #[.int .i64 kd, .int .i64 ce, .slice Ax (vs).length cx, .int .i64 p0x, .slice A1x n1x c1x, .int .i64 p2x, .int .i64 p3x, .slice A4x n4x c4x, .int .i64 (c : Int)] 48)
        have k35 := kc.trans kb
        replace hAx := hid (rdAns_stable _ _ _ _ kb hAx)
        go_upto_region 6 with (fail)
        generalize w4.alloc (.cells #[.int .i64 kd, .int .i64 ce, .slice Ax (vs).length cx, .int .i64 p0x, .slice A1x n1x c1x, .int .i64 p2x, .int .i64 p3x, .slice A4x n4x c4x, .int .i64 (c : Int)] 48) = w5 at *
        obtain ⟨tx, htx⟩ : ∃ tx, tx = w4.heap.size := ⟨_, rfl⟩
        rw [← htx] at BXx ⊢
        replace htx := hid htx
        clear kc kb
        clear s0 s1 s2 s3 hgl
        replace B := B.keep k35
        replace K := K.trans k35
        obtain ⟨s0, s1, s2, s3⟩ := B.cells
        have hgl := block_lt_of_cell s0
        go_wp2_with fail
        refine (Find_form _ s 65536 w5 (hs.keep K) kd ce (c : Int) 0 vs t HM.out).mono ?_
        rintro e w6 ⟨Ay, cy, p0y, A1y, n1y, c1y, p2y, p3y, A4y, n4y, c4y, rfl, hAy, -, -, kc⟩
        have BXy := Bx.new w6 #[.int .i64 kd, .int .i64 ce, .slice Ay (vs).length cy, .int .i64 p0y, .slice A1y n1y c1y, .int .i64 p2y, .int .i64 p3y, .slice A4y n4y c4y, .int .i64 (c : Int)] 48
        have kb := (Kp.refl w6).alloc (.cells #[.int .i64 kd, .int .i64 ce, .slice Ay (vs).length cy, .int .i64 p0y, .slice A1y n1y c1y, .int .i64 p2y, .int .i64 p3y, .slice A4y n4y c4y, .int .i64 (c : Int)] 48)
        have k57 := kc.trans kb
        replace hAy := hid (rdAns_stable _ _ _ _ kb hAy)
        go_upto_region 7 with (fail)
        generalize w6.alloc (.cells #[.int .i64 kd, .int .i64 ce, .slice Ay (vs).length cy, .int .i64 p0y, .slice A1y n1y c1y, .int .i64 p2y, .int .i64 p3y, .slice A4y n4y c4y, .int .i64 (c : Int)] 48) = w7 at *
        obtain ⟨ty, hty⟩ : ∃ ty, ty = w6.heap.size := ⟨_, rfl⟩
        rw [← hty] at BXy ⊢
        replace hty := hid hty
        clear kc kb
        clear s0 s1 s2 s3 hgl
        replace B := B.keep k57
        replace K := K.trans k57
        obtain ⟨s0, s1, s2, s3⟩ := B.cells
        have hgl := block_lt_of_cell s0
        have BXx7 := BXx.kp k57 (BXx.lt (by simp))
        have x0 := BXx7.cell (j := 0) rfl
        have x8 := BXx7.cell (j := 8) rfl
        have hx7 := BXx7.lt (by simp)
        go_wp2_with fail
        refine (Find_form _ s (c : Int) w7 (hs.keep K) kd ce (c : Int) 0 vs t HC.out).mono ?_
        rintro e w8 ⟨Az, cz, p0z, A1z, n1z, c1z, p2z, p3z, A4z, n4z, c4z, rfl, hAz, -, -, kc⟩
        have BXz := Bx.new w8 #[.int .i64 kd, .int .i64 ce, .slice Az (vs).length cz, .int .i64 p0z, .slice A1z n1z c1z, .int .i64 p2z, .int .i64 p3z, .slice A4z n4z c4z, .int .i64 (c : Int)] 48
        have kb := (Kp.refl w8).alloc (.cells #[.int .i64 kd, .int .i64 ce, .slice Az (vs).length cz, .int .i64 p0z, .slice A1z n1z c1z, .int .i64 p2z, .int .i64 p3z, .slice A4z n4z c4z, .int .i64 (c : Int)] 48)
        have k79 := kc.trans kb
        replace hAz := hid (rdAns_stable _ _ _ _ kb hAz)
        go_upto_region 12 with (fail)
        generalize w8.alloc (.cells #[.int .i64 kd, .int .i64 ce, .slice Az (vs).length cz, .int .i64 p0z, .slice A1z n1z c1z, .int .i64 p2z, .int .i64 p3z, .slice A4z n4z c4z, .int .i64 (c : Int)] 48) = w9 at *
        obtain ⟨tz, htz⟩ : ∃ tz, tz = w8.heap.size := ⟨_, rfl⟩
        rw [← htz] at BXz ⊢
        replace htz := hid htz
        clear kc kb
        clear s0 s1 s2 s3 hgl
        replace B := B.keep k79
        replace K := K.trans k79
        obtain ⟨s0, s1, s2, s3⟩ := B.cells
        have hgl := block_lt_of_cell s0
        have BXx9 := BXx7.kp k79 hx7
        clear x0 x8 hx7
        have x8 := BXx9.cell (j := 8) rfl
        have hx9 := BXx9.lt (by simp)
        go_wp2_with fail
        refine (Find_form _ s ((c : Int) - 1) w9 (hs.keep K) 2 ce' sp' 0 vs' t' HR'.out).mono ?_
        rintro e w10 ⟨Au, cu, p0u, A1u, n1u, c1u, p2u, p3u, A4u, n4u, c4u, rfl, hAu, -, -, kc⟩
        have BXu := Bx.new w10 #[.int .i64 2, .int .i64 ce', .slice Au (vs').length cu, .int .i64 p0u, .slice A1u n1u c1u, .int .i64 p2u, .int .i64 p3u, .slice A4u n4u c4u, .int .i64 sp'] 48
        have kb := (Kp.refl w10).alloc (.cells #[.int .i64 2, .int .i64 ce', .slice Au (vs').length cu, .int .i64 p0u, .slice A1u n1u c1u, .int .i64 p2u, .int .i64 p3u, .slice A4u n4u c4u, .int .i64 sp'] 48)
        have k911 := kc.trans kb
        replace hAu := hid (rdAns_stable _ _ _ _ kb hAu)
        go_upto_region 13 with (fail)
        generalize w10.alloc (.cells #[.int .i64 2, .int .i64 ce', .slice Au (vs').length cu, .int .i64 p0u, .slice A1u n1u c1u, .int .i64 p2u, .int .i64 p3u, .slice A4u n4u c4u, .int .i64 sp'] 48) = w11 at *
        obtain ⟨tu, htu⟩ : ∃ tu, tu = w10.heap.size := ⟨_, rfl⟩
        rw [← htu] at BXu ⊢
        replace htu := hid htu
        clear kc kb
        clear s0 s1 s2 s3 hgl
        replace B := B.keep k911
        replace K := K.trans k911
        obtain ⟨s0, s1, s2, s3⟩ := B.cells
        have hgl := block_lt_of_cell s0
        have BXx11 := BXx9.kp k911 hx9
        have BXy11 := (BXy.kp k79 (BXy.lt (by simp))).kp k911 (Nat.lt_of_lt_of_le (BXy.lt (by simp)) k79.size)
        have BXz11 := BXz.kp k911 (BXz.lt (by simp))
        have A1 := hid (rdAns_stable _ _ _ _ ((k57.trans k79).trans k911) hAx.out)
        have A2 := hid (rdAns_stable _ _ _ _ (k79.trans k911) hAy.out)
        have A3 := hid (rdAns_stable _ _ _ _ k911 hAz.out)
        clear x8 hx9
        obtain ⟨lx, hlx⟩ : ∃ lx : List Value, Hid (lx = [.int .i64 kd, .int .i64 ce, .slice Ax vs.length cx, .int .i64 p0x, .slice A1x n1x c1x, .int .i64 p2x, .int .i64 p3x, .slice A4x n4x c4x, .int .i64 (c : Int)]) := ⟨_, hid rfl⟩
        obtain ⟨ly, hly⟩ : ∃ ly : List Value, Hid (ly = [.int .i64 kd, .int .i64 ce, .slice Ay vs.length cy, .int .i64 p0y, .slice A1y n1y c1y, .int .i64 p2y, .int .i64 p3y, .slice A4y n4y c4y, .int .i64 (c : Int)]) := ⟨_, hid rfl⟩
        obtain ⟨lz, hlz⟩ : ∃ lz : List Value, Hid (lz = [.int .i64 kd, .int .i64 ce, .slice Az vs.length cz, .int .i64 p0z, .slice A1z n1z c1z, .int .i64 p2z, .int .i64 p3z, .slice A4z n4z c4z, .int .i64 (c : Int)]) := ⟨_, hid rfl⟩
        have ix : (Try.prog.info? 48).map (·.size) = some lx.length := by rw [hlx.out]; kernel_rfl
        have iy : (Try.prog.info? 48).map (·.size) = some ly.length := by rw [hly.out]; kernel_rfl
        have iz : (Try.prog.info? 48).map (·.size) = some lz.length := by rw [hlz.out]; kernel_rfl
        rw [← hlx.out] at BXx11 A1
        rw [← hly.out] at BXy11 A2
        rw [← hlz.out] at BXz11 A3
        have rx := BXx11.range
        have ry := BXy11.range
        have hBu := BXu.lt (by simp)
        have hBx := BXx11.lt (by rw [hlx.out]; simp)
        have hBz := BXz11.lt (by rw [hlz.out]; simp)
        clear BXx BXy BXz BXx7 BXx9 hAx hAy hAz hAu
        go_wp2_with (first | (refine wpl_load_mid_g (by kernel_rfl) 48 (.tmp 5) rfl tx 0 rfl lx _ rx Try.underlying48 rfl ix ?_) | (refine wpl_load_mid_g (by kernel_rfl) 48 (.tmp 7) rfl ty 0 rfl ly _ ry Try.underlying48 rfl iy ?_) | fail)
        refine (rSame20_refl lx ly _ w11 A1.out A2.out).mono ?_
        rintro e w12 ⟨rfl, k12⟩
        have rx := (BXx11.kp k12 hBx).range
        have rz := (BXz11.kp k12 hBz).range
        have hA1 := hid (rdAns_stable _ _ _ _ k12 A1.out)
        have hA3 := hid (rdAns_stable _ _ _ _ k12 A3.out)
        clear ry iy BXx11 BXy11 BXz11 A1 A2 A3
        go_wp2_with (first | (refine wpl_load_mid_g (by kernel_rfl) 48 (.tmp 5) rfl tx 0 rfl lx _ rx Try.underlying48 rfl ix ?_) | (refine wpl_load_mid_g (by kernel_rfl) 48 (.tmp 9) rfl tz 0 rfl lz _ rz Try.underlying48 rfl iz ?_) | fail)
        refine (rSame20_refl lx lz _ w12 hA1.out hA3.out).mono ?_
        rintro e w13 ⟨rfl, k13⟩
        have u0 := (BXu.kp (k12.trans k13) hBu).cell (j := 0) rfl
        have hul := block_lt_of_cell u0
        have kend := (K.trans k12).trans k13
        clear rx rz ix iz hA1 hA3 BXu
        go_wp2
        go_ret
        exact ⟨rfl, kend⟩
theorem own : ownKnob Try.prog.godebug = none := by kernel_rfl
theorem laidOut : laidOutB Try.prog = true := by kernel_rfl
set_option maxRecDepth 100000 in
theorem lifted (os : Os) (started : os.Started) (H : Type) (enc : TypeId × Value → H) :
    ReturnsInHanded {} Try.checked os 5 .any (Rows.searchBudgetsSpec.pre6 enc Try.prog Try.f5 Rows.searchBudgetsRow.domain false) (Rows.searchBudgetsSpec.post enc Try.prog Try.f5 false true false false) := by
  refine returnsInHanded_of_change (C := Try.checked) own started (by kernel_rfl) Try.func5
    (ChangeSpec.witness6 (enc := enc) (C := Try.checked) false ⟨#[], #[.agg #[.slice none 0 0, .slice none 0 0, .slice none 0 0, .slice none 0 0], .int .i64 0], []⟩ 8 (by kernel_rfl) (by kernel_rfl) (by kernel_rfl) (by kernel_rfl)) ?_
  intro W base args ds gs before hval0 hW hcnd _
  have hval : ∀ (j : Nat) t v, Try.f5.params[j]? = some t → args[j]? = some v → Value.okWide Try.prog W .any base t v := hval0
  have hW' := hW
  obtain ⟨p, q, hA0, hV, rfl, hfz, hnd⟩ := hW
  have hA : DataW.TrodAll enc Try.prog W 0 (fun _ => true) true Try.f5.params.toList args.toList ds p := hA0
  rw [Try.params5] at hA hval
  obtain ⟨v0, vs0, d0, ds0, p0, q0, hargs, rfl, rfl, h0, r0⟩ := trodAll_cons hA
  obtain ⟨v1, vs1, d1, ds1, p1, q1, rfl, rfl, rfl, h1, r1⟩ := trodAll_cons r0
  obtain ⟨rfl, rfl, rfl⟩ := trodAll_nil r1
  obtain rfl : args = #[v0, v1] := by cases args; simp_all
  obtain ⟨rfl, rfl⟩ := trodVars_none hV
  have lt0 : ∀ x ∈ p0, x.block < W.heap.size := by obtain ⟨m, hm⟩ := h0; exact DataW.trod_lt m _ _ _ hm
  have lt1 : ∀ x ∈ p1, x.block < W.heap.size := by obtain ⟨m, hm⟩ := h1; exact DataW.trod_lt m _ _ _ hm
  obtain ⟨s0, hs0⟩ := opSys (hval 0 27 v0 rfl rfl) h0
  obtain ⟨x1, rfl, -, -, wx1⟩ := open_int Try.underlying3 (hval 1 3 v1 rfl rfl) h1
  clear hA0 hval0
  refine (walk _ s0 x1 W hs0).mono fun e W' ⟨he, bel⟩ => ?_
  subst he
  exact ⟨_, rfl, _, _, _, [], _, [], hW', trodAll_mk1 (shut_bool Try.underlying4 _), (trodAll_cons_mk (Below.trod laidOut (by kernel_rfl) (of_decide_eq_true (by kernel_rfl)) h0 bel lt0) (trodAll_cons_mk (Below.trod laidOut (by kernel_rfl) (of_decide_eq_true (by kernel_rfl)) h1 bel lt1) trodAll_mk0)), rfl, Below.frame bel _, fun h => by cases h⟩
theorem over : Rows.searchBudgetsRow.holds Try.pinned (OpenSpec.ofChange Rows.searchBudgetsSpec) :=
  OpenClaim.holds_of_wide 5 Try.f5 rfl rfl rfl rfl rfl rfl rfl ⟨rfl, rfl, rfl, rfl, rfl⟩ rfl rfl rfl rfl rfl (by kernel_rfl) Try.func5 (by kernel_rfl)
    (of_decide_eq_true (by kernel_rfl)) (by unfold Func.isWrapper; first | (rw [if_pos (by decide +kernel)]; kernel_rfl) | (rw [if_neg (by decide +kernel)]; exact ⟨rfl, rfl⟩))
    (fun os started H enc _ => lifted os started H enc)
theorem proved : Rows.SearchBudgetsSaid := over
end Go.Proofs.Ytlbhidiliogflaa.lawBudgets
