
/-
Search, the reference: a node: the walk.
-/
import Derived.Test.YtlbhidiliogflaaGreatSrN
namespace Go.Proofs.YtlbhidiliogflaaGreat
set_option linter.unusedSimpArgs false
set_option linter.unusedVariables false
open Go.RowKit

set_option maxRecDepth 8000 in
set_option maxHeartbeats 8000000 in
theorem rNode_any (s : Sys) (hV : validS s = true) (N : Nat) : ∀ (va vr vb : Value) (rows : List Row) (box : List Rng) (root : Bool) (b : Nat) (bI : Int) (w : World),
    SysV w va s → RowsL w vr rows → Rngs w vb box → fineBox s.box.length box → (∀ r ∈ rows, fitsB s.box.length r = true) → rows.length ≤ 20000 → (root = true → s.cases.length ≠ 0 → rows = s.rows ∧ box = s.box) → b ≤ 65536 → b ≤ N → bI = (b : Int) →
    Calls Tryz.prog 23 #[va, vr, vb, .bool root, .int .i64 bI] w (RNR w (N + 1) b (nodeG s rows root N box b)) := by
  obtain ⟨g1, g2, g3, g4, g5⟩ := sys_parts hV
  replace hV := hid hV
  replace g2 := hid g2
  replace g4 := hid g4
  replace g5 := hid g5
  induction N using Nat.strongRecOn with
  | ind N ih =>
  intro va vr vb rows box root b bI w hs hrw hbx hf hfr hrl hroot hb9 hbN hbI
  obtain ⟨R, hR⟩ : ∃ R, Hid (nodeG s rows root N box b = R) := ⟨_, hid rfl⟩
  rw [hR.out]
  replace ih := hid ih
  have hs' := hs
  obtain ⟨Ab, cb, Ar, cr, Ag, cg, Ac, cc, rfl, hb, hr, hg, hc⟩ := hs'
  obtain ⟨l1, m1⟩ := hb.caps
  obtain ⟨l2, m2⟩ := hr.caps
  obtain ⟨l3, m3⟩ := hg.caps
  obtain ⟨l4, m4⟩ := hc.caps
  obtain ⟨Aw, cw, rfl, hcw, hmw⟩ := hrw.form
  obtain ⟨Ax, cx, rfl, hcx, hmx⟩ := hbx.form
  have k0 := (Kp.refl w).alloc (.cells #[.slice Ab s.box.length cb, .slice Ar s.rows.length cr, .slice Ag s.graphs.length cg, .slice Ac s.cases.length cc] 27)
  have B0 := SysB.new w #[.slice Ab s.box.length cb, .slice Ar s.rows.length cr, .slice Ag s.graphs.length cg, .slice Ac s.cases.length cc] 27
  have z0 := World.size_alloc w (.cells #[.slice Ab s.box.length cb, .slice Ar s.rows.length cr, .slice Ag s.graphs.length cg, .slice Ac s.cases.length cc] 27)
  have BA := Bx.new (w.alloc (.cells #[.slice Ab s.box.length cb, .slice Ar s.rows.length cr, .slice Ag s.graphs.length cg, .slice Ac s.cases.length cc] 27)) [.int .i64 0, .int .i64 0, .slice none 0 0, .int .i64 0, .slice none 0 0, .int .i64 0, .int .i64 0, .slice none 0 0, .int .i64 0].toArray 36
  have zA := World.size_alloc (w.alloc (.cells #[.slice Ab s.box.length cb, .slice Ar s.rows.length cr, .slice Ag s.graphs.length cg, .slice Ac s.cases.length cc] 27)) (.cells [.int .i64 0, .int .i64 0, .slice none 0 0, .int .i64 0, .slice none 0 0, .int .i64 0, .int .i64 0, .slice none 0 0, .int .i64 0].toArray 36)
  have kA := (Kp.refl (w.alloc (.cells #[.slice Ab s.box.length cb, .slice Ar s.rows.length cr, .slice Ag s.graphs.length cg, .slice Ac s.cases.length cc] 27))).alloc (.cells [.int .i64 0, .int .i64 0, .slice none 0 0, .int .i64 0, .slice none 0 0, .int .i64 0, .int .i64 0, .slice none 0 0, .int .i64 0].toArray 36)
  go_enter Tryz.func23, Tryz.ntmps23
  go_upto_region 1 with (fail)
  generalize w.alloc (.cells #[.slice Ab s.box.length cb, .slice Ar s.rows.length cr, .slice Ag s.graphs.length cg, .slice Ac s.cases.length cc] 27) = w00 at *
  generalize w00.alloc (.cells [.int .i64 0, .int .i64 0, .slice none 0 0, .int .i64 0, .slice none 0 0, .int .i64 0, .int .i64 0, .slice none 0 0, .int .i64 0].toArray 36) = w0 at *
  obtain ⟨b0, hb0⟩ : ∃ b0, b0 = w.heap.size := ⟨_, rfl⟩
  obtain ⟨tA, htA⟩ : ∃ tA, tA = b0 + 1 := ⟨_, rfl⟩
  rw [← hb0] at B0 z0 ⊢
  rw [z0, ← htA] at BA zA
  rw [← htA] at z0
  rw [← htA]
  try simp only [List.toList_toArray] at BA
  have hwA : Hid (w.heap.size ≤ tA) := hid (by omega)
  have hlA : tA < w0.heap.size := by omega
  replace hb0 := hid hb0
  replace htA := hid htA
  replace z0 := hid z0
  replace zA := hid zA
  have kk0 := k0.trans kA
  have B1 := B0.keep kA
  clear k0 kA B0
  obtain ⟨c0, c1, c2, c3⟩ := B1.cells
  have hgl := block_lt_of_cell c0
  by_cases hb1 : b = 0
  · have HR : R = .out := by rw [← hR.out]; exact nodeG_zero hb1
    subst HR
    have hbI1 : bI = 0 := by rw [hbI, hb1]; rfl
    subst hbI1
    clear hbI hb1 hR hroot hbN hb9 ih hf hfr
    have y0 := (BA).cell (j := 0) rfl
    have y1 := (BA).cell (j := 1) rfl
    have y2 := (BA).cell (j := 2) rfl
    have y3 := (BA).cell (j := 3) rfl
    have y4 := (BA).cell (j := 4) rfl
    have y5 := (BA).cell (j := 5) rfl
    have y6 := (BA).cell (j := 6) rfl
    have y7 := (BA).cell (j := 7) rfl
    have y8 := (BA).cell (j := 8) rfl
    have f0 := (BA).free (j := 0) (by simp)
    have f1 := (BA).free (j := 1) (by simp)
    have f2 := (BA).free (j := 2) (by simp)
    have f3 := (BA).free (j := 3) (by simp)
    have f4 := (BA).free (j := 4) (by simp)
    have f5 := (BA).free (j := 5) (by simp)
    have f6 := (BA).free (j := 6) (by simp)
    have f7 := (BA).free (j := 7) (by simp)
    have f8 := (BA).free (j := 8) (by simp)
    go_wp2
    try simp only [Exit.inBlock, Exit.then]
    have BE := (BA).all (cs := [.int .i64 2, .int .i64 0, .slice none 0 0, .int .i64 0, .slice none 0 0, .int .i64 0, .int .i64 0, .slice none 0 0, .int .i64 0]) rfl
    change bodyPost _ _ _ _ _ (w0.setCells tA 0 [.int .i64 2, .int .i64 0, .slice none 0 0, .int .i64 0, .slice none 0 0, .int .i64 0, .int .i64 0, .slice none 0 0, .int .i64 0])
    refine bodyPost_ret (results_cell_bx rfl _ (w0.setCells tA 0 [.int .i64 2, .int .i64 0, .slice none 0 0, .int .i64 0, .slice none 0 0, .int .i64 0, .int .i64 0, .slice none 0 0, .int .i64 0]) tA [.int .i64 2, .int .i64 0, .slice none 0 0, .int .i64 0, .slice none 0 0, .int .i64 0, .int .i64 0, .slice none 0 0, .int .i64 0] _ rfl BE.range Tryz.underlying36 rfl (by kernel_rfl)) rfl ?_
    have kS : Fx (fun q => q = tA) w0 (w0.setCells tA 0 [.int .i64 2, .int .i64 0, .slice none 0 0, .int .i64 0, .slice none 0 0, .int .i64 0, .int .i64 0, .slice none 0 0, .int .i64 0]) := setsFx tA 0 _ _ (Fx.refl _ _) (.inl rfl)
    have kE := kS.kp_of kk0 (fun q e => by rw [e]; exact hwA.out)
    exact ⟨kE, rfl⟩
  · obtain ⟨M, rfl⟩ : ∃ M, N = M + 1 := ⟨N - 1, by omega⟩
    have q1 : 1 ≤ bI ∧ bI ≤ 65536 := by omega
    have e1 : decide (bI < 1) = false := decide_eq_false (by omega)
    obtain ⟨F, hF⟩ : ∃ F, Hid (runB (b - 1) rows s.graphs box = F) := ⟨_, hid rfl⟩
    have HRun := rRun_any (b - 1) s.box.length (.slice Ax box.length cx) (.slice Aw rows.length cw) (.slice Ag s.graphs.length cg) box rows s.graphs w0 (hbx.keep (pl_stable _) kk0) (hrw.keep rdRow_stable kk0) (hg.keep rdGr_stable kk0) hf.1 g1 (by omega) hfr g3
    rw [hF.out, show ((b - 1 : Nat) : Int) = bI - 1 by omega] at HRun
    replace HRun := hid HRun
    have HKT := runB_kept g1 (b - 1) hfr g3 hf
    have HCO := fun h => runB_cost (b := b - 1) (rows := rows) (grs := s.graphs) (box := box) h
    rw [hF.out] at HKT HCO
    replace HKT := hid HKT.1
    replace HCO := hid fun h => (HCO h).1
    replace hbI := hid hbI
    replace hf := hid hf
    replace hb1 := hid hb1
    replace hbN := hid hbN
    replace hroot := hid hroot
    go_wp2_with fail
    refine HRun.out.mono ?_
    rintro e w5 ⟨vs', vb', rfl, k5, ho, hx⟩
    obtain ⟨As, cs, rfl, _, _⟩ := ho.form
    obtain ⟨Av, cv, rfl, hcv, hmv⟩ := hx.form
    have k6 := (Kp.refl w5).alloc (.cells #[.slice As F.steps.length cs, .slice Av F.box.length cv, .bool F.opn, .bool F.fine] 96)
    have BX := Bx.new w5 #[.slice As F.steps.length cs, .slice Av F.box.length cv, .bool F.opn, .bool F.fine] 96
    have zX := World.size_alloc w5 (.cells #[.slice As F.steps.length cs, .slice Av F.box.length cv, .bool F.opn, .bool F.fine] 96)
    have k06 := kk0.trans (k5.trans k6)
    have hoz := ho.blk_lt
    have hge := ho.ge
    replace ho := (ho.kp k6).less kk0.size
    replace hx := hx.keep (pl_stable _) k6
    have BA6 := (BA.kp k5 hlA).kp k6 (Nat.lt_of_lt_of_le hlA k5.size)
    have B6 := B1.keep (k5.trans k6)
    have hlA6 : tA < w5.heap.size := Nat.lt_of_lt_of_le hlA k5.size
    go_upto_region 4 with (fail)
    generalize w5.alloc (.cells #[.slice As F.steps.length cs, .slice Av F.box.length cv, .bool F.opn, .bool F.fine] 96) = w6 at *
    obtain ⟨tx, htx⟩ : ∃ tx, tx = w5.heap.size := ⟨_, rfl⟩
    rw [← htx] at BX zX hlA6 ⊢
    replace htx := hid htx
    replace zX := hid zX
    clear c0 c1 c2 c3 hgl B1 BA HRun kk0 k5 k6
    obtain ⟨c0, c1, c2, c3⟩ := B6.cells
    have hgl := block_lt_of_cell c0
    have x0 := BX.cell (j := 0) rfl
    have x1 := BX.cell (j := 1) rfl
    have x2 := BX.cell (j := 2) rfl
    have x3 := BX.cell (j := 3) rfl
    have hxl := BX.lt (by simp)
    cases hfi : F.fine with
    | false =>
      have HR : R = .out := by rw [← hR.out]; exact nodeG_out hroot.out hb1.out hF.out hfi
      subst HR
      rw [hfi] at x3
      have y0 := (BA6).cell (j := 0) rfl
      have y1 := (BA6).cell (j := 1) rfl
      have y2 := (BA6).cell (j := 2) rfl
      have y3 := (BA6).cell (j := 3) rfl
      have y4 := (BA6).cell (j := 4) rfl
      have y5 := (BA6).cell (j := 5) rfl
      have y6 := (BA6).cell (j := 6) rfl
      have y7 := (BA6).cell (j := 7) rfl
      have y8 := (BA6).cell (j := 8) rfl
      have f0 := (BA6).free (j := 0) (by simp)
      have f1 := (BA6).free (j := 1) (by simp)
      have f2 := (BA6).free (j := 2) (by simp)
      have f3 := (BA6).free (j := 3) (by simp)
      have f4 := (BA6).free (j := 4) (by simp)
      have f5 := (BA6).free (j := 5) (by simp)
      have f6 := (BA6).free (j := 6) (by simp)
      have f7 := (BA6).free (j := 7) (by simp)
      have f8 := (BA6).free (j := 8) (by simp)
      go_wp2
      try simp only [Exit.inBlock, Exit.then]
      have BE := (BA6).all (cs := [.int .i64 2, .int .i64 0, .slice none 0 0, .int .i64 0, .slice none 0 0, .int .i64 0, .int .i64 0, .slice none 0 0, .int .i64 0]) rfl
      change bodyPost _ _ _ _ _ (w6.setCells tA 0 [.int .i64 2, .int .i64 0, .slice none 0 0, .int .i64 0, .slice none 0 0, .int .i64 0, .int .i64 0, .slice none 0 0, .int .i64 0])
      refine bodyPost_ret (results_cell_bx rfl _ (w6.setCells tA 0 [.int .i64 2, .int .i64 0, .slice none 0 0, .int .i64 0, .slice none 0 0, .int .i64 0, .int .i64 0, .slice none 0 0, .int .i64 0]) tA [.int .i64 2, .int .i64 0, .slice none 0 0, .int .i64 0, .slice none 0 0, .int .i64 0, .int .i64 0, .slice none 0 0, .int .i64 0] _ rfl BE.range Tryz.underlying36 rfl (by kernel_rfl)) rfl ?_
      have kS : Fx (fun q => q = tA) w6 (w6.setCells tA 0 [.int .i64 2, .int .i64 0, .slice none 0 0, .int .i64 0, .slice none 0 0, .int .i64 0, .int .i64 0, .slice none 0 0, .int .i64 0]) := setsFx tA 0 _ _ (Fx.refl _ _) (.inl rfl)
      have kE := kS.kp_of k06 (fun q e => by rw [e]; exact hwA.out)
      exact ⟨kE, rfl⟩
    | true =>
      rw [hfi] at x3
      have hcl := HCO.out hfi
      have hsl : F.steps.length ≤ 65536 := by have := hb9; omega
      have hb1' := hb1.out
      have hcc : Hid (1 + (F.steps.length : Int) = ((1 + F.steps.length : Nat) : Int)) := hid (by push_cast; rfl)
      have hcb : 1 + F.steps.length ≤ b := by omega
      have kO := (Kp.refl w6).alloc (.cells [.int .i64 1, .int .i64 0, .slice none 0 0, .int .i64 0, .slice As F.steps.length cs, .int .i64 0, .int .i64 0, .slice none 0 0, .int .i64 (1 + (F.steps.length : Int))].toArray 36)
      have BO := Bx.new w6 [.int .i64 1, .int .i64 0, .slice none 0 0, .int .i64 0, .slice As F.steps.length cs, .int .i64 0, .int .i64 0, .slice none 0 0, .int .i64 (1 + (F.steps.length : Int))].toArray 36
      have zO := World.size_alloc w6 (.cells [.int .i64 1, .int .i64 0, .slice none 0 0, .int .i64 0, .slice As F.steps.length cs, .int .i64 0, .int .i64 0, .slice none 0 0, .int .i64 (1 + (F.steps.length : Int))].toArray 36)
      go_upto_region 7 with (fail)
      generalize w6.alloc (.cells [.int .i64 1, .int .i64 0, .slice none 0 0, .int .i64 0, .slice As F.steps.length cs, .int .i64 0, .int .i64 0, .slice none 0 0, .int .i64 (1 + (F.steps.length : Int))].toArray 36) = w7 at *
      obtain ⟨bo, hbo⟩ : ∃ bo, bo = w6.heap.size := ⟨_, rfl⟩
      rw [← hbo] at BO zO ⊢
      try simp only [List.toList_toArray] at BO
      rw [hcc.out] at BO
      have h6 : w6.heap.size ≤ bo := by rw [hbo]; exact Nat.le_refl _
      have hlo : bo < w7.heap.size := by omega
      have hAo : tA < w6.heap.size := by omega
      replace hbo := hid hbo
      replace zO := hid zO
      have BA7 := BA6.kp kO hAo
      have BX7 := BX.kp kO hxl
      have B7 := B6.keep kO
      have k07 := k06.trans kO
      clear c0 c1 c2 c3 hgl x0 x1 x2 x3 hb1'
      obtain ⟨c0, c1, c2, c3⟩ := B7.cells
      have hgl := block_lt_of_cell c0
      have x0 := BX7.cell (j := 0) rfl
      have x1 := BX7.cell (j := 1) rfl
      have x2 := BX7.cell (j := 2) rfl
      have hxl7 := BX7.lt (by simp)
      cases hop : F.opn with
      | false =>
        have HR : R = .ref (.mk 0 F.steps 0 0 []) (1 + F.steps.length) := by rw [← hR.out]; exact nodeG_shut hroot.out hb1.out hF.out hfi hop
        subst HR
        rw [hop] at x2
        have o0 := (BO).cell (j := 0) rfl
        have o1 := (BO).cell (j := 1) rfl
        have o2 := (BO).cell (j := 2) rfl
        have o3 := (BO).cell (j := 3) rfl
        have o4 := (BO).cell (j := 4) rfl
        have o5 := (BO).cell (j := 5) rfl
        have o6 := (BO).cell (j := 6) rfl
        have o7 := (BO).cell (j := 7) rfl
        have o8 := (BO).cell (j := 8) rfl
        have hoo := ho.kp kO
        have y0 := (BA7).cell (j := 0) rfl
        have y1 := (BA7).cell (j := 1) rfl
        have y2 := (BA7).cell (j := 2) rfl
        have y3 := (BA7).cell (j := 3) rfl
        have y4 := (BA7).cell (j := 4) rfl
        have y5 := (BA7).cell (j := 5) rfl
        have y6 := (BA7).cell (j := 6) rfl
        have y7 := (BA7).cell (j := 7) rfl
        have y8 := (BA7).cell (j := 8) rfl
        have f0 := (BA7).free (j := 0) (by simp)
        have f1 := (BA7).free (j := 1) (by simp)
        have f2 := (BA7).free (j := 2) (by simp)
        have f3 := (BA7).free (j := 3) (by simp)
        have f4 := (BA7).free (j := 4) (by simp)
        have f5 := (BA7).free (j := 5) (by simp)
        have f6 := (BA7).free (j := 6) (by simp)
        have f7 := (BA7).free (j := 7) (by simp)
        have f8 := (BA7).free (j := 8) (by simp)
        go_wp2
        try simp only [Exit.inBlock, Exit.then]
        have BE := (BA7).all (cs := [.int .i64 1, .int .i64 0, .slice none 0 0, .int .i64 0, .slice As F.steps.length cs, .int .i64 0, .int .i64 0, .slice none 0 0, .int .i64 ((1 + F.steps.length : Nat) : Int)]) rfl
        change bodyPost _ _ _ _ _ (w7.setCells tA 0 [.int .i64 1, .int .i64 0, .slice none 0 0, .int .i64 0, .slice As F.steps.length cs, .int .i64 0, .int .i64 0, .slice none 0 0, .int .i64 ((1 + F.steps.length : Nat) : Int)])
        refine bodyPost_ret (results_cell_bx rfl _ (w7.setCells tA 0 [.int .i64 1, .int .i64 0, .slice none 0 0, .int .i64 0, .slice As F.steps.length cs, .int .i64 0, .int .i64 0, .slice none 0 0, .int .i64 ((1 + F.steps.length : Nat) : Int)]) tA [.int .i64 1, .int .i64 0, .slice none 0 0, .int .i64 0, .slice As F.steps.length cs, .int .i64 0, .int .i64 0, .slice none 0 0, .int .i64 ((1 + F.steps.length : Nat) : Int)] _ rfl BE.range Tryz.underlying36 rfl (by kernel_rfl)) rfl ?_
        have kS : Fx (fun q => q = tA) w7 (w7.setCells tA 0 [.int .i64 1, .int .i64 0, .slice none 0 0, .int .i64 0, .slice As F.steps.length cs, .int .i64 0, .int .i64 0, .slice none 0 0, .int .i64 ((1 + F.steps.length : Nat) : Int)]) := setsFx tA 0 _ _ (Fx.refl _ _) (.inl rfl)
        have kE := kS.kp_of k07 (fun q e => by rw [e]; exact hwA.out)
        refine ⟨kE, hcb, _, _, _, _, _, rfl, ?_⟩
        have hSE := hoo.fx kS (fun q hq e => by have := hge q hq; have e : q = tA := e; omega)
        exact (OwF.own hSE (fun q hq => hoo.ge q hq)).imp fun w2 h => ⟨_, _, rfl, h.sl encStp_len, Sl.nil _ _ _⟩
      | true =>
        rw [hop] at x2
        have hbx6 := hid hx
        replace hx := hid hx
        obtain ⟨dd, hdd⟩ : ∃ dd, dd = (root && decide (0 < s.cases.length)) := ⟨_, rfl⟩
        go_upto_region 9 with (fail)
        go_cut [55] from 49 to 55 (fun s55 wx => s55 = .bool dd ∧ w7 = wx)
        case first =>
          cases root with
          | false =>
            have HD : Hid (dd = false) := hid (by rw [hdd]; rfl)
            clear hdd
            go_wp2
            go_meet
            case rel => exact ⟨by rw [HD.out], rfl⟩
          | true =>
            by_cases hc0 : 0 < s.cases.length
            · have HD : Hid (dd = true) := hid (by rw [hdd, decide_eq_true hc0]; rfl)
              have e2 : decide ((0 : Int) < (s.cases.length : Int)) = true := decide_eq_true (by omega)
              have e3 : decide (0 < s.cases.length) = true := decide_eq_true hc0
              clear hdd
              go_wp2
              go_meet
              case rel => exact ⟨by rw [HD.out], rfl⟩
            · have HD : Hid (dd = false) := hid (by rw [hdd, decide_eq_false hc0]; rfl)
              have e2 : decide ((0 : Int) < (s.cases.length : Int)) = false := decide_eq_false (by omega)
              have e3 : decide (0 < s.cases.length) = false := decide_eq_false hc0
              clear hdd
              go_wp2
              go_meet
              case rel => exact ⟨by rw [HD.out], rfl⟩
        case rest =>
          obtain ⟨rfl, rfl⟩ := hcut
          have BOx := BO
          clear BO
          by_cases h2 : root = true ∧ s.cases.length ≠ 0
          · have HD : dd = true := by rw [hdd, h2.1, decide_eq_true (by omega)]; rfl
            subst HD
            clear hdd
            have HR0 : Hid (casesF s F.steps F.box b 0 (s.cases.drop 0) (1 + F.steps.length) [] = R) := hid (by rw [← hR.out, nodeG_cases (hroot.out h2.1 h2.2) h2 hb1.out hF.out hfi hop, List.drop_zero])
            obtain ⟨h2a, h2b⟩ := hroot.out h2.1 h2.2
            obtain ⟨h2r, h2c⟩ := h2
            subst h2r
            replace h2c := hid h2c
            obtain ⟨v1, v2, ⟨v3, -⟩, v4, v5, v6, v7⟩ := validS_parts hV.out
            have hn1 : s.cases.length ≤ 100000 := by omega
            have hn2 : s.rows.length ≤ 10000 := by omega
            have hn3 : Hid (∀ l ∈ s.cases, l.length ≤ 10000) := hid (fun l hl => by have := (v7 l hl).1; omega)
            clear v1 v2 v3 v4 v5 v6 v7 hR hroot
            subst h2a h2b
            obtain ⟨cssR, hcR, hlR, heR⟩ := sl_raw hrw rdRow_one
            replace heR := hid heR
            replace hlR := hid hlR
            have f3 := BOx.free (j := 3) (by simp)
            have o3 := BOx.cell (j := 3) rfl
            have BO8 := BOx.set (j := 3) (by simp) (.int .i64 2)
            simp only [List.set_cons_zero, List.set_cons_succ] at BO8
            have k78 : Kp w6 (w7.setCell ⟨bo, 3, none⟩ (.int .i64 2)) := kO.set (p := ⟨bo, 3, none⟩) h6 _
            have hl8 : bo < (w7.setCell ⟨bo, 3, none⟩ (.int .i64 2)).heap.size := by rw [set_size]; exact hlo
            go_upto_region 11 with (fail)
            generalize w7.setCell ⟨bo, 3, none⟩ (.int .i64 2) = w8 at *
            have hI0 : RQ w6 (M + 1) b bo 2 0 0 (.slice As F.steps.length cs) w8 (.slice none 0 0) [] [] (1 + F.steps.length) := ⟨k78, KI.nil _ _ _, BO8, fun q hq => by simp [Value.ownBlock] at hq, hl8, hcb⟩
            clear f3 o3 BO8 k78 BOx BA7 BX7 B7 c0 c1 c2 c3 hgl x0 x1 x2 hxl7
            have hb1' := hb1.out
            have hbN' := hbN.out
            go_wp2_with fail
            go_loopw [13] (fun i wr => ∃ (k : Nat) (vk : Value) (css : List (Elm 5)) (ts : List Tr) (cst : Nat), k ≤ s.cases.length ∧ i = .int .i64 (k : Int) ∧ RQ w6 (M + 1) b bo 2 0 0 (.slice As F.steps.length cs) wr vk css ts cst ∧ Hid (ts.length = k) ∧ 1 ≤ cst ∧ Hid (casesF s F.steps F.box b k (s.cases.drop k) cst ts = R)) (fun i _ => s.cases.length - (intOf i).toNat)
            case atStart => exact ⟨0, _, _, _, _, Nat.zero_le _, rfl, hI0, hid rfl, by omega, HR0⟩
            case round =>
              clear hI0 HR0
              obtain ⟨k, vk, css, ts, cst, hk, rfl, hI, hts, hc1, HR⟩ := hrel
              have hkl := hid (hI.ki.len.trans hts.out)
              obtain ⟨Ak, ck, rfl, _, _⟩ := hI.ki.own.form
              have B := B6.keep hI.kp
              obtain ⟨c0, c1, c2, c3⟩ := B.cells
              have hgl := block_lt_of_cell c0
              have hlr := hI.zw
              have hcb' := hI.cb
              have hkb : k ≤ 200000 := le_trans3 hk hn1 (by decide)
              by_cases hlt : k < s.cases.length
              · have HR2 : Hid (kidF (nodeF (s.rows ++ s.cases[k]) s.graphs (b - cst) F.box (b - cst)) k cst (fun t c' => casesF s F.steps F.box b (k + 1) (s.cases.drop (k + 1)) c' (ts ++ [t])) = R) := hid (by rw [← casesF_drop s F.steps F.box b k cst ts hlt]; exact HR.out)
                obtain ⟨G, hG⟩ : ∃ G, Hid (nodeF (s.rows ++ s.cases[k]) s.graphs (b - cst) F.box (b - cst) = G) := ⟨_, hid rfl⟩
                rw [hG.out] at HR2
                obtain ⟨gc, oc, Aq, cq, hAc, hgc, i1, hQ⟩ := (hc.keep rdRows_stable (k06.trans hI.kp)).rowsAt hlt
                subst hAc
                obtain ⟨cssK, hcK, hlK, heK⟩ := sl_raw hQ rdRow_one
                replace heK := hid heK
                replace hlK := hid hlK
                have hfit : Hid (∀ r ∈ s.rows ++ s.cases[k], fitsB s.box.length r = true) := hid (fun r hr => by
                  rcases List.mem_append.1 hr with h | h
                  · exact g2.out r h
                  · exact g5.out _ (List.getElem_mem hlt) r h)
                have hKlen := hn3.out _ (List.getElem_mem hlt)
                generalize s.cases[k] = L at *
                have g0 : decide ((k : Int) < (s.cases.length : Int)) = true := decide_eq_true (by omega)
                have kr1 := (Kp.refl wr).alloc (.cells #[] 51)
                have own0 : Own (encC (size := 2)) 51 2 wr.heap.size (wr.alloc (.cells #[] 51)) (.slice (some ⟨wr.heap.size, 0, none⟩) 0 0) [] := Own.lit (base := wr.heap.size) (e := 51) (size := 2) encC wr #[] [] (Nat.le_refl _) (by simp) rfl rfl
                go_upto_region 15 with (fail)
                obtain ⟨zr, hzr⟩ : ∃ zr, zr = wr.heap.size := ⟨_, rfl⟩
                rw [← hzr] at own0 ⊢
                generalize wr.alloc (.cells #[] 51) = wr1 at *
                obtain ⟨wo, rfl⟩ : ∃ wo : World, wo = wr := ⟨_, rfl⟩
                clear hQ c0 c1 c2 hgl
                have hzr' : zr ≤ wr1.heap.size := by rw [hzr]; exact kr1.size
                replace hzr := hid hzr
                clear hzr'
                go_wp2_with fail
                go_loopw [14, 15] (fun v i wr => ∃ j : Nat, j ≤ s.rows.length ∧ i = .int .i64 (j : Int) ∧ Own (encC (size := 2)) 51 2 zr wr v (cssR.take j) ∧ Kp wo wr) (fun _ i _ => s.rows.length - (intOf i).toNat)
                case atStart => exact ⟨0, Nat.zero_le _, rfl, own0, kr1⟩
                case round =>
                  obtain ⟨j, hj, rfl, own, kw2⟩ := hrel
                  obtain ⟨A5, n5, c5, rfl⟩ := own.isSl
                  by_cases hlj : j < s.rows.length
                  · obtain ⟨g9, o9, At, m9, ct, bd, e9, hg9, i91, i92, hel⟩ := rowCells hcR (hlR).out (heR).out (k06.trans (hI.kp.trans kw2)) hlj
                    subst e9
                    have hjq : j < (cssR).length := Nat.lt_of_lt_of_eq hlj (hlR).out.symm
                    have HT := hid (take_next hjq)
                    obtain ⟨el, hel0⟩ : ∃ el, el = (cssR)[j] := ⟨_, rfl⟩
                    rw [← hel0] at hel HT
                    clear hel0
                    have hsrc := Sl.one (R := Pl (encC (size := 2))) wr [.slice At m9 ct, .int .i64 bd] 51 2 el rfl hel.symm
                    have hroom := row_room (take_le cssR j) (Nat.le_trans (Nat.le_trans hj hn2) (by decide))
                    have ownA := own.kp ((Kp.refl wr).alloc (.cells #[.slice At m9 ct, .int .i64 bd] 51))
                    have hgej := fun q hq => (hzr.out ▸ own.ge q hq : wo.heap.size ≤ q)
                    have hzA := size_up hzr.out kw2 (.cells #[.slice At m9 ct, .int .i64 bd] 51)
                    replace hgej := hid hgej
                    replace hel := hid hel
                    replace hroom := hid hroom
                    go_wp2_with (at_builtin; refine wpl_append_flat rfl (.tmp 72) (.tmp 77) rfl stRowC encC_len encC_one rfl ownA rfl hsrc hroom.out.1 hroom.out.2 hzA ?_; intro v1 w11 own1 hgrow1 hat1 hnil1; rw [← HT.out] at own1; have hkN := hid ((kw2.alloc (.cells #[.slice At m9 ct, .int .i64 bd] 51)).grown hgrow1 hgej.out); clear hgrow1)
                    go_roundw
                    case rel => exact ⟨j + 1, hlj, by go_num, own1, hkN.out⟩
                    case measure => exact meas hlj
                  · have HTR : Hid (cssR.take j = cssR) := hid (take_all' hlj hlR.out)
                    rw [HTR.out] at own
                    have gj := ndec hlj
                    clear own0 kr1
                    obtain ⟨wp, rfl⟩ : ∃ wp : World, wp = wr := ⟨_, rfl⟩
                    go_wp2_with fail
                    go_loopw [14, 16] (fun v i wr => ∃ j : Nat, j ≤ L.length ∧ i = .int .i64 (j : Int) ∧ Own (encC (size := 2)) 51 2 zr wr v (cssR ++ cssK.take j) ∧ Kp wo wr) (fun _ i _ => L.length - (intOf i).toNat)
                    case atStart => exact ⟨0, Nat.zero_le _, rfl, by rw [List.take_zero, List.append_nil]; exact own, kw2⟩
                    case round =>
                      clear own kw2 c3 hlj gj
                      obtain ⟨j2, hj2, rfl, own, kw2⟩ := hrel
                      obtain ⟨A5, n5, c5, rfl⟩ := own.isSl
                      have Bj := B6.keep (hI.kp.trans kw2)
                      obtain ⟨c0, c1, c2, c3⟩ := Bj.cells
                      have hgl := block_lt_of_cell c0
                      have i1j := kw2.cellS i1
                      have hgcj := block_lt_of_cell i1j
                      by_cases hlj : j2 < L.length
                      · obtain ⟨g9, o9, At, m9, ct, bd, e9, hg9, i91, i92, hel⟩ := rowCells hcK hlK.out heK.out kw2 hlj
                        subst e9
                        have hjq : j2 < (cssK).length := Nat.lt_of_lt_of_eq hlj hlK.out.symm
                        have HT := hid (take_next hjq)
                        obtain ⟨el, hel0⟩ : ∃ el, el = (cssK)[j2] := ⟨_, rfl⟩
                        rw [← hel0] at hel HT
                        clear hel0
                        have hsrc := Sl.one (R := Pl (encC (size := 2))) wr [.slice At m9 ct, .int .i64 bd] 51 2 el rfl hel.symm
                        have hroom := row_room (app_le (m := cssK) (j := j2) (Nat.le_trans (Nat.le_of_eq hlR.out) hn2)) (Nat.le_trans (Nat.add_le_add_left (Nat.le_trans hj2 hKlen) _) (by decide))
                        have ownA := own.kp ((Kp.refl wr).alloc (.cells #[.slice At m9 ct, .int .i64 bd] 51))
                        have hgej := fun q hq => (hzr.out ▸ own.ge q hq : wo.heap.size ≤ q)
                        have hzA := size_up hzr.out kw2 (.cells #[.slice At m9 ct, .int .i64 bd] 51)
                        replace hgej := hid hgej
                        replace hel := hid hel
                        replace hroom := hid hroom
                        go_wp2_with (at_builtin; refine wpl_append_flat rfl (.tmp 89) (.tmp 98) rfl stRowC encC_len encC_one rfl ownA rfl hsrc hroom.out.1 hroom.out.2 hzA ?_; intro v1 w11 own1 hgrow1 hat1 hnil1; rw [List.append_assoc, ← HT.out] at own1; have hkN := hid ((kw2.alloc (.cells #[.slice At m9 ct, .int .i64 bd] 51)).grown hgrow1 hgej.out); clear hgrow1)
                        go_roundw
                        case rel => exact ⟨j2 + 1, hlj, by go_num, own1, hkN.out⟩
                        case measure => exact meas hlj
                      · have HTK : Hid (cssK.take j2 = cssK) := hid (take_all' hlj hlK.out)
                        rw [HTK.out] at own
                        have gj := ndec hlj
                        have hrows := hid (rowsApp own hlR.out heR.out (k06.trans (hI.kp.trans kw2)) hlK.out heK.out kw2)
                        replace hI := hI.keep kw2
                        have k03 := k06.trans hI.kp
                        have BXr := BX.kp hI.kp hxl
                        have x1 := BXr.cell (j := 1) rfl
                        have o8 := hI.bx.cell (j := 8) rfl
                        have hxlr := BXr.lt (by simp)
                        have hlr := hI.zw
                        have hcI : (cst : Int) ≤ bI := le_cast hI.cb hbI.out
                        have HN := ih.out (b - cst) (sub_lt hc1 hb1' hbN') _ _ _ (s.rows ++ L) F.box false (b - cst) (bI - (cst : Int)) wr (hs.keep k03) hrows.out (hx.out.keep (pl_stable _) hI.kp) HKT.out hfit.out (app_len hn2 hKlen) (fun h => by cases h) (Nat.le_trans (Nat.sub_le _ _) hb9) (Nat.le_refl _) (sub_cast hI.cb hbI.out)
                        rw [nodeG_kid, hG.out] at HN
                        replace HN := hid HN
                        obtain ⟨w3, rfl⟩ : ∃ w3 : World, w3 = wr := ⟨_, rfl⟩
                        go_wp2_with fail
                        refine HN.out.mono ?_
                        rintro e w4 ⟨k34, hq⟩
                        clear x1 o8 c0 c1 c2 c3 hgl i1j hgcj own hrows HN hxlr i1 hgc hcI
                        have hlr4 : bo < w4.heap.size := Nat.lt_of_lt_of_le hlr k34.size
                        have k64 := hI.kp.trans k34
                        have k04 := k06.trans k64
                        cases G with
                        | out =>
                          have HR' : R = .out := HR2.out.symm
                          subst HR'
                          subst hq
                          have kY := (Kp.refl w4).alloc (.cells ([.int .i64 2, .int .i64 0, .slice none 0 0, .int .i64 0, .slice none 0 0, .int .i64 0, .int .i64 0, .slice none 0 0, .int .i64 0]).toArray 36)
                          have BY := Bx.new w4 ([.int .i64 2, .int .i64 0, .slice none 0 0, .int .i64 0, .slice none 0 0, .int .i64 0, .int .i64 0, .slice none 0 0, .int .i64 0]).toArray 36
                          have zY := World.size_alloc w4 (.cells ([.int .i64 2, .int .i64 0, .slice none 0 0, .int .i64 0, .slice none 0 0, .int .i64 0, .int .i64 0, .slice none 0 0, .int .i64 0]).toArray 36)
                          go_upto_region 24 with (fail)
                          generalize (w4).alloc (.cells ([.int .i64 2, .int .i64 0, .slice none 0 0, .int .i64 0, .slice none 0 0, .int .i64 0, .int .i64 0, .slice none 0 0, .int .i64 0]).toArray 36) = w9 at *
                          obtain ⟨ty, hty⟩ : ∃ ty, ty = (w4).heap.size := ⟨_, rfl⟩
                          rw [← hty] at BY zY ⊢
                          try simp only [List.toList_toArray] at BY
                          have hyz : (w4).heap.size ≤ ty := by rw [hty]; exact Nat.le_refl _
                          replace hty := hid hty
                          have u0 := (BY).cell (j := 0) rfl
                          have u1 := (BY).cell (j := 1) rfl
                          have u2 := (BY).cell (j := 2) rfl
                          have u3 := (BY).cell (j := 3) rfl
                          have u4 := (BY).cell (j := 4) rfl
                          have u5 := (BY).cell (j := 5) rfl
                          have u6 := (BY).cell (j := 6) rfl
                          have u7 := (BY).cell (j := 7) rfl
                          have u8 := (BY).cell (j := 8) rfl
                          have BA9 := BA6.kp (k64.trans kY) hAo
                          have kE9 := k04.trans kY
                          have hyl := BY.lt (by simp)
                          have y0 := (BA9).cell (j := 0) rfl
                          have y1 := (BA9).cell (j := 1) rfl
                          have y2 := (BA9).cell (j := 2) rfl
                          have y3 := (BA9).cell (j := 3) rfl
                          have y4 := (BA9).cell (j := 4) rfl
                          have y5 := (BA9).cell (j := 5) rfl
                          have y6 := (BA9).cell (j := 6) rfl
                          have y7 := (BA9).cell (j := 7) rfl
                          have y8 := (BA9).cell (j := 8) rfl
                          have f0 := (BA9).free (j := 0) (by simp)
                          have f1 := (BA9).free (j := 1) (by simp)
                          have f2 := (BA9).free (j := 2) (by simp)
                          have f3 := (BA9).free (j := 3) (by simp)
                          have f4 := (BA9).free (j := 4) (by simp)
                          have f5 := (BA9).free (j := 5) (by simp)
                          have f6 := (BA9).free (j := 6) (by simp)
                          have f7 := (BA9).free (j := 7) (by simp)
                          have f8 := (BA9).free (j := 8) (by simp)
                          go_wp2
                          try simp only [Exit.inBlock, Exit.then]
                          have BE := (BA9).all (cs := [.int .i64 2, .int .i64 0, .slice none 0 0, .int .i64 0, .slice none 0 0, .int .i64 0, .int .i64 0, .slice none 0 0, .int .i64 0]) rfl
                          change bodyPost _ _ _ _ _ (w9.setCells tA 0 [.int .i64 2, .int .i64 0, .slice none 0 0, .int .i64 0, .slice none 0 0, .int .i64 0, .int .i64 0, .slice none 0 0, .int .i64 0])
                          refine bodyPost_ret (results_cell_bx rfl _ (w9.setCells tA 0 [.int .i64 2, .int .i64 0, .slice none 0 0, .int .i64 0, .slice none 0 0, .int .i64 0, .int .i64 0, .slice none 0 0, .int .i64 0]) tA [.int .i64 2, .int .i64 0, .slice none 0 0, .int .i64 0, .slice none 0 0, .int .i64 0, .int .i64 0, .slice none 0 0, .int .i64 0] _ rfl BE.range Tryz.underlying36 rfl (by kernel_rfl)) rfl ?_
                          have kS : Fx (fun q => q = tA) w9 (w9.setCells tA 0 [.int .i64 2, .int .i64 0, .slice none 0 0, .int .i64 0, .slice none 0 0, .int .i64 0, .int .i64 0, .slice none 0 0, .int .i64 0]) := setsFx tA 0 _ _ (Fx.refl _ _) (.inl rfl)
                          have kE := kS.kp_of kE9 (fun q e => by rw [e]; exact hwA.out)
                          exact ⟨kE, rfl⟩
                        | sol vs i d =>
                          have HR' : R = .sol vs k (cst + d) := HR2.out.symm
                          subst HR'
                          obtain ⟨hd, Ao, co, rfl, hOv⟩ := hq
                          have kY := (Kp.refl w4).alloc (.cells ([.int .i64 0, .int .i64 (i : Int), .slice Ao vs.length co, .int .i64 0, .slice none 0 0, .int .i64 0, .int .i64 0, .slice none 0 0, .int .i64 (d : Int)]).toArray 36)
                          have BY := Bx.new w4 ([.int .i64 0, .int .i64 (i : Int), .slice Ao vs.length co, .int .i64 0, .slice none 0 0, .int .i64 0, .int .i64 0, .slice none 0 0, .int .i64 (d : Int)]).toArray 36
                          have zY := World.size_alloc w4 (.cells ([.int .i64 0, .int .i64 (i : Int), .slice Ao vs.length co, .int .i64 0, .slice none 0 0, .int .i64 0, .int .i64 0, .slice none 0 0, .int .i64 (d : Int)]).toArray 36)
                          go_upto_region 24 with (fail)
                          generalize (w4).alloc (.cells ([.int .i64 0, .int .i64 (i : Int), .slice Ao vs.length co, .int .i64 0, .slice none 0 0, .int .i64 0, .int .i64 0, .slice none 0 0, .int .i64 (d : Int)]).toArray 36) = w9 at *
                          obtain ⟨ty, hty⟩ : ∃ ty, ty = (w4).heap.size := ⟨_, rfl⟩
                          rw [← hty] at BY zY ⊢
                          try simp only [List.toList_toArray] at BY
                          have hyz : (w4).heap.size ≤ ty := by rw [hty]; exact Nat.le_refl _
                          replace hty := hid hty
                          have u0 := (BY).cell (j := 0) rfl
                          have u1 := (BY).cell (j := 1) rfl
                          have u2 := (BY).cell (j := 2) rfl
                          have u3 := (BY).cell (j := 3) rfl
                          have u4 := (BY).cell (j := 4) rfl
                          have u5 := (BY).cell (j := 5) rfl
                          have u6 := (BY).cell (j := 6) rfl
                          have u7 := (BY).cell (j := 7) rfl
                          have u8 := (BY).cell (j := 8) rfl
                          have hyl := BY.lt (by simp)
                          have hge4 := hOv.ge
                          have hlt4 := hOv.blk_lt
                          have hIy := hI.keep (k34.trans kY)
                          have o8 := hIy.bx.cell (j := 8) rfl
                          have f8 := hIy.bx.free (j := 8) (by simp)
                          have hly := hIy.zw
                          have hcd : ((cst + d : Nat) : Int) = (cst : Int) + (d : Int) := by push_cast; rfl
                          have hI10 := hIy.cost h6 (d := cst + d) (by omega)
                          rw [hcd] at hI10
                          have hyo : ty ≠ bo := by omega
                          have BY10 := BY.keep (set_block w9 ⟨bo, 8, none⟩ (.int .i64 ((cst : Int) + (d : Int))) ty hyo)
                          have kC : Fx (fun q => q = bo) w9 (w9.setCell ⟨bo, 8, none⟩ (.int .i64 ((cst : Int) + (d : Int)))) := (Fx.refl _ w9).set1 ⟨bo, 8, none⟩ _ (.inl rfl)
                          have kC4 : Fx (fun q => q = bo) w4 (w9.setCell ⟨bo, 8, none⟩ (.int .i64 ((cst : Int) + (d : Int)))) := ((kY.fx _)).trans kC
                          have hb3 : (cst : Int) ≤ 65536 ∧ (d : Int) ≤ 65536 := by omega
                          go_upto_region 27 with (fail)
                          generalize w9.setCell ⟨bo, 8, none⟩ (.int .i64 ((cst : Int) + (d : Int))) = w10 at *
                          clear o8 f8
                          have hly10 := BY10.lt (by simp)
                          have o8 := hI10.bx.cell (j := 8) rfl
                          rw [hcd] at o8
                          clear u0 u1 u2 u3 u4 u5 u6 u7 u8
                          have u0 := (BY10).cell (j := 0) rfl
                          have u1 := (BY10).cell (j := 1) rfl
                          have u2 := (BY10).cell (j := 2) rfl
                          have u3 := (BY10).cell (j := 3) rfl
                          have u4 := (BY10).cell (j := 4) rfl
                          have u5 := (BY10).cell (j := 5) rfl
                          have u6 := (BY10).cell (j := 6) rfl
                          have u7 := (BY10).cell (j := 7) rfl
                          have u8 := (BY10).cell (j := 8) rfl
                          have BA10 := BA6.kp hI10.kp hAo
                          have k010 := k06.trans hI10.kp
                          have hOv10 := hOv.fx kC4 (fun q hq e => by have h1 := hge4 q hq; have e : q = bo := e; omega)
                          have hgeA : ∀ q, (Value.slice Ao vs.length co).ownBlock = some q → tA < q := fun q hq => by have h1 := hge4 q hq; omega
                          replace hgeA := hid hgeA
                          have hcdb : cst + d ≤ b := by omega
                          clear hge4 hlt4
                          have y0 := (BA10).cell (j := 0) rfl
                          have y1 := (BA10).cell (j := 1) rfl
                          have y2 := (BA10).cell (j := 2) rfl
                          have y3 := (BA10).cell (j := 3) rfl
                          have y4 := (BA10).cell (j := 4) rfl
                          have y5 := (BA10).cell (j := 5) rfl
                          have y6 := (BA10).cell (j := 6) rfl
                          have y7 := (BA10).cell (j := 7) rfl
                          have y8 := (BA10).cell (j := 8) rfl
                          have f0 := (BA10).free (j := 0) (by simp)
                          have f1 := (BA10).free (j := 1) (by simp)
                          have f2 := (BA10).free (j := 2) (by simp)
                          have f3 := (BA10).free (j := 3) (by simp)
                          have f4 := (BA10).free (j := 4) (by simp)
                          have f5 := (BA10).free (j := 5) (by simp)
                          have f6 := (BA10).free (j := 6) (by simp)
                          have f7 := (BA10).free (j := 7) (by simp)
                          have f8 := (BA10).free (j := 8) (by simp)
                          go_wp2
                          try simp only [Exit.inBlock, Exit.then]
                          have BE := (BA10).all (cs := [.int .i64 0, .int .i64 (k : Int), .slice Ao vs.length co, .int .i64 0, .slice none 0 0, .int .i64 0, .int .i64 0, .slice none 0 0, .int .i64 ((cst : Int) + (d : Int))]) rfl
                          change bodyPost _ _ _ _ _ (w10.setCells tA 0 [.int .i64 0, .int .i64 (k : Int), .slice Ao vs.length co, .int .i64 0, .slice none 0 0, .int .i64 0, .int .i64 0, .slice none 0 0, .int .i64 ((cst : Int) + (d : Int))])
                          refine bodyPost_ret (results_cell_bx rfl _ (w10.setCells tA 0 [.int .i64 0, .int .i64 (k : Int), .slice Ao vs.length co, .int .i64 0, .slice none 0 0, .int .i64 0, .int .i64 0, .slice none 0 0, .int .i64 ((cst : Int) + (d : Int))]) tA [.int .i64 0, .int .i64 (k : Int), .slice Ao vs.length co, .int .i64 0, .slice none 0 0, .int .i64 0, .int .i64 0, .slice none 0 0, .int .i64 ((cst : Int) + (d : Int))] _ rfl BE.range Tryz.underlying36 rfl (by kernel_rfl)) rfl ?_
                          have kS : Fx (fun q => q = tA) w10 (w10.setCells tA 0 [.int .i64 0, .int .i64 (k : Int), .slice Ao vs.length co, .int .i64 0, .slice none 0 0, .int .i64 0, .int .i64 0, .slice none 0 0, .int .i64 ((cst : Int) + (d : Int))]) := setsFx tA 0 _ _ (Fx.refl _ _) (.inl rfl)
                          have kE := kS.kp_of k010 (fun q e => by rw [e]; exact hwA.out)
                          refine ⟨kE, hcdb, Ao, co, by rw [hcd], ?_⟩
                          exact (hOv10.fx kS (fun q hq e => by have h1 := hgeA.out q hq; have e : q = tA := e; omega)).less k03.size
                        | ref u d =>
                          have HR' : Hid (casesF s F.steps F.box b (k + 1) (s.cases.drop (k + 1)) (cst + d) (ts ++ [u]) = R) := HR2
                          obtain ⟨hd, q0, q1, q2, q3, q4, rfl, hT⟩ := hq
                          obtain ⟨p0, p2, p3, A1, A4, n1, c1', n4, c4', rfl, rfl, rfl, rfl, rfl⟩ := rdTr_form hT.here
                          have kY := (Kp.refl w4).alloc (.cells ([.int .i64 1, .int .i64 0, .slice none 0 0, .int .i64 p0, .slice A1 n1 c1', .int .i64 p2, .int .i64 p3, .slice A4 n4 c4', .int .i64 (d : Int)]).toArray 36)
                          have BY := Bx.new w4 ([.int .i64 1, .int .i64 0, .slice none 0 0, .int .i64 p0, .slice A1 n1 c1', .int .i64 p2, .int .i64 p3, .slice A4 n4 c4', .int .i64 (d : Int)]).toArray 36
                          have zY := World.size_alloc w4 (.cells ([.int .i64 1, .int .i64 0, .slice none 0 0, .int .i64 p0, .slice A1 n1 c1', .int .i64 p2, .int .i64 p3, .slice A4 n4 c4', .int .i64 (d : Int)]).toArray 36)
                          go_upto_region 24 with (fail)
                          generalize (w4).alloc (.cells ([.int .i64 1, .int .i64 0, .slice none 0 0, .int .i64 p0, .slice A1 n1 c1', .int .i64 p2, .int .i64 p3, .slice A4 n4 c4', .int .i64 (d : Int)]).toArray 36) = w9 at *
                          obtain ⟨ty, hty⟩ : ∃ ty, ty = (w4).heap.size := ⟨_, rfl⟩
                          rw [← hty] at BY zY ⊢
                          try simp only [List.toList_toArray] at BY
                          have hyz : (w4).heap.size ≤ ty := by rw [hty]; exact Nat.le_refl _
                          replace hty := hid hty
                          have u0 := (BY).cell (j := 0) rfl
                          have u1 := (BY).cell (j := 1) rfl
                          have u2 := (BY).cell (j := 2) rfl
                          have u3 := (BY).cell (j := 3) rfl
                          have u4 := (BY).cell (j := 4) rfl
                          have u5 := (BY).cell (j := 5) rfl
                          have u6 := (BY).cell (j := 6) rfl
                          have u7 := (BY).cell (j := 7) rfl
                          have u8 := (BY).cell (j := 8) rfl
                          have hyl := BY.lt (by simp)
                          have hIy := hI.keep (k34.trans kY)
                          have o8 := hIy.bx.cell (j := 8) rfl
                          have f8 := hIy.bx.free (j := 8) (by simp)
                          have hly := hIy.zw
                          have hcd : ((cst + d : Nat) : Int) = (cst : Int) + (d : Int) := by push_cast; rfl
                          have hI10 := hIy.cost h6 (d := cst + d) (by omega)
                          rw [hcd] at hI10
                          have hyo : ty ≠ bo := by omega
                          have BY10 := BY.keep (set_block w9 ⟨bo, 8, none⟩ (.int .i64 ((cst : Int) + (d : Int))) ty hyo)
                          have kC : Fx (fun q => q = bo) w9 (w9.setCell ⟨bo, 8, none⟩ (.int .i64 ((cst : Int) + (d : Int)))) := (Fx.refl _ w9).set1 ⟨bo, 8, none⟩ _ (.inl rfl)
                          have kC4 : Fx (fun q => q = bo) w4 (w9.setCell ⟨bo, 8, none⟩ (.int .i64 ((cst : Int) + (d : Int)))) := ((kY.fx _)).trans kC
                          have hb3 : (cst : Int) ≤ 65536 ∧ (d : Int) ≤ 65536 := by omega
                          go_upto_region 27 with (fail)
                          generalize w9.setCell ⟨bo, 8, none⟩ (.int .i64 ((cst : Int) + (d : Int))) = w10 at *
                          clear o8 f8
                          have hly10 := BY10.lt (by simp)
                          have o8 := hI10.bx.cell (j := 8) rfl
                          clear u0 u1 u2 u3 u4 u5 u6 u7 u8
                          have u0 := (BY10).cell (j := 0) rfl
                          have u1 := (BY10).cell (j := 1) rfl
                          have u2 := (BY10).cell (j := 2) rfl
                          have u3 := (BY10).cell (j := 3) rfl
                          have u4 := (BY10).cell (j := 4) rfl
                          have u5 := (BY10).cell (j := 5) rfl
                          have u6 := (BY10).cell (j := 6) rfl
                          have u7 := (BY10).cell (j := 7) rfl
                          have u8 := (BY10).cell (j := 8) rfl
                          have o7 := hI10.bx.cell (j := 7) rfl
                          have hye : ∀ u ∈ [Value.int .i64 p0, .slice A1 n1 c1', .int .i64 p2, .int .i64 p3, .slice A4 n4 c4'], u.oneCell' = true := by simp [Value.oneCell']
                          obtain ⟨tc, htc⟩ : ∃ tc : Elm 5, tc.val = [Value.int .i64 p0, .slice A1 n1 c1', .int .i64 p2, .int .i64 p3, .slice A4 n4 c4'] := ⟨tcE _ _ _ _ _ hye, rfl⟩
                          have hT10 : OwF (fun q => q < w3.heap.size) w10 fun w' => rdTr (M + 1) w' tc.val u := (hT.fx (kC4.mono fun q _ e => by have e : q = bo := e; show q < w3.heap.size; rw [e]; exact hlr)).imp fun _ h => rdTr_le (kid_le hc1 hbN') (by rw [htc]; exact h)
                          have kT := (Kp.refl w10).alloc (.cells #[.int .i64 p0, .slice A1 n1 c1', .int .i64 p2, .int .i64 p3, .slice A4 n4 c4'] 34)
                          have hsrc := Sl.one (R := Pl (encC (size := 5))) w10 [.int .i64 p0, .slice A1 n1 c1', .int .i64 p2, .int .i64 p3, .slice A4 n4 c4'] 34 5 tc rfl htc.symm
                          have hownA := hI10.ki.own.kp kT
                          have hroom := hid (tree_room (Nat.le_of_eq hkl.out) hkb)
                          have hnbo : (Value.slice Ak css.length ck).ownBlock ≠ some bo := fun e => Nat.lt_irrefl _ (hI10.vkz bo e)
                          have hvz : ∀ q, (Value.slice Ak css.length ck).ownBlock = some q → q < w3.heap.size := hI.ki.own.blk_lt
                          have BOT := hI10.bx.kp kT hI10.zw
                          have hloT := BOT.lt (by simp)
                          replace hye := hid hye
                          replace htc := hid htc
                          replace hnbo := hid hnbo
                          replace hvz := hid hvz
                          go_upto_region 13 with (at_builtin; refine wpl_append_flat rfl (.tmp 130) (.tmp 133) rfl stTr encC_len encC_one rfl hownA rfl hsrc hroom.out.1 hroom.out.2 (Nat.zero_le _) ?_; intro v1 w11 own1 hgrow1 hat1 hnil1; obtain ⟨A11, n11, c11, rfl⟩ := own1.isSl; have BO11 := BOT.grown hgrow1 hnbo.out hloT; have o7 := BO11.cell (j := 7) rfl; have f7 := BO11.free (j := 7) (by simp); have hlo11 := BO11.lt (by simp); have hIk := hI10.kid h6 (z := w3.heap.size) hlr hvz.out hT10 kT own1 hgrow1 hat1; clear hgrow1 hat1 hnil1 hownA hsrc own1)
                          generalize w11.setCell ⟨bo, 7, none⟩ (.slice A11 n11 c11) = w12 at *
                          clear o7 f7 hlo11 BO11
                          go_wp2
                          go_roundw
                          case rel => exact ⟨k + 1, _, _, _, _, hlt, by go_num, hIk, hid (by rw [List.length_append, hts.out]; rfl), Nat.le_trans hc1 (Nat.le_add_right _ _), HR'⟩
                          case measure => exact meas hlt
              · have HE : R = .ref (.mk 2 F.steps 0 0 ts) cst := by rw [← HR.out]; exact casesF_end s F.steps F.box b k cst ts (Nat.le_of_not_lt hlt)
                subst HE
                have g0 := ndec hlt
                have BAr := BA6.kp hI.kp hAo
                have o0 := (hI.bx).cell (j := 0) rfl
                have o1 := (hI.bx).cell (j := 1) rfl
                have o2 := (hI.bx).cell (j := 2) rfl
                have o3 := (hI.bx).cell (j := 3) rfl
                have o4 := (hI.bx).cell (j := 4) rfl
                have o5 := (hI.bx).cell (j := 5) rfl
                have o6 := (hI.bx).cell (j := 6) rfl
                have o7 := (hI.bx).cell (j := 7) rfl
                have o8 := (hI.bx).cell (j := 8) rfl
                have hoo := ho.kp hI.kp
                have k0r := k06.trans hI.kp
                have hlbo := hI.zw
                have y0 := (BAr).cell (j := 0) rfl
                have y1 := (BAr).cell (j := 1) rfl
                have y2 := (BAr).cell (j := 2) rfl
                have y3 := (BAr).cell (j := 3) rfl
                have y4 := (BAr).cell (j := 4) rfl
                have y5 := (BAr).cell (j := 5) rfl
                have y6 := (BAr).cell (j := 6) rfl
                have y7 := (BAr).cell (j := 7) rfl
                have y8 := (BAr).cell (j := 8) rfl
                have f0 := (BAr).free (j := 0) (by simp)
                have f1 := (BAr).free (j := 1) (by simp)
                have f2 := (BAr).free (j := 2) (by simp)
                have f3 := (BAr).free (j := 3) (by simp)
                have f4 := (BAr).free (j := 4) (by simp)
                have f5 := (BAr).free (j := 5) (by simp)
                have f6 := (BAr).free (j := 6) (by simp)
                have f7 := (BAr).free (j := 7) (by simp)
                have f8 := (BAr).free (j := 8) (by simp)
                go_wp2
                try simp only [Exit.inBlock, Exit.then]
                have BE := (BAr).all (cs := [.int .i64 1, .int .i64 0, .slice none 0 0, .int .i64 2, .slice As F.steps.length cs, .int .i64 0, .int .i64 0, .slice Ak css.length ck, .int .i64 (cst : Int)]) rfl
                change bodyPost _ _ _ _ _ (wr.setCells tA 0 [.int .i64 1, .int .i64 0, .slice none 0 0, .int .i64 2, .slice As F.steps.length cs, .int .i64 0, .int .i64 0, .slice Ak css.length ck, .int .i64 (cst : Int)])
                refine bodyPost_ret (results_cell_bx rfl _ (wr.setCells tA 0 [.int .i64 1, .int .i64 0, .slice none 0 0, .int .i64 2, .slice As F.steps.length cs, .int .i64 0, .int .i64 0, .slice Ak css.length ck, .int .i64 (cst : Int)]) tA [.int .i64 1, .int .i64 0, .slice none 0 0, .int .i64 2, .slice As F.steps.length cs, .int .i64 0, .int .i64 0, .slice Ak css.length ck, .int .i64 (cst : Int)] _ rfl BE.range Tryz.underlying36 rfl (by kernel_rfl)) rfl ?_
                have kS : Fx (fun q => q = tA) wr (wr.setCells tA 0 [.int .i64 1, .int .i64 0, .slice none 0 0, .int .i64 2, .slice As F.steps.length cs, .int .i64 0, .int .i64 0, .slice Ak css.length ck, .int .i64 (cst : Int)]) := setsFx tA 0 _ _ (Fx.refl _ _) (.inl rfl)
                have kE := kS.kp_of k0r (fun q e => by rw [e]; exact hwA.out)
                refine ⟨kE, hI.cb, _, _, _, _, _, rfl, ?_⟩
                have hAb : tA < bo := Nat.lt_of_lt_of_le hAo h6
                have hSE := hoo.fx kS (fun q hq e => by have h1 := hge q hq; have e : q = tA := e; omega)
                have hKK := ((hI.ki.kids (z := bo) (Nat.le_succ _) (fun q hq => Nat.le_of_lt (hI.vkz q hq))).fx (kS.mono fun q _ e => by have e : q = tA := e; show q < bo; rw [e]; exact hAb)).mono (Y := fun q => q < w.heap.size) (fun q hq => Nat.lt_of_lt_of_le hq (Nat.le_trans hwA.out (Nat.le_of_lt hAb)))
                exact fun w2 k2 => ⟨_, _, rfl, (OwF.own hSE (fun q hq => hoo.ge q hq) w2 k2).sl encStp_len, hKK w2 k2⟩
          · have HD : dd = false := by
              rw [hdd]
              cases hr : root with
              | false => rfl
              | true =>
                have : ¬ 0 < s.cases.length := fun h => h2 ⟨hr, by omega⟩
                rw [decide_eq_false this]; rfl
            subst HD
            clear hdd
            have hnb : F.box.length ≤ 128 := by rw [HKT.out.1]; exact g1
            have hNs := hid (nodeG_sol (n := M) h2 hb1.out hF.out hfi hop)
            have hNp := hid (nodeG_split (n := M) h2 hb1.out hF.out hfi hop)
            rw [hR.out] at hNs hNp
            replace h2 := hid h2
            clear c0 c1 c2 c3 hgl x0 x2 hR hroot
            go_wp2_with fail
            go_loopw [18, 19] (fun ce i wr => ∃ (m : Int) (k : Nat), k ≤ F.box.length ∧ Hid (m = (k : Int) - 1) ∧ i = .int .i64 m ∧ ce = .int .i64 (idxF wideR k (F.box.drop k)) ∧ Kp w7 wr) (fun _ i _ => (intOf i + 1).toNat)
            case atStart => exact ⟨_, F.box.length, Nat.le_refl _, hid rfl, rfl, by rw [idxF_end], Kp.refl _⟩
            case round =>
              obtain ⟨m, k, hk, hm, rfl, hce, kw⟩ := hrel
              obtain ⟨cI, hcI⟩ : ∃ cI, Hid (idxF wideR k (F.box.drop k) = cI) := ⟨_, hid rfl⟩
              rw [hcI.out] at hce
              subst hce
              have BXr := BX7.kp kw hxl7
              have x1 := BXr.cell (j := 1) rfl
              have hxlr := BXr.lt (by simp)
              cases k with
              | succ j =>
                have hmj : m = (j : Int) := by rw [hm.out]; push_cast; omega
                subst hmj
                clear hm
                have hjb : j < F.box.length := hk
                obtain ⟨gb, ob, hAv, hgb, i1, i2⟩ := (hbx6.out.keep (pl_stable _) (kO.trans kw)).rng hjb
                subst hAv
                have HI := hid (idxF_drop (p := wideR) hjb)
                have hj0 : decide ((0 : Int) ≤ (j : Int)) = true := decide_eq_true (by omega)
                have hj1 : (0 : Int) ≤ (j : Int) := by omega
                have hj2 : (j : Int) < (F.box.length : Int) := by omega
                rw [hcI.out] at HI
                have HW : Hid (wideR F.box[j] = decide (F.box[j].lo < F.box[j].hi)) := hid rfl
                obtain ⟨ww, hww⟩ : ∃ ww, Hid (wideR F.box[j] = ww) := ⟨_, hid rfl⟩
                rw [hww.out] at HW HI
                generalize F.box[j].lo = lo at *
                generalize F.box[j].hi = hi at *
                clear hww
                go_upto_region 35 with (fail)
                refine G2.wp_region_growT Kp [] 12 248 (G2.pvL [G2.eqv (.pointer (some ⟨tx, 1, none⟩)), G2.eqv (.slice (some ⟨gb, ob, none⟩) F.box.length cv), G2.eqv (.int .i64 (j : Int)), G2.eqv (.pointer (some ⟨gb, ob + j * 2, none⟩)), G2.eqv (.pointer (some ⟨gb, ob + j * 2, none⟩)), G2.eqv (.int .i64 lo), G2.eqv (.pointer (some ⟨tx, 1, none⟩)), G2.eqv (.slice (some ⟨gb, ob, none⟩) F.box.length cv), G2.eqv (.int .i64 (j : Int)), G2.eqv (.pointer (some ⟨gb, ob + j * 2, none⟩)), G2.eqv (.pointer (some ⟨gb, ob + j * 2 + 1, none⟩)), G2.eqv (.int .i64 hi)]) (by kernel_rfl) (by kernel_rfl) rfl (fun x => Kp.refl x) (fun _ _ _ h k => h.trans k) (Kp.refl _).drew (fun _ _ _ _ _ h => h) (G2.pvL_keep (G2.stabL_cons (G2.stab_eq _) (G2.stabL_cons (G2.stab_eq _) (G2.stabL_cons (G2.stab_eq _) (G2.stabL_cons (G2.stab_eq _) (G2.stabL_cons (G2.stab_eq _) (G2.stabL_cons (G2.stab_eq _) (G2.stabL_cons (G2.stab_eq _) (G2.stabL_cons (G2.stab_eq _) (G2.stabL_cons (G2.stab_eq _) (G2.stabL_cons (G2.stab_eq _) (G2.stabL_cons (G2.stab_eq _) (G2.stabL_cons (G2.stab_eq _) (G2.stabL_nil)))))))))))))) (G2.stepsT_cons 0 ?_ (G2.stepsT_cons 1 ?_ (G2.stepsT_cons 2 ?_ (G2.stepsT_cons 3 ?_ (G2.stepsT_cons 4 ?_ (G2.stepsT_cons 5 ?_ (G2.stepsT_cons 6 ?_ (G2.stepsT_cons 7 ?_ (G2.stepsT_cons 8 ?_ (G2.stepsT_cons 9 ?_ (G2.stepsT_cons 10 ?_ (G2.stepsT_cons 11 ?_ (G2.stepsT_nil _ _ _))))))))))))) ?_ ?_
                · intro a w' hk hF hD K hK
                  have h11 : a.tmps[11]?.getD undef = .pointer (some ⟨tx, 0, none⟩) := hF 11 (by kernel_rfl)
                  clear hF hD
                  go_simp
                  exact hK.out _ _ (Kp.refl _) rfl
                · intro a w' hk hF hD K hK
                  have h146 : a.tmps[146]?.getD undef = .pointer (some ⟨tx, 1, none⟩) := hD 0 (by kernel_rfl)
                  clear hF hD
                  have z0 := hk.cellS x1
                  go_simp
                  exact hK.out _ _ (Kp.refl _) rfl
                · intro a w' hk hF hD K hK
                  have h19 : a.tmps[19]?.getD undef = .int .i64 (j : Int) := hF 19 (by kernel_rfl)
                  clear hF hD
                  go_simp
                  exact hK.out _ _ (Kp.refl _) rfl
                · intro a w' hk hF hD K hK
                  have h147 : a.tmps[147]?.getD undef = .slice (some ⟨gb, ob, none⟩) F.box.length cv := hD 1 (by kernel_rfl)
                  have h148 : a.tmps[148]?.getD undef = .int .i64 (j : Int) := hD 2 (by kernel_rfl)
                  clear hF hD
                  go_simp
                  exact hK.out _ _ (Kp.refl _) rfl
                · intro a w' hk hF hD K hK
                  have h149 : a.tmps[149]?.getD undef = .pointer (some ⟨gb, ob + j * 2, none⟩) := hD 3 (by kernel_rfl)
                  clear hF hD
                  go_simp
                  exact hK.out _ _ (Kp.refl _) rfl
                · intro a w' hk hF hD K hK
                  have h150 : a.tmps[150]?.getD undef = .pointer (some ⟨gb, ob + j * 2, none⟩) := hD 4 (by kernel_rfl)
                  clear hF hD
                  have z0 := hk.cellS i1
                  go_simp
                  exact hK.out _ _ (Kp.refl _) rfl
                · intro a w' hk hF hD K hK
                  have h11 : a.tmps[11]?.getD undef = .pointer (some ⟨tx, 0, none⟩) := hF 11 (by kernel_rfl)
                  clear hF hD
                  go_simp
                  exact hK.out _ _ (Kp.refl _) rfl
                · intro a w' hk hF hD K hK
                  have h152 : a.tmps[152]?.getD undef = .pointer (some ⟨tx, 1, none⟩) := hD 6 (by kernel_rfl)
                  clear hF hD
                  have z0 := hk.cellS x1
                  go_simp
                  exact hK.out _ _ (Kp.refl _) rfl
                · intro a w' hk hF hD K hK
                  have h19 : a.tmps[19]?.getD undef = .int .i64 (j : Int) := hF 19 (by kernel_rfl)
                  clear hF hD
                  go_simp
                  exact hK.out _ _ (Kp.refl _) rfl
                · intro a w' hk hF hD K hK
                  have h153 : a.tmps[153]?.getD undef = .slice (some ⟨gb, ob, none⟩) F.box.length cv := hD 7 (by kernel_rfl)
                  have h154 : a.tmps[154]?.getD undef = .int .i64 (j : Int) := hD 8 (by kernel_rfl)
                  clear hF hD
                  go_simp
                  exact hK.out _ _ (Kp.refl _) rfl
                · intro a w' hk hF hD K hK
                  have h155 : a.tmps[155]?.getD undef = .pointer (some ⟨gb, ob + j * 2, none⟩) := hD 9 (by kernel_rfl)
                  clear hF hD
                  go_simp
                  exact hK.out _ _ (Kp.refl _) rfl
                · intro a w' hk hF hD K hK
                  have h156 : a.tmps[156]?.getD undef = .pointer (some ⟨gb, ob + j * 2 + 1, none⟩) := hD 10 (by kernel_rfl)
                  clear hF hD
                  have z0 := hk.cellS i2
                  go_simp
                  exact hK.out _ _ (Kp.refl _) rfl
                · exact fun i0 hi0 => by simp at hi0
                intro v w9 k9 hv
                have v5 : v 5 = .int .i64 lo := hv 5 (by omega)
                have v11 : v 11 = .int .i64 hi := hv 11 (by omega)
                clear hv
                simp only [G2.growPut, G2.gSlot, List.getElem?_toArray, List.getElem?_cons_zero, List.getElem?_cons_succ, Option.bind_some, List.setIfInBounds_toArray, List.set_cons_zero, List.set_cons_succ, List.drop_succ_cons, List.drop_zero, v5, v11]
                have kw9 := kw.trans k9
                clear i1 i2 x1 k9 BXr
                obtain ⟨wd, hwd⟩ : ∃ wd, decide (lo < hi) = wd := ⟨_, rfl⟩
                rw [hwd] at HW
                cases wd with
                | true =>
                  have HI' : Hid (idxF wideR j (F.box.drop j) = (j : Int)) := hid (by rw [HI.out, HW.out, if_pos rfl])
                  go_wp2
                  go_roundw
                  case rel => exact ⟨_, j, Nat.le_of_lt hjb, hid rfl, rfl, by rw [HI'.out], kw9⟩
                  case measure => exact meas2 j
                | false =>
                  have HI' : Hid (idxF wideR j (F.box.drop j) = cI) := hid (by rw [HI.out, HW.out, if_neg (by simp)])
                  go_wp2
                  go_roundw
                  case rel => exact ⟨_, j, Nat.le_of_lt hjb, hid rfl, rfl, by rw [HI'.out], kw9⟩
                  case measure => exact meas2 j
              | zero =>
                have hm0 : m = -1 := by rw [hm.out]; rfl
                subst hm0
                clear hm
                have hcI0 : Hid (idxF wideR 0 F.box = cI) := hid (by have := hcI.out; rw [List.drop_zero] at this; exact this)
                clear hcI
                have kw6 := kO.trans kw
                have k0w := k07.trans kw
                have BAw := BA7.kp kw (BA7.lt (by simp))
                have BOw := BOx.kp kw hlo
                have Bw := B7.keep kw
                have hlow := Nat.lt_of_lt_of_le hlo kw.size
                clear kw BX7 BA7 B7 BOx x1 hxlr
                obtain ⟨w8, rfl⟩ : ∃ w8 : World, w8 = wr := ⟨_, rfl⟩
                have x1 := BXr.cell (j := 1) rfl
                have hxlr := BXr.lt (by simp)
                rw [hcI0.out] at hNs hNp
                by_cases hci : cI < 0
                · have HR' : R = .sol (F.box.map (·.lo)) 0 (1 + F.steps.length) := hNs.out hci
                  subst HR'
                  clear hNs hNp hcI0
                  have e4 : decide (cI < 0) = true := decide_eq_true hci
                  have o8 := BOw.cell (j := 8) rfl
                  obtain ⟨c9, hc9⟩ : ∃ c9 : Nat, Hid (1 + F.steps.length = c9) := ⟨_, hid rfl⟩
                  rw [hc9.out] at o8 hcb
                  go_upto_region 38 with (fail)
                  refine G2.wp_region_growT Kp [] 6 248 (G2.pvL [G2.eqv (.pointer (some ⟨tx, 1, none⟩)), G2.eqv (.slice Av F.box.length cv), (fun v w => ∃ A c, v = .slice A F.box.length c ∧ Own encInt 3 1 w8.heap.size w (.slice A F.box.length c) (F.box.map (·.lo))), G2.eqv (.pointer (some ⟨bo, 8, none⟩)), G2.eqv (.int .i64 (c9 : Int)), (fun v w => ∃ A c, v = .agg #[.int .i64 0, .int .i64 0, .slice A F.box.length c, .int .i64 0, .slice none 0 0, .int .i64 0, .int .i64 0, .slice none 0 0, .int .i64 (c9 : Int)] ∧ Own encInt 3 1 w8.heap.size w (.slice A F.box.length c) (F.box.map (·.lo)))]) (by kernel_rfl) (by kernel_rfl) rfl (fun x => Kp.refl x) (fun _ _ _ h k => h.trans k) (Kp.refl _).drew (fun _ _ _ _ _ h => h) (G2.pvL_keep (G2.stabL_cons (G2.stab_eq _) (G2.stabL_cons (G2.stab_eq _) (G2.stabL_cons (fun _ _ _ h hk => h.imp fun _ h => h.imp fun _ h => ⟨h.1, h.2.kp hk⟩) (G2.stabL_cons (G2.stab_eq _) (G2.stabL_cons (G2.stab_eq _) (G2.stabL_cons (fun _ _ _ h hk => h.imp fun _ h => h.imp fun _ h => ⟨h.1, h.2.kp hk⟩) (G2.stabL_nil)))))))) (G2.stepsT_cons 0 ?_ (G2.stepsT_cons 1 ?_ (G2.stepsT_cons 2 ?_ (G2.stepsT_cons 3 ?_ (G2.stepsT_cons 4 ?_ (G2.stepsT_cons 5 ?_ (G2.stepsT_nil _ _ _))))))) ?_ ?_
                  · intro a w' hk hF hD K hK
                    have h11 : a.tmps[11]?.getD undef = .pointer (some ⟨tx, 0, none⟩) := hF 11 (by kernel_rfl)
                    clear hF hD
                    go_simp
                    exact hK.out _ _ (Kp.refl _) rfl
                  · intro a w' hk hF hD K hK
                    have h162 : a.tmps[162]?.getD undef = .pointer (some ⟨tx, 1, none⟩) := hD 0 (by kernel_rfl)
                    clear hF hD
                    have z0 := hk.cellS x1
                    go_simp
                    exact hK.out _ _ (Kp.refl _) rfl
                  · intro a w' hk hF hD K hK
                    have h163 : a.tmps[163]?.getD undef = .slice Av F.box.length cv := hD 1 (by kernel_rfl)
                    clear hF hD
                    go_simp
                    refine (rLeast_any _ F.box w' (hbx6.out.keep (pl_stable _) (kw6.trans hk)) (by omega)).mono ?_
                    rintro e w9 ⟨v9, rfl, hI9, hk9⟩
                    obtain ⟨A9, c9', e9, -, -⟩ := hI9.form
                    rw [List.length_map] at e9
                    subst e9
                    exact hK.out _ _ hk9 ⟨_, _, rfl, hI9.less hk.size⟩
                  · intro a w' hk hF hD K hK
                    have h12 : a.tmps[12]?.getD undef = .pointer (some ⟨bo, 0, none⟩) := hF 12 (by kernel_rfl)
                    clear hF hD
                    go_simp
                    exact hK.out _ _ (Kp.refl _) rfl
                  · intro a w' hk hF hD K hK
                    have h165 : a.tmps[165]?.getD undef = .pointer (some ⟨bo, 8, none⟩) := hD 3 (by kernel_rfl)
                    clear hF hD
                    have z0 := hk.cellS o8
                    go_simp
                    exact hK.out _ _ (Kp.refl _) rfl
                  · intro a w' hk hF hD K hK
                    have h164 : (fun v w => ∃ A c, v = .slice A F.box.length c ∧ Own encInt 3 1 w8.heap.size w (.slice A F.box.length c) (F.box.map (·.lo))) (a.tmps[164]?.getD undef) w' := hD 2 (by kernel_rfl)
                    have h166 : a.tmps[166]?.getD undef = .int .i64 (c9 : Int) := hD 4 (by kernel_rfl)
                    clear hF hD
                    obtain ⟨A9, c9', e9, hO9⟩ := h164
                    go_simp
                    exact hK.out _ _ (Kp.refl _) ⟨A9, c9', rfl, hO9⟩
                  · exact fun i0 hi0 => by simp at hi0
                  intro v w9 k9 hv
                  have v5 : (fun v w => ∃ A c, v = .agg #[.int .i64 0, .int .i64 0, .slice A F.box.length c, .int .i64 0, .slice none 0 0, .int .i64 0, .int .i64 0, .slice none 0 0, .int .i64 (c9 : Int)] ∧ Own encInt 3 1 w8.heap.size w (.slice A F.box.length c) (F.box.map (·.lo))) (v 5) w9 := hv 5 (by omega)
                  clear hv
                  obtain ⟨A9, c9', v5', hO9⟩ := v5
                  simp only [G2.growPut, G2.gSlot, List.getElem?_toArray, List.getElem?_cons_zero, List.getElem?_cons_succ, Option.bind_some, List.setIfInBounds_toArray, List.set_cons_zero, List.set_cons_succ, List.drop_succ_cons, List.drop_zero, v5']
                  have BA9 := BAw.kp k9 (BAw.lt (by simp))
                  have kw9 := k0w.trans k9
                  have hge9 := hO9.ge
                  have hA8 := BAw.lt (by simp)
                  clear x1 o8 BXr
                  have y0 := (BA9).cell (j := 0) rfl
                  have y1 := (BA9).cell (j := 1) rfl
                  have y2 := (BA9).cell (j := 2) rfl
                  have y3 := (BA9).cell (j := 3) rfl
                  have y4 := (BA9).cell (j := 4) rfl
                  have y5 := (BA9).cell (j := 5) rfl
                  have y6 := (BA9).cell (j := 6) rfl
                  have y7 := (BA9).cell (j := 7) rfl
                  have y8 := (BA9).cell (j := 8) rfl
                  have f0 := (BA9).free (j := 0) (by simp)
                  have f1 := (BA9).free (j := 1) (by simp)
                  have f2 := (BA9).free (j := 2) (by simp)
                  have f3 := (BA9).free (j := 3) (by simp)
                  have f4 := (BA9).free (j := 4) (by simp)
                  have f5 := (BA9).free (j := 5) (by simp)
                  have f6 := (BA9).free (j := 6) (by simp)
                  have f7 := (BA9).free (j := 7) (by simp)
                  have f8 := (BA9).free (j := 8) (by simp)
                  go_wp2
                  try simp only [Exit.inBlock, Exit.then]
                  have BE := (BA9).all (cs := [.int .i64 0, .int .i64 0, .slice A9 F.box.length c9', .int .i64 0, .slice none 0 0, .int .i64 0, .int .i64 0, .slice none 0 0, .int .i64 (c9 : Int)]) rfl
                  change bodyPost _ _ _ _ _ (w9.setCells tA 0 [.int .i64 0, .int .i64 0, .slice A9 F.box.length c9', .int .i64 0, .slice none 0 0, .int .i64 0, .int .i64 0, .slice none 0 0, .int .i64 (c9 : Int)])
                  refine bodyPost_ret (results_cell_bx rfl _ (w9.setCells tA 0 [.int .i64 0, .int .i64 0, .slice A9 F.box.length c9', .int .i64 0, .slice none 0 0, .int .i64 0, .int .i64 0, .slice none 0 0, .int .i64 (c9 : Int)]) tA [.int .i64 0, .int .i64 0, .slice A9 F.box.length c9', .int .i64 0, .slice none 0 0, .int .i64 0, .int .i64 0, .slice none 0 0, .int .i64 (c9 : Int)] _ rfl BE.range Tryz.underlying36 rfl (by kernel_rfl)) rfl ?_
                  have kS : Fx (fun q => q = tA) w9 (w9.setCells tA 0 [.int .i64 0, .int .i64 0, .slice A9 F.box.length c9', .int .i64 0, .slice none 0 0, .int .i64 0, .int .i64 0, .slice none 0 0, .int .i64 (c9 : Int)]) := setsFx tA 0 _ _ (Fx.refl _ _) (.inl rfl)
                  have kE := kS.kp_of kw9 (fun q e => by rw [e]; exact hwA.out)
                  refine ⟨kE, by rw [hc9.out]; exact hcb, A9, c9', by rw [List.length_map, hc9.out]; rfl, ?_⟩
                  rw [List.length_map]
                  exact (hO9.fx kS (fun q hq e => by have h1 := hge9 q hq; have e : q = tA := e; omega)).less k0w.size
                · obtain ⟨j, hj, hcj, hwj, -⟩ : ∃ j, ∃ h : j < F.box.length, cI = (j : Int) ∧ wideR F.box[j] = true ∧ True := by
                    rcases idxF_cases wideR 0 F.box with ⟨h, -⟩ | ⟨j, h, h1, h3, -⟩
                    · rw [hcI0.out] at h; omega
                    · rw [hcI0.out] at h1
                      exact ⟨j, h, by rw [h1]; simp, h3, trivial⟩
                  subst hcj
                  have hfk := hid fun k => half_fine HKT.out hj hwj k
                  have hmb := mid_bounds (HKT.out.2.1 F.box[j] (List.getElem_mem hj)) hwj
                  have hbad := HKT.out.2.1 F.box[j] (List.getElem_mem hj)
                  have hpk := pick_at F.box j hj
                  have hHR : Hid (∀ a : Int, halfR F.box (j : Int) a 0 = ⟨F.box[j].lo, a⟩ ∧ halfR F.box (j : Int) a 1 = ⟨a + 1, F.box[j].hi⟩) := hid fun a => by unfold halfR; rw [hpk]; exact ⟨rfl, rfl⟩
                  rw [hpk] at hfk
                  have hN2 := hNp.out (by omega)
                  rw [hpk] at hN2
                  obtain ⟨at_, hat⟩ : ∃ a, Hid (middle F.box[j] = a) := ⟨_, hid rfl⟩
                  rw [hat.out] at hfk hmb hN2
                  have HR0 : Hid (splitF rows s.graphs M F.steps F.box (j : Int) at_ b (2 - 0) 0 [] (1 + F.steps.length) = R) := hid hN2.symm
                  clear hNs hNp hcI0 hN2 hpk
                  have hwj' := hid hwj
                  clear hwj
                  obtain ⟨lo, hlo0⟩ : ∃ lo, F.box[j].lo = lo := ⟨_, rfl⟩
                  obtain ⟨hi, hhi0⟩ : ∃ hi, F.box[j].hi = hi := ⟨_, rfl⟩
                  have hmid : Hid (middle ⟨lo, hi⟩ = at_) := hid (by rw [← hlo0, ← hhi0]; exact hat.out)
                  rw [hlo0, hhi0] at hmb hHR
                  have hbd : -1000000 ≤ lo ∧ hi ≤ 1000000 := by
                    unfold bad at hbad
                    rw [hlo0, hhi0] at hbad
                    omega
                  clear hbad hat hwj'
                  replace hlo0 := hid hlo0
                  replace hhi0 := hid hhi0
                  have e4 : decide ((j : Int) < 0) = false := decide_eq_false (by omega)
                  have f3 := BOw.free (j := 3) (by simp)
                  have f5 := BOw.free (j := 5) (by simp)
                  have o3 := BOw.cell (j := 3) rfl
                  have o5 := BOw.cell (j := 5) rfl
                  have BO9 := (BOw.set (j := 3) (by simp) (.int .i64 1)).set (j := 5) (by simp) (.int .i64 (j : Int))
                  simp only [List.set_cons_zero, List.set_cons_succ] at BO9
                  have k89 : Kp w6 ((w8.setCell ⟨bo, 3, none⟩ (.int .i64 1)).setCell ⟨bo, 5, none⟩ (.int .i64 (j : Int))) := (kw6.set (p := ⟨bo, 3, none⟩) h6 _).set (p := ⟨bo, 5, none⟩) h6 _
                  have hj0 : (0 : Int) ≤ (j : Int) := by omega
                  have hj1 : (j : Int) < (F.box.length : Int) := by omega
                  go_upto_region 41 with (fail)
                  generalize (w8.setCell ⟨bo, 3, none⟩ (.int .i64 1)).setCell ⟨bo, 5, none⟩ (.int .i64 (j : Int)) = wm at *
                  clear f3 f5 o3 o5 BOw BXr x1 Bw BAw hlow hxlr
                  have BXm := BX.kp k89 hxl
                  have x1 := BXm.cell (j := 1) rfl
                  have hxlm := BXm.lt (by simp)
                  obtain ⟨gb, ob, hAv, hgbm, i1, i2⟩ := (hbx6.out.keep (pl_stable _) k89).rng hj
                  subst hAv
                  rw [hlo0.out] at i1
                  rw [hhi0.out] at i2
                  have hMI := rMiddle_any lo hi wm
                  rw [hmid.out] at hMI
                  replace hMI := hid hMI
                  have hlom := BO9.lt (by simp)
                  go_wp2_with fail
                  refine hMI.out.mono ?_
                  rintro e wn ⟨rfl, kn⟩
                  have BOn := BO9.kp kn hlom
                  have f6 := BOn.free (j := 6) (by simp)
                  have o6 := BOn.cell (j := 6) rfl
                  have hlon := BOn.lt (by simp)
                  have BO10 := BOn.set (j := 6) (by simp) (.int .i64 at_)
                  simp only [List.set_cons_zero, List.set_cons_succ] at BO10
                  have k10 : Kp w6 (wn.setCell ⟨bo, 6, none⟩ (.int .i64 at_)) := (k89.trans kn).set (p := ⟨bo, 6, none⟩) h6 _
                  have hl10 : bo < (wn.setCell ⟨bo, 6, none⟩ (.int .i64 at_)).heap.size := by rw [set_size]; exact hlon
                  go_upto_region 42 with (fail)
                  generalize wn.setCell ⟨bo, 6, none⟩ (.int .i64 at_) = wp at *
                  have hI0 : RQ w6 (M + 1) b bo 1 (j : Int) at_ (.slice As F.steps.length cs) wp (.slice none 0 0) [] [] (1 + F.steps.length) := ⟨k10, KI.nil _ _ _, BO10, fun q hq => by simp [Value.ownBlock] at hq, hl10, hcb⟩
                  clear f6 o6 BOn BO10 BO9 hl10 hlon hlom x1 i1 i2 hMI BXm hgbm hxlm k89 kn k10
                  have hb1' := hb1.out
                  have hbN' := hbN.out
                  go_wp2_with fail
                  go_loopw [20] (fun i wr => ∃ (k : Nat) (vk : Value) (css : List (Elm 5)) (ts : List Tr) (cst : Nat), k ≤ 2 ∧ i = .int .i64 (k : Int) ∧ RQ w6 (M + 1) b bo 1 (j : Int) at_ (.slice As F.steps.length cs) wr vk css ts cst ∧ Hid (ts.length = k) ∧ 1 ≤ cst ∧ Hid (splitF rows s.graphs M F.steps F.box (j : Int) at_ b (2 - k) k ts cst = R)) (fun i _ => 2 - (intOf i).toNat)
                  case atStart => exact ⟨0, _, _, _, _, Nat.zero_le _, rfl, hI0, hid rfl, Nat.le_add_right _ _, HR0⟩
                  case round =>
                    clear hI0 HR0
                    obtain ⟨k, vk, css, ts, cst, hk, rfl, hI, hts, hc1, HR⟩ := hrel
                    have hkl := hid (hI.ki.len.trans hts.out)
                    obtain ⟨Ak, ck, rfl, _, _⟩ := hI.ki.own.form
                    have hlr := hI.zw
                    have hcb' := hI.cb
                    have hkb : k ≤ 200000 := Nat.le_trans hk (by decide)
                    by_cases hlt : k < 2
                    · have HR2 : Hid (kidF (nodeF rows s.graphs M (F.box.set (j : Int).toNat (halfR F.box (j : Int) at_ k)) (b - cst)) 0 cst (fun t c' => splitF rows s.graphs M F.steps F.box (j : Int) at_ b (2 - (k + 1)) (k + 1) (ts ++ [t]) c') = R) := hid (by rw [← half_kid hlt]; exact HR.out)
                      rw [Int.toNat_natCast] at HR2
                      have hfin0 := hfk.out k
                      obtain ⟨hl, hh, hHK⟩ : ∃ hl hh, Hid (halfR F.box (j : Int) at_ k = ⟨hl, hh⟩) := ⟨_, _, hid rfl⟩
                      rw [hHK.out] at hfin0 HR2
                      obtain ⟨G, hG⟩ : ∃ G, Hid (nodeF rows s.graphs M (F.box.set j ⟨hl, hh⟩) (b - cst) = G) := ⟨_, hid rfl⟩
                      rw [hG.out] at HR2
                      have hfin := hid hfin0
                      have g0 : decide ((k : Int) < 2) = true := decide_eq_true (by omega)
                      have BXr := BX.kp hI.kp hxl
                      have x1 := BXr.cell (j := 1) rfl
                      have hxlr := BXr.lt (by simp)
                      obtain ⟨gb2, ob2, hAv, hgb, i1, i2⟩ := (hbx6.out.keep (pl_stable _) hI.kp).rng hj
                      cases hAv
                      rw [hlo0.out] at i1
                      rw [hhi0.out] at i2
                      have o6 := hI.bx.cell (j := 6) rfl
                      clear hfin0 HR
                      go_upto_region 45 with (fail)
                      refine G2.wp_region_growT Kp [] 11 248 (G2.pvL [G2.eqv (.pointer (some ⟨tx, 1, none⟩)), G2.eqv (.slice (some ⟨gb, ob, none⟩) F.box.length cv), G2.eqv (.int .i64 (j : Int)), G2.eqv (.pointer (some ⟨gb, ob + j * 2, none⟩)), G2.eqv (.pointer (some ⟨gb, ob + j * 2, none⟩)), G2.eqv (.int .i64 lo), G2.eqv (.pointer (some ⟨bo, 3, none⟩)), G2.eqv (.pointer (some ⟨bo, 6, none⟩)), G2.eqv (.int .i64 at_), G2.eqv (.agg #[.int .i64 lo, .int .i64 at_]), (fun v w => ∃ p, v = .pointer (some ⟨p, 0, none⟩) ∧ wr.heap.size ≤ p ∧ Bx w p [.int .i64 0, .int .i64 0])]) (by kernel_rfl) (by kernel_rfl) rfl (fun x => Kp.refl x) (fun _ _ _ h k => h.trans k) (Kp.refl _).drew (fun _ _ _ _ _ h => h) (G2.pvL_keep (G2.stabL_cons (G2.stab_eq _) (G2.stabL_cons (G2.stab_eq _) (G2.stabL_cons (G2.stab_eq _) (G2.stabL_cons (G2.stab_eq _) (G2.stabL_cons (G2.stab_eq _) (G2.stabL_cons (G2.stab_eq _) (G2.stabL_cons (G2.stab_eq _) (G2.stabL_cons (G2.stab_eq _) (G2.stabL_cons (G2.stab_eq _) (G2.stabL_cons (G2.stab_eq _) (G2.stabL_cons (fun _ _ _ h hk => h.imp fun _ h => ⟨h.1, h.2.1, h.2.2.kp hk (h.2.2.lt (by simp))⟩) (G2.stabL_nil))))))))))))) (G2.stepsT_cons 0 ?_ (G2.stepsT_cons 1 ?_ (G2.stepsT_cons 2 ?_ (G2.stepsT_cons 3 ?_ (G2.stepsT_cons 4 ?_ (G2.stepsT_cons 5 ?_ (G2.stepsT_cons 6 ?_ (G2.stepsT_cons 7 ?_ (G2.stepsT_cons 8 ?_ (G2.stepsT_cons 9 ?_ (G2.stepsT_cons 10 ?_ (G2.stepsT_nil _ _ _)))))))))))) ?_ ?_
                      · intro a w' hk hF hD K hK
                        have h11 : a.tmps[11]?.getD undef = .pointer (some ⟨tx, 0, none⟩) := hF 11 (by kernel_rfl)
                        clear hF hD
                        go_simp
                        exact hK.out _ _ (Kp.refl _) rfl
                      · intro a w' hk hF hD K hK
                        have h185 : a.tmps[185]?.getD undef = .pointer (some ⟨tx, 1, none⟩) := hD 0 (by kernel_rfl)
                        clear hF hD
                        have z0 := hk.cellS x1
                        go_simp
                        exact hK.out _ _ (Kp.refl _) rfl
                      · intro a w' hk hF hD K hK
                        have h18 : a.tmps[18]?.getD undef = .int .i64 (j : Int) := hF 18 (by kernel_rfl)
                        clear hF hD
                        go_simp
                        exact hK.out _ _ (Kp.refl _) rfl
                      · intro a w' hk hF hD K hK
                        have h186 : a.tmps[186]?.getD undef = .slice (some ⟨gb, ob, none⟩) F.box.length cv := hD 1 (by kernel_rfl)
                        have h187 : a.tmps[187]?.getD undef = .int .i64 (j : Int) := hD 2 (by kernel_rfl)
                        clear hF hD
                        go_simp
                        exact hK.out _ _ (Kp.refl _) rfl
                      · intro a w' hk hF hD K hK
                        have h188 : a.tmps[188]?.getD undef = .pointer (some ⟨gb, ob + j * 2, none⟩) := hD 3 (by kernel_rfl)
                        clear hF hD
                        go_simp
                        exact hK.out _ _ (Kp.refl _) rfl
                      · intro a w' hk hF hD K hK
                        have h189 : a.tmps[189]?.getD undef = .pointer (some ⟨gb, ob + j * 2, none⟩) := hD 4 (by kernel_rfl)
                        clear hF hD
                        have z0 := hk.cellS i1
                        go_simp
                        exact hK.out _ _ (Kp.refl _) rfl
                      · intro a w' hk hF hD K hK
                        have h12 : a.tmps[12]?.getD undef = .pointer (some ⟨bo, 0, none⟩) := hF 12 (by kernel_rfl)
                        clear hF hD
                        go_simp
                        exact hK.out _ _ (Kp.refl _) rfl
                      · intro a w' hk hF hD K hK
                        have h191 : a.tmps[191]?.getD undef = .pointer (some ⟨bo, 3, none⟩) := hD 6 (by kernel_rfl)
                        clear hF hD
                        go_simp
                        exact hK.out _ _ (Kp.refl _) rfl
                      · intro a w' hk hF hD K hK
                        have h192 : a.tmps[192]?.getD undef = .pointer (some ⟨bo, 6, none⟩) := hD 7 (by kernel_rfl)
                        clear hF hD
                        have z0 := hk.cellS o6
                        go_simp
                        exact hK.out _ _ (Kp.refl _) rfl
                      · intro a w' hk hF hD K hK
                        have h190 : a.tmps[190]?.getD undef = .int .i64 lo := hD 5 (by kernel_rfl)
                        have h193 : a.tmps[193]?.getD undef = .int .i64 at_ := hD 8 (by kernel_rfl)
                        clear hF hD
                        go_simp
                        exact hK.out _ _ (Kp.refl _) rfl
                      · intro a w' hk hF hD K hK
                        clear hF hD
                        go_simp
                        exact hK.out _ _ ((Kp.refl w').alloc _) ⟨_, rfl, hk.size, Bx.new w' #[.int .i64 0, .int .i64 0] 57⟩
                      · exact fun i0 hi0 => by simp at hi0
                      intro v w9 k9 hv
                      have v10 : (fun v w => ∃ p, v = .pointer (some ⟨p, 0, none⟩) ∧ wr.heap.size ≤ p ∧ Bx w p [.int .i64 0, .int .i64 0]) (v 10) w9 := hv 10 (by omega)
                      have v9 : v 9 = .agg #[.int .i64 lo, .int .i64 at_] := hv 9 (by omega)
                      clear hv
                      obtain ⟨pt, v10', hpt, BT⟩ := v10
                      simp only [G2.growPut, G2.gSlot, List.getElem?_toArray, List.getElem?_cons_zero, List.getElem?_cons_succ, Option.bind_some, List.setIfInBounds_toArray, List.set_cons_zero, List.set_cons_succ, List.drop_succ_cons, List.drop_zero, v9, v10']
                      have kwb := (k9.set (p := ⟨pt, 0, none⟩) hpt (.int .i64 lo)).set (p := ⟨pt, 1, none⟩) hpt (.int .i64 at_)
                      have f0 := BT.free (j := 0) (by simp)
                      have f1 := BT.free (j := 1) (by simp)
                      have d0 := BT.cell (j := 0) rfl
                      have d1 := BT.cell (j := 1) rfl
                      have hlt9 := BT.lt (by simp)
                      have BT2 := BT.set2 (.int .i64 lo) (.int .i64 at_)
                      clear BT
                      go_upto_region 46 with (fail)
                      generalize (w9.setCell ⟨pt, 0, none⟩ (.int .i64 lo)).setCell ⟨pt, 1, none⟩ (.int .i64 at_) = wa at *
                      clear f0 f1 d0 d1 hlt9 k9
                      obtain ⟨dd, hdd⟩ : ∃ dd, dd = decide (k = 1) := ⟨_, rfl⟩
                      go_cut [196] from 195 to 196 (fun s196 wx => s196 = .bool dd ∧ wa = wx)
                      case first =>
                        by_cases hk0 : k = 0
                        · subst hk0
                          have HD : Hid (dd = false) := hid hdd
                          clear hdd x1 i1 i2 o6
                          go_wp2
                          go_meet
                          case rel => exact ⟨by rw [HD.out], rfl⟩
                        · have hk1 : k = 1 := by omega
                          subst hk1
                          have HD : Hid (dd = true) := hid hdd
                          clear hdd x1 i1 i2 o6
                          go_wp2
                          go_meet
                          case rel => exact ⟨by rw [HD.out], rfl⟩
                      case rest =>
                      obtain ⟨rfl, rfl⟩ := hcut
                      go_upto_if 196 with (fail)
                      go_cut [] from 197 to 207 (fun wx => ∃ W, W = wx ∧ Bx W pt [.int .i64 hl, .int .i64 hh] ∧ Kp wr W)
                      case first =>
                        by_cases hk0 : k = 0
                        · subst hk0
                          have e := (hHR.out at_).1.symm.trans hHK.out
                          injection e with e1 e2
                          rw [e1, e2] at BT2
                          clear e1 e2
                          have hdd' : dd = false := hdd
                          subst hdd'
                          clear hdd
                          go_wp2
                          go_meet
                          case rel => exact ⟨_, rfl, BT2, kwb⟩
                        · have hk1 : k = 1 := by omega
                          have e : (⟨at_ + 1, hi⟩ : Rng) = ⟨hl, hh⟩ := by rw [← hHK.out, hk1]; exact (hHR.out at_).2.symm
                          have hdd' : dd = true := by rw [hdd, decide_eq_true hk1]
                          replace hk1 := hid hk1
                          clear hk0
                          injection e with e1 e2
                          have x1a := kwb.cellS x1
                          have i2a := kwb.cellS i2
                          have o6a := kwb.cellS o6
                          have hga := block_lt_of_cell i2a
                          have hxa := block_lt_of_cell x1a
                          have hoa := block_lt_of_cell o6a
                          have ha1 : -1000000 ≤ at_ ∧ at_ ≤ 1000000 := by omega
                          clear x1 i1 i2 o6
                          replace e1 := hid e1
                          replace e2 := hid e2
                          subst hdd'
                          clear hdd
                          go_upto_region 47 with (fail)
                          refine wp_region_kw_tail 11 (by kernel_rfl) (by kernel_rfl) ?_
                          simp only [List.take_succ_cons, List.take_zero, List.drop_succ_cons, List.drop_zero]
                          repeat (go_big_quiet_step ((fail)))
                          refine wpQuiet_nil ?_
                          intro _ hw'
                          obtain ⟨u, hw''⟩ := hw'
                          subst hw''
                          have k9 := kw_kp wa u
                          generalize Kw wa u = w9 at *
                          have BT9 := BT2.kp k9 (BT2.lt (by simp))
                          have kwc := ((kwb.trans k9).set (p := ⟨pt, 0, none⟩) hpt (.int .i64 (at_ + 1))).set (p := ⟨pt, 1, none⟩) hpt (.int .i64 hi)
                          have f0 := BT9.free (j := 0) (by simp)
                          have f1 := BT9.free (j := 1) (by simp)
                          have d0 := BT9.cell (j := 0) rfl
                          have d1 := BT9.cell (j := 1) rfl
                          have hlt9 := BT9.lt (by simp)
                          have BT3 := BT9.set2 (.int .i64 (at_ + 1)) (.int .i64 hi)
                          go_wp2
                          go_meet
                          case rel => exact ⟨_, rfl, by rw [← e1.out, ← e2.out]; exact BT3, kwc⟩
                      case rest =>
                        clear BT2 kwb x1 i1 i2 o6 hgb BXr hxlr hdd
                        obtain ⟨w3, rfl, BT3, kx⟩ := hcut
                        have hI3 := hI.keep kx
                        have k03 := k06.trans hI3.kp
                        have BX3 := BX.kp hI3.kp hxl
                        have x1 := BX3.cell (j := 1) rfl
                        have B3 := B6.keep hI3.kp
                        obtain ⟨c0, c1, c2, c3⟩ := B3.cells
                        have o8 := hI3.bx.cell (j := 8) rfl
                        have t0 := BT3.cell (j := 0) rfl
                        have t1 := BT3.cell (j := 1) rfl
                        have hcI := le_cast hI3.cb hbI.out
                        have hWL : Hid (withL F.box (j : Int) ⟨hl, hh⟩ = F.box.set j ⟨hl, hh⟩) := hid (by unfold withL; rw [if_pos hj0, Int.toNat_natCast])
                        have HN : Hid (∀ (w' : World) (v : Value), Kp w3 w' → Rngs w' v (F.box.set j ⟨hl, hh⟩) → Calls Tryz.prog 23 #[.agg #[.slice Ab s.box.length cb, .slice Ar s.rows.length cr, .slice Ag s.graphs.length cg, .slice Ac s.cases.length cc], .slice Aw rows.length cw, v, .bool false, .int .i64 (IntKind.i64.wrap (bI - (cst : Int)))] w' (RNR w' (M + 1) (b - cst) G)) := hid (fun w' v k hv => by
                          rw [IntWalk.i64_in _ (wrap_room hcI q1.2)]
                          have h := ih.out M (Nat.lt_succ_self M) _ _ v rows _ false (b - cst) (bI - (cst : Int)) w' (hs.keep (k03.trans k)) (hrw.keep rdRow_stable (k03.trans k)) hv hfin.out hfr hrl (fun h => by cases h) (Nat.le_trans (Nat.sub_le _ _) hb9) (sub_lt2 hc1 hbN') (sub_cast hI3.cb hbI.out)
                          rw [nodeG_kid, hG.out] at h
                          exact h)
                        clear hI
                        have hS : ∀ W, Kp w3 W → (W.cell? ⟨b0, 0, none⟩ = some (.slice Ab s.box.length cb) ∧ W.cell? ⟨b0, 1, none⟩ = some (.slice Ar s.rows.length cr) ∧ W.cell? ⟨b0, 2, none⟩ = some (.slice Ag s.graphs.length cg) ∧ W.cell? ⟨b0, 3, none⟩ = some (.slice Ac s.cases.length cc)) ∧ W.cell? ⟨tx, 1, none⟩ = some (.slice (some ⟨gb, ob, none⟩) F.box.length cv) ∧ W.cell? ⟨bo, 8, none⟩ = some (.int .i64 (cst : Int)) ∧ W.cell? ⟨pt, 0, none⟩ = some (.int .i64 hl) ∧ W.cell? ⟨pt, 1, none⟩ = some (.int .i64 hh) :=
                          fun W k => ⟨⟨k.cellS c0, k.cellS c1, k.cellS c2, k.cellS c3⟩, k.cellS x1, k.cellS o8, k.cellS t0, k.cellS t1⟩
                        have hx3 := hid (fun W (k : Kp w3 W) => hbx6.out.keep (pl_stable _) (hI3.kp.trans k))
                        clear c0 c1 c2 c3 x1 o8 t0 t1 BX3 B3
                        replace hS := hid hS
                        have hszA : (Tryz.prog.info? 36).map (·.size) = some 9 := by kernel_rfl
                        have hnb2 := hid hnb
                        go_upto_region 48 with (fail)
                        go_cut [22] from 208 to 219 (fun s22 wx => ∃ (W : World) (ty : Nat) (cy : List Value), W = wx ∧ s22 = .pointer (some ⟨ty, 0, none⟩) ∧ Bx W ty cy ∧ Kp w3 W ∧ w3.heap.size ≤ ty ∧ RNV w3.heap.size (M + 1) (b - cst) G cy W)
                        case first =>
                          have kd : Kp w3 w3.drew := (Kp.refl w3).drew
                          refine wp_region_held_drew (S := fun W => (W.cell? ⟨b0, 0, none⟩ = some (.slice Ab s.box.length cb) ∧ W.cell? ⟨b0, 1, none⟩ = some (.slice Ar s.rows.length cr) ∧ W.cell? ⟨b0, 2, none⟩ = some (.slice Ag s.graphs.length cg) ∧ W.cell? ⟨b0, 3, none⟩ = some (.slice Ac s.cases.length cc)) ∧ W.cell? ⟨tx, 1, none⟩ = some (.slice (some ⟨gb, ob, none⟩) F.box.length cv) ∧ W.cell? ⟨bo, 8, none⟩ = some (.int .i64 (cst : Int)) ∧ W.cell? ⟨pt, 0, none⟩ = some (.int .i64 hl) ∧ W.cell? ⟨pt, 1, none⟩ = some (.int .i64 hh)) (by kernel_rfl) (hS.out _ kd) (fun hHeld => ?_)
                          refine take_at 0 208 (v := ?_) rfl rfl (by kernel_rfl) (by kernel_rfl) (by kernel_rfl) (fun _ _ _ h => h) hHeld (Or.inl ⟨by kernel_rfl, ?_⟩) ?_
                          rotate_left
                          · intro w hSw; (try dsimp only at hSw); go_simp; try with_reducible rfl
                          simp only [Act.put, List.setIfInBounds_toArray, List.set_cons_zero, List.set_cons_succ]
                          refine take_at 1 209 (v := ?_) rfl rfl (by kernel_rfl) (by kernel_rfl) (by kernel_rfl) (fun _ _ _ h => h) hHeld (Or.inl ⟨by kernel_rfl, ?_⟩) ?_
                          rotate_left
                          · intro w hSw; (try dsimp only at hSw); go_simp; try with_reducible rfl
                          simp only [Act.put, List.setIfInBounds_toArray, List.set_cons_zero, List.set_cons_succ]
                          refine take_at 2 210 (v := ?_) rfl rfl (by kernel_rfl) (by kernel_rfl) (by kernel_rfl) (fun _ _ _ h => h) hHeld (Or.inl ⟨by kernel_rfl, ?_⟩) ?_
                          rotate_left
                          · intro w hSw; (try dsimp only at hSw); go_simp; try with_reducible rfl
                          simp only [Act.put, List.setIfInBounds_toArray, List.set_cons_zero, List.set_cons_succ]
                          refine take_at 3 211 (v := ?_) rfl rfl (by kernel_rfl) (by kernel_rfl) (by kernel_rfl) (fun _ _ _ h => h) hHeld (Or.inl ⟨by kernel_rfl, ?_⟩) ?_
                          rotate_left
                          · intro w hSw; (try dsimp only at hSw); go_simp; try with_reducible rfl
                          simp only [Act.put, List.setIfInBounds_toArray, List.set_cons_zero, List.set_cons_succ]
                          refine take_at 4 212 (v := ?_) rfl rfl (by kernel_rfl) (by kernel_rfl) (by kernel_rfl) (fun _ _ _ h => h) hHeld (Or.inl ⟨by kernel_rfl, ?_⟩) ?_
                          rotate_left
                          · intro w hSw; (try dsimp only at hSw); go_simp; try with_reducible rfl
                          simp only [Act.put, List.setIfInBounds_toArray, List.set_cons_zero, List.set_cons_succ]
                          refine take_at 5 213 (v := ?_) rfl rfl (by kernel_rfl) (by kernel_rfl) (by kernel_rfl) (fun _ _ _ h => h) hHeld (Or.inl ⟨by kernel_rfl, ?_⟩) ?_
                          rotate_left
                          · intro w hSw; (try dsimp only at hSw); go_simp; try with_reducible rfl
                          simp only [Act.put, List.setIfInBounds_toArray, List.set_cons_zero, List.set_cons_succ]
                          refine take_at 7 215 (v := ?_) rfl rfl (by kernel_rfl) (by kernel_rfl) (by kernel_rfl) (fun _ _ _ h => h) hHeld (Or.inl ⟨by kernel_rfl, ?_⟩) ?_
                          rotate_left
                          · intro w hSw; (try dsimp only at hSw); go_simp; try with_reducible rfl
                          simp only [Act.put, List.setIfInBounds_toArray, List.set_cons_zero, List.set_cons_succ]
                          refine take_at 8 216 (v := ?_) rfl rfl (by kernel_rfl) (by kernel_rfl) (by kernel_rfl) (fun _ _ _ h => h) hHeld (Or.inl ⟨by kernel_rfl, ?_⟩) ?_
                          rotate_left
                          · intro w hSw; (try dsimp only at hSw); go_simp; try with_reducible rfl
                          simp only [Act.put, List.setIfInBounds_toArray, List.set_cons_zero, List.set_cons_succ]
                          refine take_at 9 217 (v := ?_) rfl rfl (by kernel_rfl) (by kernel_rfl) (by kernel_rfl) (fun _ _ _ h => h) hHeld (Or.inl ⟨by kernel_rfl, ?_⟩) ?_
                          rotate_left
                          · intro w hSw; (try dsimp only at hSw); go_simp; try with_reducible rfl
                          simp only [Act.put, List.setIfInBounds_toArray, List.set_cons_zero, List.set_cons_succ]
                          refine take_at 10 218 (v := ?_) rfl rfl (by kernel_rfl) (by kernel_rfl) (by kernel_rfl) (fun _ _ _ h => h) hHeld (Or.inl ⟨by kernel_rfl, ?_⟩) ?_
                          rotate_left
                          · intro w hSw; (try dsimp only at hSw); go_simp; try with_reducible rfl
                          simp only [Act.put, List.setIfInBounds_toArray, List.set_cons_zero, List.set_cons_succ]
                          generalize w3.drew = w1 at *
                          refine wpAnyH_ready (rs := [6, 12]) (by kernel_rfl) (by simp) ?_
                          refine AllReadyH.cons (o := _) rfl (fun K hK => ?_) (AllReadyH.cons (o := _) rfl (fun K hK => ?_) AllReadyH.nil)
                          · go_simp
                            refine (rWith_any _ F.box (j : Int) hl hh w1 (hx3.out _ kd) (Nat.le_trans hnb2.out (by decide))).mono ?_
                            rintro e wA ⟨vA, rfl, hA0, kA0⟩
                            rw [hWL.out] at hA0
                            have hA := hA0.sl encRng_len
                            have kA := (kd).trans kA0
                            clear hA0
                            refine hK.out _ _ ((hS.out _ kA)) (fun hHeld2 => ?_)
                            clear hK K hHeld
                            have hHeld := hHeld2
                            clear hHeld2
                            try simp only [Act.put, List.setIfInBounds_toArray, List.set_cons_zero, List.set_cons_succ]
                            refine wpAnyH_ready (rs := [11, 12]) (by kernel_rfl) (by simp) ?_
                            refine AllReadyH.cons (o := _) rfl (fun K hK => ?_) (AllReadyH.cons (o := _) rfl (fun K hK => ?_) AllReadyH.nil)
                            · go_simp
                              refine (HN.out wA _ kA hA).mono ?_
                              rintro e wB hRN
                              obtain ⟨kB0, cy, hcy9, hcy1, rfl, hVN⟩ := hRN.val
                              have kB := (kA).trans kB0
                              clear hRN
                              refine hK.out _ _ ((hS.out _ kB)) (fun hHeld2 => ?_)
                              clear hK K hHeld
                              have hHeld := hHeld2
                              clear hHeld2
                              try simp only [Act.put, List.setIfInBounds_toArray, List.set_cons_zero, List.set_cons_succ]
                              refine wpAnyH_ready (rs := [12]) (by kernel_rfl) (by simp) ?_
                              refine AllReadyH.cons (o := _) rfl (fun K hK => ?_) AllReadyH.nil
                              go_simp
                              have kB1 := kB.alloc (.cells [.int .i64 0, .int .i64 0, .slice none 0 0, .int .i64 0, .slice none 0 0, .int .i64 0, .int .i64 0, .slice none 0 0, .int .i64 0].toArray 36)
                              refine hK.out _ _ ((hS.out _ kB1)) (fun hHeld2 => ?_)
                              clear hK K hHeld
                              have hHeld := hHeld2
                              clear hHeld2
                              try simp only [Act.put, List.setIfInBounds_toArray, List.set_cons_zero, List.set_cons_succ]
                              have BB := Bx.new wB [.int .i64 0, .int .i64 0, .slice none 0 0, .int .i64 0, .slice none 0 0, .int .i64 0, .int .i64 0, .slice none 0 0, .int .i64 0].toArray 36
                              have htyz := kB.size
                              have hfx : Fx (fun q => q < wA.heap.size) wB ((wB.alloc (.cells [.int .i64 0, .int .i64 0, .slice none 0 0, .int .i64 0, .slice none 0 0, .int .i64 0, .int .i64 0, .slice none 0 0, .int .i64 0].toArray 36)).setCells wB.heap.size 0 cy) := setsFx _ 0 cy _ (((Kp.refl wB).alloc _).fx _) (.inr (Nat.le_refl _))
                              refine wpAnyH_ready (rs := [13]) (by kernel_rfl) (by simp) ?_
                              refine AllReadyH.cons (o := _) rfl (fun K hK => ?_) AllReadyH.nil
                              refine wp_store_mid 36 (.tmp 22) (.tmp 219) rfl wB.heap.size 0 cy.toArray rfl rfl (by simpa [hcy9] using (BB).thereAt 0 9 (by simp)) (by simpa [hcy9] using hszA) (all_oneCell_toArray hcy1) ?_
                              have kZ : Kp w3 (((wB.alloc (.cells [.int .i64 0, .int .i64 0, .slice none 0 0, .int .i64 0, .slice none 0 0, .int .i64 0, .int .i64 0, .slice none 0 0, .int .i64 0].toArray 36))).setCells wB.heap.size 0 cy) := Kp.setCells htyz cy 0 _ kB1
                              refine hK.out _ _ ((hS.out _ kZ)) (fun hHeld2 => ?_)
                              clear hK K hHeld
                              have hHeld := hHeld2
                              clear hHeld2
                              try simp only [Act.put, List.setIfInBounds_toArray, List.set_cons_zero, List.set_cons_succ]
                              refine wpAnyH_done (by kernel_rfl) ?_ _
                              have BZ := (BB).all (cs := cy) (by rw [hcy9]; rfl)
                              have VZ := (hVN.fx hfx kA.size)
                              first | (dsimp only [List.getElem_toArray, List.getElem_cons_succ, List.getElem_cons_zero]) | (simp only [List.getElem_toArray, List.getElem_cons_succ, List.getElem_cons_zero]) | go_simp
                              go_wp2
                              go_meet
                              case rel => exact ⟨_, _, cy, rfl, rfl, BZ, kZ, htyz, VZ⟩
                            · go_simp
                              have kA1 := kA.alloc (.cells [.int .i64 0, .int .i64 0, .slice none 0 0, .int .i64 0, .slice none 0 0, .int .i64 0, .int .i64 0, .slice none 0 0, .int .i64 0].toArray 36)
                              refine hK.out _ _ ((hS.out _ kA1)) (fun hHeld2 => ?_)
                              clear hK K hHeld
                              have hHeld := hHeld2
                              clear hHeld2
                              try simp only [Act.put, List.setIfInBounds_toArray, List.set_cons_zero, List.set_cons_succ]
                              have BA' := Bx.new wA [.int .i64 0, .int .i64 0, .slice none 0 0, .int .i64 0, .slice none 0 0, .int .i64 0, .int .i64 0, .slice none 0 0, .int .i64 0].toArray 36
                              have htyz := kA.size
                              have hsA := alloc_lt wA (.cells [.int .i64 0, .int .i64 0, .slice none 0 0, .int .i64 0, .slice none 0 0, .int .i64 0, .int .i64 0, .slice none 0 0, .int .i64 0].toArray 36)
                              have hA' := hA.keep (pl_stable _) ((Kp.refl wA).alloc (.cells [.int .i64 0, .int .i64 0, .slice none 0 0, .int .i64 0, .slice none 0 0, .int .i64 0, .int .i64 0, .slice none 0 0, .int .i64 0].toArray 36))
                              generalize wA.heap.size = ty at *
                              generalize wA.alloc (.cells [.int .i64 0, .int .i64 0, .slice none 0 0, .int .i64 0, .slice none 0 0, .int .i64 0, .int .i64 0, .slice none 0 0, .int .i64 0].toArray 36) = wA1 at *
                              refine wpAnyH_ready (rs := [11]) (by kernel_rfl) (by simp) ?_
                              refine AllReadyH.cons (o := _) rfl (fun K hK => ?_) AllReadyH.nil
                              go_simp
                              refine (HN.out wA1 _ kA1 hA').mono ?_
                              rintro e wB hRN
                              obtain ⟨kB0, cy, hcy9, hcy1, rfl, hVN⟩ := hRN.val
                              have kB := (kA1).trans kB0
                              clear hRN
                              refine hK.out _ _ ((hS.out _ kB)) (fun hHeld2 => ?_)
                              clear hK K hHeld
                              have hHeld := hHeld2
                              clear hHeld2
                              try simp only [Act.put, List.setIfInBounds_toArray, List.set_cons_zero, List.set_cons_succ]
                              have BB := BA'.kp kB0 hsA
                              have hfx : Fx (fun q => q < wA1.heap.size) wB (wB.setCells ty 0 cy) := setsFx _ 0 cy _ (Fx.refl _ _) (.inl hsA)
                              refine wpAnyH_ready (rs := [13]) (by kernel_rfl) (by simp) ?_
                              refine AllReadyH.cons (o := _) rfl (fun K hK => ?_) AllReadyH.nil
                              refine wp_store_mid 36 (.tmp 22) (.tmp 219) rfl ty 0 cy.toArray rfl rfl (by simpa [hcy9] using (BB).thereAt 0 9 (by simp)) (by simpa [hcy9] using hszA) (all_oneCell_toArray hcy1) ?_
                              have kZ : Kp w3 ((wB).setCells ty 0 cy) := Kp.setCells htyz cy 0 _ kB
                              refine hK.out _ _ ((hS.out _ kZ)) (fun hHeld2 => ?_)
                              clear hK K hHeld
                              have hHeld := hHeld2
                              clear hHeld2
                              try simp only [Act.put, List.setIfInBounds_toArray, List.set_cons_zero, List.set_cons_succ]
                              refine wpAnyH_done (by kernel_rfl) ?_ _
                              have BZ := (BB).all (cs := cy) (by rw [hcy9]; rfl)
                              have VZ := (hVN.fx hfx kA1.size)
                              first | (dsimp only [List.getElem_toArray, List.getElem_cons_succ, List.getElem_cons_zero]) | (simp only [List.getElem_toArray, List.getElem_cons_succ, List.getElem_cons_zero]) | go_simp
                              go_wp2
                              go_meet
                              case rel => exact ⟨_, _, cy, rfl, rfl, BZ, kZ, htyz, VZ⟩
                          · go_simp
                            have kA1 := kd.alloc (.cells [.int .i64 0, .int .i64 0, .slice none 0 0, .int .i64 0, .slice none 0 0, .int .i64 0, .int .i64 0, .slice none 0 0, .int .i64 0].toArray 36)
                            refine hK.out _ _ ((hS.out _ kA1)) (fun hHeld2 => ?_)
                            clear hK K hHeld
                            have hHeld := hHeld2
                            clear hHeld2
                            try simp only [Act.put, List.setIfInBounds_toArray, List.set_cons_zero, List.set_cons_succ]
                            have BA' := Bx.new w1 [.int .i64 0, .int .i64 0, .slice none 0 0, .int .i64 0, .slice none 0 0, .int .i64 0, .int .i64 0, .slice none 0 0, .int .i64 0].toArray 36
                            have htyz := kd.size
                            have hsA := alloc_lt w1 (.cells [.int .i64 0, .int .i64 0, .slice none 0 0, .int .i64 0, .slice none 0 0, .int .i64 0, .int .i64 0, .slice none 0 0, .int .i64 0].toArray 36)
                            generalize w1.heap.size = ty at *
                            generalize w1.alloc (.cells [.int .i64 0, .int .i64 0, .slice none 0 0, .int .i64 0, .slice none 0 0, .int .i64 0, .int .i64 0, .slice none 0 0, .int .i64 0].toArray 36) = w1' at *
                            refine wpAnyH_ready (rs := [6]) (by kernel_rfl) (by simp) ?_
                            refine AllReadyH.cons (o := _) rfl (fun K hK => ?_) AllReadyH.nil
                            go_simp
                            refine (rWith_any _ F.box (j : Int) hl hh w1' (hx3.out _ kA1) (Nat.le_trans hnb2.out (by decide))).mono ?_
                            rintro e wA ⟨vA, rfl, hA0, kA0⟩
                            rw [hWL.out] at hA0
                            have hA := hA0.sl encRng_len
                            have kA := (kA1).trans kA0
                            clear hA0
                            refine hK.out _ _ ((hS.out _ kA)) (fun hHeld2 => ?_)
                            clear hK K hHeld
                            have hHeld := hHeld2
                            clear hHeld2
                            try simp only [Act.put, List.setIfInBounds_toArray, List.set_cons_zero, List.set_cons_succ]
                            have BA2 := BA'.kp kA0 hsA
                            have hsA2 := BA2.lt (by simp)
                            refine wpAnyH_ready (rs := [11]) (by kernel_rfl) (by simp) ?_
                            refine AllReadyH.cons (o := _) rfl (fun K hK => ?_) AllReadyH.nil
                            go_simp
                            refine (HN.out wA _ kA hA).mono ?_
                            rintro e wB hRN
                            obtain ⟨kB0, cy, hcy9, hcy1, rfl, hVN⟩ := hRN.val
                            have kB := (kA).trans kB0
                            clear hRN
                            refine hK.out _ _ ((hS.out _ kB)) (fun hHeld2 => ?_)
                            clear hK K hHeld
                            have hHeld := hHeld2
                            clear hHeld2
                            try simp only [Act.put, List.setIfInBounds_toArray, List.set_cons_zero, List.set_cons_succ]
                            have BB := BA2.kp kB0 hsA2
                            have hfx : Fx (fun q => q < wA.heap.size) wB (wB.setCells ty 0 cy) := setsFx _ 0 cy _ (Fx.refl _ _) (.inl hsA2)
                            refine wpAnyH_ready (rs := [13]) (by kernel_rfl) (by simp) ?_
                            refine AllReadyH.cons (o := _) rfl (fun K hK => ?_) AllReadyH.nil
                            refine wp_store_mid 36 (.tmp 22) (.tmp 219) rfl ty 0 cy.toArray rfl rfl (by simpa [hcy9] using (BB).thereAt 0 9 (by simp)) (by simpa [hcy9] using hszA) (all_oneCell_toArray hcy1) ?_
                            have kZ : Kp w3 ((wB).setCells ty 0 cy) := Kp.setCells htyz cy 0 _ kB
                            refine hK.out _ _ ((hS.out _ kZ)) (fun hHeld2 => ?_)
                            clear hK K hHeld
                            have hHeld := hHeld2
                            clear hHeld2
                            try simp only [Act.put, List.setIfInBounds_toArray, List.set_cons_zero, List.set_cons_succ]
                            refine wpAnyH_done (by kernel_rfl) ?_ _
                            have BZ := (BB).all (cs := cy) (by rw [hcy9]; rfl)
                            have VZ := (hVN.fx hfx kA.size)
                            first | (dsimp only [List.getElem_toArray, List.getElem_cons_succ, List.getElem_cons_zero]) | (simp only [List.getElem_toArray, List.getElem_cons_succ, List.getElem_cons_zero]) | go_simp
                            go_wp2
                            go_meet
                            case rel => exact ⟨_, _, cy, rfl, rfl, BZ, kZ, htyz, VZ⟩
                        case rest =>
                          obtain ⟨w9, ty, cy, rfl, rfl, BY, kY, hty, hq⟩ := hcut
                          have hI := hI3
                          have hlr4 : bo < w9.heap.size := Nat.lt_of_lt_of_le hI3.zw kY.size
                          have k64 := hI3.kp.trans kY
                          have k04 := k06.trans k64
                          have hyl0 : bo < ty := Nat.lt_of_lt_of_le hI3.zw hty
                          have hlr := hI3.zw
                          clear hI3 HN hx3 BT3 hWL hfin hG
                          replace hty := hid hty
                          cases G with
                          | out =>
                            have HR' : R = .out := HR2.out.symm
                            subst HR'
                            obtain rfl : cy = [.int .i64 2, .int .i64 0, .slice none 0 0, .int .i64 0, .slice none 0 0, .int .i64 0, .int .i64 0, .slice none 0 0, .int .i64 0] := hq
                            have u0 := (BY).cell (j := 0) rfl
                            have u1 := (BY).cell (j := 1) rfl
                            have u2 := (BY).cell (j := 2) rfl
                            have u3 := (BY).cell (j := 3) rfl
                            have u4 := (BY).cell (j := 4) rfl
                            have u5 := (BY).cell (j := 5) rfl
                            have u6 := (BY).cell (j := 6) rfl
                            have u7 := (BY).cell (j := 7) rfl
                            have u8 := (BY).cell (j := 8) rfl
                            have BA9 := BA6.kp k64 hAo
                            have hyl := BY.lt (by simp)
                            have y0 := (BA9).cell (j := 0) rfl
                            have y1 := (BA9).cell (j := 1) rfl
                            have y2 := (BA9).cell (j := 2) rfl
                            have y3 := (BA9).cell (j := 3) rfl
                            have y4 := (BA9).cell (j := 4) rfl
                            have y5 := (BA9).cell (j := 5) rfl
                            have y6 := (BA9).cell (j := 6) rfl
                            have y7 := (BA9).cell (j := 7) rfl
                            have y8 := (BA9).cell (j := 8) rfl
                            have f0 := (BA9).free (j := 0) (by simp)
                            have f1 := (BA9).free (j := 1) (by simp)
                            have f2 := (BA9).free (j := 2) (by simp)
                            have f3 := (BA9).free (j := 3) (by simp)
                            have f4 := (BA9).free (j := 4) (by simp)
                            have f5 := (BA9).free (j := 5) (by simp)
                            have f6 := (BA9).free (j := 6) (by simp)
                            have f7 := (BA9).free (j := 7) (by simp)
                            have f8 := (BA9).free (j := 8) (by simp)
                            go_wp2
                            try simp only [Exit.inBlock, Exit.then]
                            have BE := (BA9).all (cs := [.int .i64 2, .int .i64 0, .slice none 0 0, .int .i64 0, .slice none 0 0, .int .i64 0, .int .i64 0, .slice none 0 0, .int .i64 0]) rfl
                            change bodyPost _ _ _ _ _ (w9.setCells tA 0 [.int .i64 2, .int .i64 0, .slice none 0 0, .int .i64 0, .slice none 0 0, .int .i64 0, .int .i64 0, .slice none 0 0, .int .i64 0])
                            refine bodyPost_ret (results_cell_bx rfl _ (w9.setCells tA 0 [.int .i64 2, .int .i64 0, .slice none 0 0, .int .i64 0, .slice none 0 0, .int .i64 0, .int .i64 0, .slice none 0 0, .int .i64 0]) tA [.int .i64 2, .int .i64 0, .slice none 0 0, .int .i64 0, .slice none 0 0, .int .i64 0, .int .i64 0, .slice none 0 0, .int .i64 0] _ rfl BE.range Tryz.underlying36 rfl (by kernel_rfl)) rfl ?_
                            have kS : Fx (fun q => q = tA) w9 (w9.setCells tA 0 [.int .i64 2, .int .i64 0, .slice none 0 0, .int .i64 0, .slice none 0 0, .int .i64 0, .int .i64 0, .slice none 0 0, .int .i64 0]) := setsFx tA 0 _ _ (Fx.refl _ _) (.inl rfl)
                            have kE := kS.kp_of k04 (fun q e => by rw [e]; exact hwA.out)
                            exact ⟨kE, rfl⟩
                          | sol vs i d =>
                            have HR' : R = .sol vs 0 (cst + d) := HR2.out.symm
                            subst HR'
                            obtain ⟨hd, Ao, co, hcy, hOv⟩ := hq
                            subst hcy
                            have u0 := (BY).cell (j := 0) rfl
                            have u1 := (BY).cell (j := 1) rfl
                            have u2 := (BY).cell (j := 2) rfl
                            have u3 := (BY).cell (j := 3) rfl
                            have u4 := (BY).cell (j := 4) rfl
                            have u5 := (BY).cell (j := 5) rfl
                            have u6 := (BY).cell (j := 6) rfl
                            have u7 := (BY).cell (j := 7) rfl
                            have u8 := (BY).cell (j := 8) rfl
                            have hyl := BY.lt (by simp)
                            have hge4 := hOv.ge
                            have hIy := hI.keep kY
                            have o8 := hIy.bx.cell (j := 8) rfl
                            have f8 := hIy.bx.free (j := 8) (by simp)
                            have hly := hIy.zw
                            have hcd : ((cst + d : Nat) : Int) = (cst : Int) + (d : Int) := by push_cast; rfl
                            have hI10 := hIy.cost h6 (d := cst + d) (by omega)
                            rw [hcd] at hI10
                            have hyo : ty ≠ bo := by omega
                            have BY10 := BY.keep (set_block w9 ⟨bo, 8, none⟩ (.int .i64 ((cst : Int) + (d : Int))) ty hyo)
                            have kC : Fx (fun q => q = bo) w9 (w9.setCell ⟨bo, 8, none⟩ (.int .i64 ((cst : Int) + (d : Int)))) := (Fx.refl _ w9).set1 ⟨bo, 8, none⟩ _ (.inl rfl)
                            have kC4 : Fx (fun q => q = bo) w9 (w9.setCell ⟨bo, 8, none⟩ (.int .i64 ((cst : Int) + (d : Int)))) := ((Fx.refl _ _)).trans kC
                            have hb3 : (cst : Int) ≤ 65536 ∧ (d : Int) ≤ 65536 := by omega
                            go_upto_region 52 with (fail)
                            generalize w9.setCell ⟨bo, 8, none⟩ (.int .i64 ((cst : Int) + (d : Int))) = w10 at *
                            clear o8 f8
                            have hly10 := BY10.lt (by simp)
                            have o8 := hI10.bx.cell (j := 8) rfl
                            rw [hcd] at o8
                            clear u0 u1 u2 u3 u4 u5 u6 u7 u8
                            have u0 := (BY10).cell (j := 0) rfl
                            have u1 := (BY10).cell (j := 1) rfl
                            have u2 := (BY10).cell (j := 2) rfl
                            have u3 := (BY10).cell (j := 3) rfl
                            have u4 := (BY10).cell (j := 4) rfl
                            have u5 := (BY10).cell (j := 5) rfl
                            have u6 := (BY10).cell (j := 6) rfl
                            have u7 := (BY10).cell (j := 7) rfl
                            have u8 := (BY10).cell (j := 8) rfl
                            have BA10 := BA6.kp hI10.kp hAo
                            have k010 := k06.trans hI10.kp
                            have hOv10 := hOv.fx kC4 (fun q hq e => by have h1 := hge4 q hq; have e : q = bo := e; omega)
                            have hgeA : ∀ q, (Value.slice Ao vs.length co).ownBlock = some q → tA < q := fun q hq => by have h1 := hge4 q hq; omega
                            replace hgeA := hid hgeA
                            have hcdb : cst + d ≤ b := by omega
                            clear hge4
                            have y0 := (BA10).cell (j := 0) rfl
                            have y1 := (BA10).cell (j := 1) rfl
                            have y2 := (BA10).cell (j := 2) rfl
                            have y3 := (BA10).cell (j := 3) rfl
                            have y4 := (BA10).cell (j := 4) rfl
                            have y5 := (BA10).cell (j := 5) rfl
                            have y6 := (BA10).cell (j := 6) rfl
                            have y7 := (BA10).cell (j := 7) rfl
                            have y8 := (BA10).cell (j := 8) rfl
                            have f0 := (BA10).free (j := 0) (by simp)
                            have f1 := (BA10).free (j := 1) (by simp)
                            have f2 := (BA10).free (j := 2) (by simp)
                            have f3 := (BA10).free (j := 3) (by simp)
                            have f4 := (BA10).free (j := 4) (by simp)
                            have f5 := (BA10).free (j := 5) (by simp)
                            have f6 := (BA10).free (j := 6) (by simp)
                            have f7 := (BA10).free (j := 7) (by simp)
                            have f8 := (BA10).free (j := 8) (by simp)
                            go_wp2
                            try simp only [Exit.inBlock, Exit.then]
                            have BE := (BA10).all (cs := [.int .i64 0, .int .i64 0, .slice Ao vs.length co, .int .i64 0, .slice none 0 0, .int .i64 0, .int .i64 0, .slice none 0 0, .int .i64 ((cst : Int) + (d : Int))]) rfl
                            change bodyPost _ _ _ _ _ (w10.setCells tA 0 [.int .i64 0, .int .i64 0, .slice Ao vs.length co, .int .i64 0, .slice none 0 0, .int .i64 0, .int .i64 0, .slice none 0 0, .int .i64 ((cst : Int) + (d : Int))])
                            refine bodyPost_ret (results_cell_bx rfl _ (w10.setCells tA 0 [.int .i64 0, .int .i64 0, .slice Ao vs.length co, .int .i64 0, .slice none 0 0, .int .i64 0, .int .i64 0, .slice none 0 0, .int .i64 ((cst : Int) + (d : Int))]) tA [.int .i64 0, .int .i64 0, .slice Ao vs.length co, .int .i64 0, .slice none 0 0, .int .i64 0, .int .i64 0, .slice none 0 0, .int .i64 ((cst : Int) + (d : Int))] _ rfl BE.range Tryz.underlying36 rfl (by kernel_rfl)) rfl ?_
                            have kS : Fx (fun q => q = tA) w10 (w10.setCells tA 0 [.int .i64 0, .int .i64 0, .slice Ao vs.length co, .int .i64 0, .slice none 0 0, .int .i64 0, .int .i64 0, .slice none 0 0, .int .i64 ((cst : Int) + (d : Int))]) := setsFx tA 0 _ _ (Fx.refl _ _) (.inl rfl)
                            have kE := kS.kp_of k010 (fun q e => by rw [e]; exact hwA.out)
                            refine ⟨kE, hcdb, Ao, co, by rw [hcd]; rfl, ?_⟩
                            exact (hOv10.fx kS (fun q hq e => by have h1 := hgeA.out q hq; have e : q = tA := e; omega)).less k03.size
                          | ref u d =>
                            have HR' : Hid (splitF rows s.graphs M F.steps F.box (j : Int) at_ b (2 - (k + 1)) (k + 1) (ts ++ [u]) (cst + d) = R) := HR2
                            obtain ⟨hd, p0, p2, p3, A1, A4, n1, c1', n4, c4', hcy, hT⟩ := hq
                            subst hcy
                            have u0 := (BY).cell (j := 0) rfl
                            have u1 := (BY).cell (j := 1) rfl
                            have u2 := (BY).cell (j := 2) rfl
                            have u3 := (BY).cell (j := 3) rfl
                            have u4 := (BY).cell (j := 4) rfl
                            have u5 := (BY).cell (j := 5) rfl
                            have u6 := (BY).cell (j := 6) rfl
                            have u7 := (BY).cell (j := 7) rfl
                            have u8 := (BY).cell (j := 8) rfl
                            have hyl := BY.lt (by simp)
                            have hIy := hI.keep kY
                            have o8 := hIy.bx.cell (j := 8) rfl
                            have f8 := hIy.bx.free (j := 8) (by simp)
                            have hly := hIy.zw
                            have hcd : ((cst + d : Nat) : Int) = (cst : Int) + (d : Int) := by push_cast; rfl
                            have hI10 := hIy.cost h6 (d := cst + d) (by omega)
                            rw [hcd] at hI10
                            have hyo : ty ≠ bo := by omega
                            have BY10 := BY.keep (set_block w9 ⟨bo, 8, none⟩ (.int .i64 ((cst : Int) + (d : Int))) ty hyo)
                            have kC : Fx (fun q => q = bo) w9 (w9.setCell ⟨bo, 8, none⟩ (.int .i64 ((cst : Int) + (d : Int)))) := (Fx.refl _ w9).set1 ⟨bo, 8, none⟩ _ (.inl rfl)
                            have kC4 : Fx (fun q => q = bo) w9 (w9.setCell ⟨bo, 8, none⟩ (.int .i64 ((cst : Int) + (d : Int)))) := ((Fx.refl _ _)).trans kC
                            have hb3 : (cst : Int) ≤ 65536 ∧ (d : Int) ≤ 65536 := by omega
                            go_upto_region 52 with (fail)
                            generalize w9.setCell ⟨bo, 8, none⟩ (.int .i64 ((cst : Int) + (d : Int))) = w10 at *
                            clear o8 f8
                            have hly10 := BY10.lt (by simp)
                            have o8 := hI10.bx.cell (j := 8) rfl
                            clear u0 u1 u2 u3 u4 u5 u6 u7 u8
                            have u0 := (BY10).cell (j := 0) rfl
                            have u1 := (BY10).cell (j := 1) rfl
                            have u2 := (BY10).cell (j := 2) rfl
                            have u3 := (BY10).cell (j := 3) rfl
                            have u4 := (BY10).cell (j := 4) rfl
                            have u5 := (BY10).cell (j := 5) rfl
                            have u6 := (BY10).cell (j := 6) rfl
                            have u7 := (BY10).cell (j := 7) rfl
                            have u8 := (BY10).cell (j := 8) rfl
                            have o7 := hI10.bx.cell (j := 7) rfl
                            have hye : ∀ u ∈ [Value.int .i64 p0, .slice A1 n1 c1', .int .i64 p2, .int .i64 p3, .slice A4 n4 c4'], u.oneCell' = true := by simp [Value.oneCell']
                            obtain ⟨tc, htc⟩ : ∃ tc : Elm 5, tc.val = [Value.int .i64 p0, .slice A1 n1 c1', .int .i64 p2, .int .i64 p3, .slice A4 n4 c4'] := ⟨tcE _ _ _ _ _ hye, rfl⟩
                            have hT10 : OwF (fun q => q < w3.heap.size) w10 fun w' => rdTr (M + 1) w' tc.val u := (hT.fx (kC4.mono fun q _ e => by have e : q = bo := e; show q < w3.heap.size; rw [e]; exact hlr)).imp fun _ h => rdTr_le (Nat.le_refl _) (by rw [htc]; exact h)
                            have kT := (Kp.refl w10).alloc (.cells #[.int .i64 p0, .slice A1 n1 c1', .int .i64 p2, .int .i64 p3, .slice A4 n4 c4'] 34)
                            have hsrc := Sl.one (R := Pl (encC (size := 5))) w10 [.int .i64 p0, .slice A1 n1 c1', .int .i64 p2, .int .i64 p3, .slice A4 n4 c4'] 34 5 tc rfl htc.symm
                            have hownA := hI10.ki.own.kp kT
                            have hroom := hid (tree_room (Nat.le_of_eq hkl.out) hkb)
                            have hnbo : (Value.slice Ak css.length ck).ownBlock ≠ some bo := fun e => Nat.lt_irrefl _ (hI10.vkz bo e)
                            have hvz : ∀ q, (Value.slice Ak css.length ck).ownBlock = some q → q < w3.heap.size := hI.ki.own.blk_lt
                            have BOT := hI10.bx.kp kT hI10.zw
                            have hloT := BOT.lt (by simp)
                            replace hye := hid hye
                            replace htc := hid htc
                            replace hnbo := hid hnbo
                            replace hvz := hid hvz
                            go_upto_region 44 with (at_builtin; refine wpl_append_flat rfl (.tmp 240) (.tmp 243) rfl stTr encC_len encC_one rfl hownA rfl hsrc hroom.out.1 hroom.out.2 (Nat.zero_le _) ?_; intro v1 w11 own1 hgrow1 hat1 hnil1; obtain ⟨A11, n11, c11, rfl⟩ := own1.isSl; have BO11 := BOT.grown hgrow1 hnbo.out hloT; have o7 := BO11.cell (j := 7) rfl; have f7 := BO11.free (j := 7) (by simp); have hlo11 := BO11.lt (by simp); have hIk := hI10.kid h6 (z := w3.heap.size) hlr hvz.out hT10 kT own1 hgrow1 hat1; clear hgrow1 hat1 hnil1 hownA hsrc own1)
                            generalize w11.setCell ⟨bo, 7, none⟩ (.slice A11 n11 c11) = w12 at *
                            clear o7 f7 hlo11 BO11
                            go_wp2
                            go_roundw
                            case rel => exact ⟨k + 1, _, _, _, _, hlt, by go_num, hIk, hid (by rw [List.length_append, hts.out]; rfl), Nat.le_trans hc1 (Nat.le_add_right _ _), HR'⟩
                            case measure => exact meas3 hlt
                    · have HE : R = .ref (.mk 1 F.steps (j : Int) at_ ts) cst := by rw [← HR.out]; exact half_end hlt
                      subst HE
                      have g0 : decide ((k : Int) < 2) = false := decide_eq_false (by omega)
                      have BAr := BA6.kp hI.kp hAo
                      have o0 := (hI.bx).cell (j := 0) rfl
                      have o1 := (hI.bx).cell (j := 1) rfl
                      have o2 := (hI.bx).cell (j := 2) rfl
                      have o3 := (hI.bx).cell (j := 3) rfl
                      have o4 := (hI.bx).cell (j := 4) rfl
                      have o5 := (hI.bx).cell (j := 5) rfl
                      have o6 := (hI.bx).cell (j := 6) rfl
                      have o7 := (hI.bx).cell (j := 7) rfl
                      have o8 := (hI.bx).cell (j := 8) rfl
                      have hoo := ho.kp hI.kp
                      have k0r := k06.trans hI.kp
                      have hlbo := hI.zw
                      have y0 := (BAr).cell (j := 0) rfl
                      have y1 := (BAr).cell (j := 1) rfl
                      have y2 := (BAr).cell (j := 2) rfl
                      have y3 := (BAr).cell (j := 3) rfl
                      have y4 := (BAr).cell (j := 4) rfl
                      have y5 := (BAr).cell (j := 5) rfl
                      have y6 := (BAr).cell (j := 6) rfl
                      have y7 := (BAr).cell (j := 7) rfl
                      have y8 := (BAr).cell (j := 8) rfl
                      have f0 := (BAr).free (j := 0) (by simp)
                      have f1 := (BAr).free (j := 1) (by simp)
                      have f2 := (BAr).free (j := 2) (by simp)
                      have f3 := (BAr).free (j := 3) (by simp)
                      have f4 := (BAr).free (j := 4) (by simp)
                      have f5 := (BAr).free (j := 5) (by simp)
                      have f6 := (BAr).free (j := 6) (by simp)
                      have f7 := (BAr).free (j := 7) (by simp)
                      have f8 := (BAr).free (j := 8) (by simp)
                      go_wp2
                      try simp only [Exit.inBlock, Exit.then]
                      have BE := (BAr).all (cs := [.int .i64 1, .int .i64 0, .slice none 0 0, .int .i64 1, .slice As F.steps.length cs, .int .i64 (j : Int), .int .i64 at_, .slice Ak css.length ck, .int .i64 (cst : Int)]) rfl
                      change bodyPost _ _ _ _ _ (wr.setCells tA 0 [.int .i64 1, .int .i64 0, .slice none 0 0, .int .i64 1, .slice As F.steps.length cs, .int .i64 (j : Int), .int .i64 at_, .slice Ak css.length ck, .int .i64 (cst : Int)])
                      refine bodyPost_ret (results_cell_bx rfl _ (wr.setCells tA 0 [.int .i64 1, .int .i64 0, .slice none 0 0, .int .i64 1, .slice As F.steps.length cs, .int .i64 (j : Int), .int .i64 at_, .slice Ak css.length ck, .int .i64 (cst : Int)]) tA [.int .i64 1, .int .i64 0, .slice none 0 0, .int .i64 1, .slice As F.steps.length cs, .int .i64 (j : Int), .int .i64 at_, .slice Ak css.length ck, .int .i64 (cst : Int)] _ rfl BE.range Tryz.underlying36 rfl (by kernel_rfl)) rfl ?_
                      have kS : Fx (fun q => q = tA) wr (wr.setCells tA 0 [.int .i64 1, .int .i64 0, .slice none 0 0, .int .i64 1, .slice As F.steps.length cs, .int .i64 (j : Int), .int .i64 at_, .slice Ak css.length ck, .int .i64 (cst : Int)]) := setsFx tA 0 _ _ (Fx.refl _ _) (.inl rfl)
                      have kE := kS.kp_of k0r (fun q e => by rw [e]; exact hwA.out)
                      refine ⟨kE, hI.cb, _, _, _, _, _, rfl, ?_⟩
                      have hAb : tA < bo := Nat.lt_of_lt_of_le hAo h6
                      have hSE := hoo.fx kS (fun q hq e => by have h1 := hge q hq; have e : q = tA := e; omega)
                      have hKK := ((hI.ki.kids (z := bo) (Nat.le_succ _) (fun q hq => Nat.le_of_lt (hI.vkz q hq))).fx (kS.mono fun q _ e => by have e : q = tA := e; show q < bo; rw [e]; exact hAb)).mono (Y := fun q => q < w.heap.size) (fun q hq => Nat.lt_of_lt_of_le hq (Nat.le_trans hwA.out (Nat.le_of_lt hAb)))
                      exact fun w2 k2 => ⟨_, _, rfl, (OwF.own hSE (fun q hq => hoo.ge q hq) w2 k2).sl encStp_len, hKK w2 k2⟩
end Go.Proofs.YtlbhidiliogflaaGreat
