
/-
Search, the reference: Propagate: the walk.
-/
import Derived.Test.YtlbhidiliogflaaSrD
namespace Go.Proofs.Ytlbhidiliogflaa
set_option linter.unusedSimpArgs false
set_option linter.unusedVariables false
open Go.RowKit

set_option maxRecDepth 8000 in
set_option maxHeartbeats 8000000 in
theorem rPropagate_any (va vb : Value) (s : Sys) (box : List Rng) (bud : Int) (w : World) (hs : SysV w va s) (hbx : Rngs w vb box) :
    Calls Try.prog 13 #[va, vb, .int .i64 bud] w fun e w' => ∃ v1 v2, e = .returned (.tuple #[v1, v2, .bool (propR s box bud).2.2.1, .int .i64 (propR s box bud).2.2.2]) ∧ Stps w' v1 (propR s box bud).1 ∧ Rngs w' v2 (propR s box bud).2.1 ∧ Kp w w' := by
  have hs' := hs
  obtain ⟨Ab, cb, Ar, cr, Ag, cg, Ac, cc, rfl, hb, hr, hg, hc⟩ := hs'
  obtain ⟨l1, m1⟩ := hb.caps
  obtain ⟨l2, m2⟩ := hr.caps
  obtain ⟨l3, m3⟩ := hg.caps
  obtain ⟨l4, m4⟩ := hc.caps
  obtain ⟨A, c, rfl, hbc, hbm⟩ := hbx.form
  have hPR : Hid (propR s box bud = if validS s = true ∧ box.length = s.box.length ∧ boxB box = true ∧ box.any emptyR = false then
    if 0 ≤ bud ∧ bud ≤ 65536 then
      if (runB bud.toNat s.rows s.graphs box).fine = false then ([], [], false, 14)
      else if (runB bud.toNat s.rows s.graphs box).opn = false then ((runB bud.toNat s.rows s.graphs box).steps, [], false, 0)
      else ((runB bud.toNat s.rows s.graphs box).steps, (runB bud.toNat s.rows s.graphs box).box, true, 0)
    else ([], [], false, 2)
  else ([], [], false, 1)) := hid rfl
  generalize propR s box bud = PR at *
  have k0 := (Kp.refl w).alloc (.cells #[.slice Ab s.box.length cb, .slice Ar s.rows.length cr, .slice Ag s.graphs.length cg, .slice Ac s.cases.length cc] 27)
  have B0 := SysB.new w #[.slice Ab s.box.length cb, .slice Ar s.rows.length cr, .slice Ag s.graphs.length cg, .slice Ac s.cases.length cc] 27
  have z0 := alloc_lt w (.cells #[.slice Ab s.box.length cb, .slice Ar s.rows.length cr, .slice Ag s.graphs.length cg, .slice Ac s.cases.length cc] 27)
  go_enter Try.func13, Try.ntmps13
  go_wp2_with fail
  try rw [← World.size_alloc w (.cells #[.slice Ab s.box.length cb, .slice Ar s.rows.length cr, .slice Ag s.graphs.length cg, .slice Ac s.cases.length cc] 27)]
  generalize w.alloc (.cells #[.slice Ab s.box.length cb, .slice Ar s.rows.length cr, .slice Ag s.graphs.length cg, .slice Ac s.cases.length cc] 27) = w0 at *
  generalize w.heap.size = b0 at *
  refine (qValid_any _ s _ (hs.keep k0)).mono ?_
  rintro e w1 ⟨rfl, k1⟩
  replace B0 := B0.keep k1
  replace k1 := k0.trans k1
  obtain ⟨c0, c1, c2, c3⟩ := B0.cells
  have hgl := block_lt_of_cell c0
  cases hV : validS s with
  | false =>
    have hX : PR = ([], [], false, 1) := by rw [hPR.out, if_neg (by rw [hV]; simp)]
    subst hX
    clear hV
    go_wp2
    try simp only [Exit.inBlock, Exit.then]
    refine bodyPost_ret (results_tmp4 rfl _ _ _) rfl ?_
    exact ⟨_, _, rfl, Sl.nil _ _ _, Sl.nil _ _ _, k1⟩
  | true =>
    replace hV := hid hV
    by_cases hL : box.length = s.box.length
    · have e1 : ((box.length : Int) != (s.box.length : Int)) = false := by rw [hL]; simp
      replace hL := hid hL
      go_wp2_with fail
      refine (rValid_any _ _ box [] _ (hbx.keep (pl_stable _) k1) (Sl.nil _ _ _)).mono ?_
      rintro e w2 ⟨rfl, k2⟩
      replace B0 := B0.keep k2
      replace k2 := k1.trans k2
      clear c0 c1 c2 c3 hgl k1
      obtain ⟨c0, c1, c2, c3⟩ := B0.cells
      have hgl := block_lt_of_cell c0
      have hvb : validB box [] = boxB box := by simp [validB]
      rw [hvb]
      clear hvb
      cases hB : boxB box with
      | false =>
        have hX : PR = ([], [], false, 1) := by rw [hPR.out, if_neg (by rw [hB]; simp)]
        subst hX
        clear hB
        go_wp2
        try simp only [Exit.inBlock, Exit.then]
        refine bodyPost_ret (results_tmp4 rfl _ _ _) rfl ?_
        exact ⟨_, _, rfl, Sl.nil _ _ _, Sl.nil _ _ _, k2⟩
      | true =>
        replace hB := hid hB
        go_wp2_with fail
        refine (rEmpty_any _ box _ (hbx.keep (pl_stable _) k2)).mono ?_
        rintro e w3 ⟨rfl, k3⟩
        replace B0 := B0.keep k3
        replace k3 := k2.trans k3
        clear c0 c1 c2 c3 hgl k2
        obtain ⟨c0, c1, c2, c3⟩ := B0.cells
        have hgl := block_lt_of_cell c0
        cases hE : box.any emptyR with
        | true =>
          have hX : PR = ([], [], false, 1) := by rw [hPR.out, if_neg (by rw [hE]; simp)]
          subst hX
          clear hE
          go_wp2
          try simp only [Exit.inBlock, Exit.then]
          refine bodyPost_ret (results_tmp4 rfl _ _ _) rfl ?_
          exact ⟨_, _, rfl, Sl.nil _ _ _, Sl.nil _ _ _, k3⟩
        | false =>
          replace hE := hid hE
          go_wp2_with fail
          refine (rSmall_any bud _).mono ?_
          rintro e w4 ⟨rfl, rfl⟩
          by_cases h1 : 0 ≤ bud ∧ bud ≤ 65536
          · have hsm : smallB bud = true := by unfold smallB; rw [decide_eq_true h1.1, decide_eq_true h1.2]; rfl
            rw [hsm]
            clear hsm
            obtain ⟨b, rfl⟩ := Int.eq_ofNat_of_zero_le h1.1
            have hb9 : b ≤ 65536 := by omega
            have hX : Hid (PR = if (runB b s.rows s.graphs box).fine = false then ([], [], false, 14)
              else if (runB b s.rows s.graphs box).opn = false then ((runB b s.rows s.graphs box).steps, [], false, 0)
              else ((runB b s.rows s.graphs box).steps, (runB b s.rows s.graphs box).box, true, 0)) := hid (by
              rw [hPR.out, if_pos ⟨hV.out, hL.out, hB.out, hE.out⟩, if_pos (by omega), Int.toNat_natCast])
            clear hPR
            obtain ⟨g1, g2, g3, g4, g5⟩ := sys_parts hV.out
            have HRun := hid (rRun_any b s.box.length (.slice A box.length c) (.slice Ar s.rows.length cr) (.slice Ag s.graphs.length cg) box s.rows s.graphs _ (hbx.keep (pl_stable _) k3) (hr.keep rdRow_stable k3) (hg.keep rdGr_stable k3) hL.out g1 hb9 g2 g3)
            generalize runB b s.rows s.graphs box = F at *
            clear hr hg hc hb hs g1 g2 g3 g4 g5
            go_wp2_with fail
            refine HRun.out.mono ?_
            rintro e w5 ⟨vs', vb', rfl, k5, ho, hx⟩
            obtain ⟨As, cs, rfl, _, _⟩ := ho.form
            obtain ⟨Ax, cx, rfl, _, _⟩ := hx.form
            have hst := ho.sl encStp_len
            have k6 := (Kp.refl w5).alloc (.cells #[.slice As F.steps.length cs, .slice Ax F.box.length cx, .bool F.opn, .bool F.fine] 87)
            have BX := Bx.new w5 #[.slice As F.steps.length cs, .slice Ax F.box.length cx, .bool F.opn, .bool F.fine] 87
            have kE := k3.trans (k5.trans k6)
            replace hst := hst.keep (pl_stable _) k6
            replace hx := hx.keep (pl_stable _) k6
            clear ho HRun
            go_upto_region 6 with (fail)
            generalize w5.alloc (.cells #[.slice As F.steps.length cs, .slice Ax F.box.length cx, .bool F.opn, .bool F.fine] 87) = w6 at *
            obtain ⟨tx, htx⟩ : ∃ tx, tx = w5.heap.size := ⟨_, rfl⟩
            rw [← htx] at BX ⊢
            replace htx := hid htx
            have x0 := BX.cell (j := 0) rfl
            have x1 := BX.cell (j := 1) rfl
            have x2 := BX.cell (j := 2) rfl
            have x3 := BX.cell (j := 3) rfl
            have hxl := BX.lt (by simp)
            cases hf : F.fine with
            | false =>
              have hX2 : PR = ([], [], false, 14) := by rw [hX.out, if_pos hf]
              subst hX2
              rw [hf] at x3
              go_wp2
              try simp only [Exit.inBlock, Exit.then]
              refine bodyPost_ret (results_tmp4 rfl _ _ _) rfl ?_
              exact ⟨_, _, rfl, Sl.nil _ _ _, Sl.nil _ _ _, kE⟩
            | true =>
              rw [hf] at x3
              cases ho : F.opn with
              | false =>
                have hX2 : PR = (F.steps, [], false, 0) := by rw [hX.out, if_neg (by rw [hf]; simp), if_pos ho]
                subst hX2
                rw [ho] at x2
                go_wp2
                try simp only [Exit.inBlock, Exit.then]
                refine bodyPost_ret (results_tmp4 rfl _ _ _) rfl ?_
                exact ⟨_, _, rfl, hst, Sl.nil _ _ _, kE⟩
              | true =>
                have hX2 : PR = (F.steps, F.box, true, 0) := by rw [hX.out, if_neg (by rw [hf]; simp), if_neg (by rw [ho]; simp)]
                subst hX2
                rw [ho] at x2
                go_upto_region 10 with (fail)
                refine wp_region_kw (by kernel_rfl) (by kernel_rfl) ?_
                repeat (go_big_quiet_step ((fail)))
                refine wpQuiet_nil ?_
                intro _ hw'
                obtain ⟨u, hw''⟩ := hw'
                subst hw''
                have ku := kw_kp w6 u
                generalize Kw w6 u = w7 at *
                go_wp2
                try simp only [Exit.inBlock, Exit.then]
                refine bodyPost_ret (results_tmp4 rfl _ _ _) rfl ?_
                exact ⟨_, _, rfl, hst.keep (pl_stable _) ku, hx.keep (pl_stable _) ku, kE.trans ku⟩
          · have hX : PR = ([], [], false, 2) := by rw [hPR.out, if_pos ⟨hV.out, hL.out, hB.out, hE.out⟩, if_neg h1]
            have hsm : smallB bud = false := by
              unfold smallB
              by_cases h2 : 0 ≤ bud
              · rw [decide_eq_false (show ¬ bud ≤ 65536 from fun h => h1 ⟨h2, h⟩), Bool.and_false]
              · rw [decide_eq_false h2]; rfl
            rw [hsm]
            subst hX
            clear hsm h1
            go_wp2
            try simp only [Exit.inBlock, Exit.then]
            refine bodyPost_ret (results_tmp4 rfl _ _ _) rfl ?_
            exact ⟨_, _, rfl, Sl.nil _ _ _, Sl.nil _ _ _, k3⟩
    · have e1 : ((box.length : Int) != (s.box.length : Int)) = true := by simpa using fun h => hL (Int.ofNat.inj h)
      have e1' : (box.length != s.box.length) = true := by simpa using hL
      have hX : PR = ([], [], false, 1) := by rw [hPR.out, if_neg (fun h => hL h.2.1)]
      subst hX
      replace hL := hid hL
      go_wp2
      try simp only [Exit.inBlock, Exit.then]
      refine bodyPost_ret (results_tmp4 rfl _ _ _) rfl ?_
      exact ⟨_, _, rfl, Sl.nil _ _ _, Sl.nil _ _ _, k1⟩
end Go.Proofs.Ytlbhidiliogflaa
