
/-
Search: the reference's All: the walk.
-/
import Derived.Test.YtlbhidiliogflaaSeV
namespace Go.Proofs.Ytlbhidiliogflaa
set_option linter.unusedSimpArgs false
set_option linter.unusedVariables false
open Go.RowKit

set_option maxRecDepth 8000 in
set_option maxHeartbeats 4000000 in
theorem rAll_any (va : Value) (s : Sys) (most : Int) (w : World) (hs : SysV w va s) :
    Calls Try.prog 31 #[va, .int .i64 most] w fun e w' => ∃ v, e = .returned (.tuple #[v, .int .i64 (allR s most).2]) ∧ Sl rdIL 1 w' v (allR s most).1 ∧ Kp w w' := by
  have hs' := hs
  obtain ⟨Ab, cb, Ar, cr, Ag, cg, Ac, cc, rfl, hb, hr, hg, hc⟩ := hs'
  obtain ⟨l1, m1⟩ := hb.caps
  obtain ⟨l2, m2⟩ := hr.caps
  obtain ⟨l3, m3⟩ := hg.caps
  obtain ⟨l4, m4⟩ := hc.caps
  obtain ⟨PR, hPR⟩ : ∃ PR, Hid (allR s most = PR) := ⟨_, hid rfl⟩
  rw [hPR.out]
  have k0 := (Kp.refl w).alloc (.cells #[.slice Ab s.box.length cb, .slice Ar s.rows.length cr, .slice Ag s.graphs.length cg, .slice Ac s.cases.length cc] 27)
  have B0 := SysB.new w #[.slice Ab s.box.length cb, .slice Ar s.rows.length cr, .slice Ag s.graphs.length cg, .slice Ac s.cases.length cc] 27
  have z0 := alloc_lt w (.cells #[.slice Ab s.box.length cb, .slice Ar s.rows.length cr, .slice Ag s.graphs.length cg, .slice Ac s.cases.length cc] 27)
  go_enter Try.func31, Try.ntmps31
  go_wp2_with fail
  try rw [← World.size_alloc w (.cells #[.slice Ab s.box.length cb, .slice Ar s.rows.length cr, .slice Ag s.graphs.length cg, .slice Ac s.cases.length cc] 27)]
  generalize w.alloc (.cells #[.slice Ab s.box.length cb, .slice Ar s.rows.length cr, .slice Ag s.graphs.length cg, .slice Ac s.cases.length cc] 27) = w0 at *
  generalize w.heap.size = b0 at *
  refine (qValid_any _ s _ (hs.keep k0)).mono ?_
  rintro e w1 ⟨rfl, k1⟩
  replace B0 := B0.keep k1
  replace k1 := k0.trans k1
  obtain ⟨c0, c1, c2, c3⟩ := B0.cells
  have hgl := block_lt_of_cell c0
  cases hV : validS s with
  | false =>
    have hX : PR = ([], 1) := hPR.out.symm.trans (allR_bad hV)
    subst hX
    clear hV
    go_wp2
    try simp only [Exit.inBlock, Exit.then]
    refine bodyPost_ret (results_tmp2 rfl _ _ _) rfl ?_
    exact ⟨_, rfl, Sl.nil _ _ _, k1⟩
  | true =>
    replace hV := hid hV
    by_cases h1 : most < 0
    · have e2 : decide (most < 0) = true := decide_eq_true h1
      have hX : PR = ([], 2) := hPR.out.symm.trans (allR_rng hV.out (by omega))
      subst hX
      go_wp2
      try simp only [Exit.inBlock, Exit.then]
      refine bodyPost_ret (results_tmp2 rfl _ _ _) rfl ?_
      exact ⟨_, rfl, Sl.nil _ _ _, k1⟩
    · have e2 : decide (most < 0) = false := decide_eq_false h1
      by_cases h2 : 1024 < most
      · have e3 : decide (1024 < most) = true := decide_eq_true h2
        have hX : PR = ([], 2) := hPR.out.symm.trans (allR_rng hV.out (by omega))
        subst hX
        go_wp2
        try simp only [Exit.inBlock, Exit.then]
        refine bodyPost_ret (results_tmp2 rfl _ _ _) rfl ?_
        exact ⟨_, rfl, Sl.nil _ _ _, k1⟩
      · have e3 : decide (1024 < most) = false := decide_eq_false h2
        obtain ⟨m, rfl⟩ := Int.eq_ofNat_of_zero_le (show 0 ≤ most by omega)
        have hbb : (0 : Int) ≤ (m : Int) ∧ (m : Int) ≤ 1024 := by omega
        replace hbb := hid hbb
        go_wp2_with fail
        refine (rSize_any _ s.box _ (hb.keep (pl_stable _) k1)).mono ?_
        rintro e w2 ⟨rfl, k2⟩
        replace B0 := B0.keep k2
        replace k2 := k1.trans k2
        clear c0 c1 c2 c3 hgl k1
        obtain ⟨c0, c1, c2, c3⟩ := B0.cells
        have hgl := block_lt_of_cell c0
        by_cases h3 : 65536 < sizeB s.box
        · have e4 : decide (65536 < sizeB s.box) = true := decide_eq_true h3
          have hX : PR = ([], 8) := hPR.out.symm.trans (allR_big hV.out hbb.out h3)
          subst hX
          go_wp2
          try simp only [Exit.inBlock, Exit.then]
          refine bodyPost_ret (results_tmp2 rfl _ _ _) rfl ?_
          exact ⟨_, rfl, Sl.nil _ _ _, k2⟩
        · have e4 : decide (65536 < sizeB s.box) = false := decide_eq_false h3
          have H3 := hid h3
          go_wp2_with fail
          refine (qSolutions_any _ s _ (hs.keep k2) (fun _ => by omega)).mono ?_
          rintro e w3 ⟨v, rfl, hSl, k3⟩
          have hsl : solsL s = (allS s.box).filter (holdsS s) := by unfold solsL; rw [if_pos hV.out]
          rw [hsl] at hSl
          have k23 := k2.trans k3
          obtain ⟨A, cL, rfl, hA1, hA2⟩ := hSl.form
          clear hsl e2 e3 e4
          by_cases h4 : (m : Int) < (((allS s.box).filter (holdsS s)).length : Int)
          · have hX : PR = ([], 8) := hPR.out.symm.trans (allR_many hV.out hbb.out (by have := H3.out; omega) h4)
            subst hX
            have e5 : decide ((m : Int) < (((allS s.box).filter (holdsS s)).length : Int)) = true := decide_eq_true h4
            obtain ⟨L, hL⟩ : ∃ L, Hid ((allS s.box).filter (holdsS s) = L) := ⟨_, hid rfl⟩
            rw [hL.out] at hSl h4 e5 ⊢
            have e6 : m < L.length := by omega
            have e7 : decide (m < L.length) = true := decide_eq_true e6
            go_wp2
            try simp only [Exit.inBlock, Exit.then]
            refine bodyPost_ret (results_tmp2 rfl _ _ _) rfl ?_
            exact ⟨_, rfl, Sl.nil _ _ _, k23⟩
          · have hX : PR = ((allS s.box).filter (holdsS s), 0) := hPR.out.symm.trans (allR_ok hV.out hbb.out (by have := H3.out; omega) h4)
            subst hX
            have e5 : decide ((m : Int) < (((allS s.box).filter (holdsS s)).length : Int)) = false := decide_eq_false h4
            obtain ⟨L, hL⟩ : ∃ L, Hid ((allS s.box).filter (holdsS s) = L) := ⟨_, hid rfl⟩
            rw [hL.out] at hSl h4 e5 ⊢
            have e6 : ¬ m < L.length := by omega
            have e7 : decide (m < L.length) = false := decide_eq_false e6
            go_wp2
            try simp only [Exit.inBlock, Exit.then]
            refine bodyPost_ret (results_tmp2 rfl _ _ _) rfl ?_
            exact ⟨_, rfl, by dsimp only; rw [hL.out]; exact hSl, k23⟩
end Go.Proofs.Ytlbhidiliogflaa
