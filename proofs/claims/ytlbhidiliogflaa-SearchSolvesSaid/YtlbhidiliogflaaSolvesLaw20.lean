
/-
SearchSolves: for every system the law returns true and leaves its argument as it was.
-/
import Derived.Test.YtlbhidiliogflaaSfW
import Derived.Test.YtlbhidiliogflaaSJ
import Derived.Test.YtlbhidiliogflaaSJ
import Derived.Test.YtlbhidiliogflaaRefS16
import Derived.Test.YtlbhidiliogflaaSI
import Derived.Test.YtlbhidiliogflaaSysOpen
namespace Go.Proofs.Ytlbhidiliogflaa.lawSolves20
set_option linter.unusedSimpArgs false
set_option linter.unusedVariables false
open Go.ChangeShapes Go.WideShapes Go.ChangeAt Go.RowKit

set_option maxRecDepth 10000 in
set_option maxHeartbeats 8000000 in
theorem walk (va : Value) (s : Sys) (w : World) (hs : SysV w va s) :
    Calls Try.prog 4 #[va] w fun e w' => e = .returned (.bool true) ∧ Kp w w' := by
  have hs' := hs
  obtain ⟨Ab, cb, Ar, cr, Ag, cg, Ac, cc, rfl, hb, hr, hg, hc⟩ := hs'
  obtain ⟨l1, m1⟩ := hb.caps
  obtain ⟨l2, m2⟩ := hr.caps
  obtain ⟨l3, m3⟩ := hg.caps
  obtain ⟨l4, m4⟩ := hc.caps
  have K := (Kp.refl w).alloc (.cells #[.slice Ab s.box.length cb, .slice Ar s.rows.length cr, .slice Ag s.graphs.length cg, .slice Ac s.cases.length cc] 27)
  have B := SysB.new w #[.slice Ab s.box.length cb, .slice Ar s.rows.length cr, .slice Ag s.graphs.length cg, .slice Ac s.cases.length cc] 27
  go_enter Try.func4, Try.ntmps4
  go_wp2_with fail
  generalize w.alloc (.cells #[.slice Ab s.box.length cb, .slice Ar s.rows.length cr, .slice Ag s.graphs.length cg, .slice Ac s.cases.length cc] 27) = w0 at *
  generalize hb0 : w.heap.size = b0 at *
  replace hb0 := hid hb0
  refine (awake20_any _).mono ?_
  rintro e w1 ⟨rfl, k1⟩
  replace B := B.keep k1
  replace K := K.trans k1
  clear k1
  obtain ⟨s0, s1, s2, s3⟩ := B.cells
  have hgl := block_lt_of_cell s0
  go_wp2_with fail
  refine (lawFew_any _ s 2000 _ (hs.keep K)).mono ?_
  rintro e w2 ⟨rfl, k2⟩
  clear s0 s1 s2 s3 hgl
  replace B := B.keep (k2)
  replace K := K.trans (k2)
  obtain ⟨s0, s1, s2, s3⟩ := B.cells
  have hgl := block_lt_of_cell s0
  cases hF : fewL s 2000 with
  | false =>
    clear hF
    go_wp2
    go_ret
    exact ⟨rfl, K⟩
  | true =>
    replace hF := hid hF
    go_wp2_with fail
    refine (qValid_any _ s _ (hs.keep K)).mono ?_
    rintro e w3 ⟨rfl, k3⟩
    clear s0 s1 s2 s3 hgl
    replace B := B.keep (k3)
    replace K := K.trans (k3)
    obtain ⟨s0, s1, s2, s3⟩ := B.cells
    have hgl := block_lt_of_cell s0
    cases hV : validS s with
    | false =>
      clear hV
      go_wp2
      go_ret
      exact ⟨rfl, K⟩
    | true =>
      obtain ⟨R, hR⟩ : ∃ R, findR s 65536 = R := ⟨_, rfl⟩
      obtain ⟨⟨kd, ce, vs, t, sp⟩, er⟩ := R
      have hR2 := hR
      rw [show (65536 : Int) = ((65536 : Nat) : Int) from rfl, findR_at hV 65536 (Nat.le_refl _)] at hR2
      obtain rfl : er = 0 := (congrArg Prod.snd hR2).symm
      have HP := hid (solves_facts hV hF.out (congrArg Prod.fst hR2))
      have HFW := hid (few_less hV hF.out).1
      have HSZ := hid (few_less hV hF.out).2
      have HR := hid hR
      have HV := hid hV
      clear hR hR2 hV hF
      go_wp2_with fail
      refine (Find_form _ s 65536 _ (hs.keep K) kd ce sp 0 vs t HR.out).mono ?_
      rintro e w4 ⟨Ax, cx, p0, A1, n1, c1, p2, p3, A4, n4, c4, rfl, hA, -, -, kc⟩
      have BX := Bx.new w4 #[.int .i64 kd, .int .i64 ce, .slice Ax vs.length cx, .int .i64 p0, .slice A1 n1 c1, .int .i64 p2, .int .i64 p3, .slice A4 n4 c4, .int .i64 sp] 48
      have kb := (Kp.refl w4).alloc (.cells #[.int .i64 kd, .int .i64 ce, .slice Ax vs.length cx, .int .i64 p0, .slice A1 n1 c1, .int .i64 p2, .int .i64 p3, .slice A4 n4 c4, .int .i64 sp] 48)
      have k34 := kc.trans kb
      obtain ⟨N, hvs, hN⟩ : ∃ N, Ints w4 (.slice Ax vs.length cx) vs ∧ rdTr N w4 [.int .i64 p0, .slice A1 n1 c1, .int .i64 p2, .int .i64 p3, .slice A4 n4 c4] t := by
        obtain ⟨vv, y0, y1, y2, y3, y4, e, hv, ht⟩ := hA
        simp only [List.cons.injEq, and_true] at e
        obtain ⟨-, -, rfl, rfl, rfl, rfl, rfl, rfl, -⟩ := e
        exact ⟨_, hv, ht⟩
      replace hN := hid (rdTr_stable N _ _ _ _ kb hN)
      replace hvs := hid (hvs.keep (pl_stable _) kb)
      clear hA HR
      go_upto_region 6 with (fail)
      generalize w4.alloc (.cells #[.int .i64 kd, .int .i64 ce, .slice Ax vs.length cx, .int .i64 p0, .slice A1 n1 c1, .int .i64 p2, .int .i64 p3, .slice A4 n4 c4, .int .i64 sp] 48) = w5 at *
      obtain ⟨tx, htx⟩ : ∃ tx, tx = w4.heap.size := ⟨_, rfl⟩
      rw [← htx] at BX ⊢
      replace htx := hid htx
      clear kc kb
      clear s0 s1 s2 s3 hgl
      replace B := B.keep (k34)
      replace K := K.trans (k34)
      obtain ⟨s0, s1, s2, s3⟩ := B.cells
      have hgl := block_lt_of_cell s0
      have hxl := BX.lt (by simp)
      rcases HP.out with ⟨rfl, rfl⟩ | ⟨rfl, hsol, rfl, ct, hct, hctt, rfl⟩ | ⟨rfl, hsol, hcs⟩
      · clear HP
        have x0 := BX.cell (j := 0) rfl
        have x8 := BX.cell (j := 8) rfl
        go_wp2
        go_ret
        exact ⟨rfl, K⟩
      · clear HP
        have x0 := BX.cell (j := 0) rfl
        have hct1 := hid hct
        have hct2 := hid hctt
        have hct3 : Hid (costT t ≤ 65536) := hid (by rw [hctt]; exact hct)
        clear hct hctt
        go_upto_region 8 with (fail)
        go_wp2_with fail
        refine (qSolutions_any _ s _ (hs.keep K) (fun _ => HSZ.out)).mono ?_
        rintro e w6 ⟨v6, rfl, hS6, k6⟩
        rw [hsol] at hS6
        obtain ⟨A6, c6, rfl, -, -⟩ := hS6.form
        clear hS6
        clear s0 s1 s2 s3 hgl
        replace B := B.keep (k6)
        replace K := K.trans (k6)
        obtain ⟨s0, s1, s2, s3⟩ := B.cells
        have hgl := block_lt_of_cell s0
        clear x0
        have BX6 := BX.kp k6 hxl
        have hN6 := hid (rdTr_stable N _ _ _ _ k6 hN.out)
        have x0 : w6.cell? ⟨tx, 0, none⟩ = some (.int .i64 1) := BX6.cell (j := 0) rfl
        have x2 : w6.cell? ⟨tx, 2, none⟩ = some (.slice Ax 0 cx) := BX6.cell (j := 2) rfl
        have x3 := BX6.cell (j := 3) rfl
        have x4 := BX6.cell (j := 4) rfl
        have x5 := BX6.cell (j := 5) rfl
        have x6 := BX6.cell (j := 6) rfl
        have x7 := BX6.cell (j := 7) rfl
        have x8 := BX6.cell (j := 8) rfl
        have hx6 := BX6.lt (by simp)
        clear BX BX6 hN HSZ HFW hxl
        rw [List.length_nil]
        go_upto_region 10 with (fail)
        refine G2.wp_region_growT Kp [] 17 114 (G2.pvL [G2.eqv (.slice A6 0 c6), G2.eqv (.int .i64 0), G2.eqv (.bool true), G2.eqv (.bool true), G2.eqv (.pointer (some ⟨tx, 2, none⟩)), G2.eqv (.slice Ax 0 cx), G2.eqv (.int .i64 0), G2.eqv (.bool true), G2.eqv (.bool true), G2.eqv (.bool true), G2.eqv (.pointer (some ⟨tx, 3, none⟩)), G2.eqv (.agg #[.int .i64 p0, .slice A1 n1 c1, .int .i64 p2, .int .i64 p3, .slice A4 n4 c4]), G2.eqv (.int .i64 (ct : Int)), G2.eqv (.pointer (some ⟨tx, 8, none⟩)), G2.eqv (.int .i64 (ct : Int)), G2.eqv (.bool true), G2.eqv (.bool true)]) (by kernel_rfl) (by kernel_rfl) rfl (fun x => Kp.refl x) (fun _ _ _ h k => h.trans k) (Kp.refl _).drew (fun _ _ _ _ _ h => h) (G2.pvL_keep (G2.stabL_cons (G2.stab_eq _) (G2.stabL_cons (G2.stab_eq _) (G2.stabL_cons (G2.stab_eq _) (G2.stabL_cons (G2.stab_eq _) (G2.stabL_cons (G2.stab_eq _) (G2.stabL_cons (G2.stab_eq _) (G2.stabL_cons (G2.stab_eq _) (G2.stabL_cons (G2.stab_eq _) (G2.stabL_cons (G2.stab_eq _) (G2.stabL_cons (G2.stab_eq _) (G2.stabL_cons (G2.stab_eq _) (G2.stabL_cons (G2.stab_eq _) (G2.stabL_cons (G2.stab_eq _) (G2.stabL_cons (G2.stab_eq _) (G2.stabL_cons (G2.stab_eq _) (G2.stabL_cons (G2.stab_eq _) (G2.stabL_cons (G2.stab_eq _) (G2.stabL_nil))))))))))))))))))) (G2.stepsT_cons 0 ?_ (G2.stepsT_cons 1 ?_ (G2.stepsT_cons 2 ?_ (G2.stepsT_cons 3 ?_ (G2.stepsT_cons 4 ?_ (G2.stepsT_cons 5 ?_ (G2.stepsT_cons 6 ?_ (G2.stepsT_cons 7 ?_ (G2.stepsT_cons 8 ?_ (G2.stepsT_cons 9 ?_ (G2.stepsT_cons 10 ?_ (G2.stepsT_cons 11 ?_ (G2.stepsT_cons 12 ?_ (G2.stepsT_cons 13 ?_ (G2.stepsT_cons 14 ?_ (G2.stepsT_cons 15 ?_ (G2.stepsT_cons 16 ?_ (G2.stepsT_nil _ _ _)))))))))))))))))) ?_ ?_
        · intro a w' hk hF hD K hK
          have h5 : a.tmps[5]?.getD undef = .slice A6 0 c6 := hF 5 (by kernel_rfl)
          clear hF hD
          go_simp
          exact hK.out _ _ (Kp.refl _) rfl
        · intro a w' hk hF hD K hK
          have h44 : a.tmps[44]?.getD undef = .slice A6 0 c6 := hD 0 (by kernel_rfl)
          clear hF hD
          go_simp
          exact hK.out _ _ (Kp.refl _) rfl
        · intro a w' hk hF hD K hK
          have h45 : a.tmps[45]?.getD undef = .int .i64 0 := hD 1 (by kernel_rfl)
          clear hF hD
          go_simp
          exact hK.out _ _ (Kp.refl _) rfl
        · intro a w' hk hF hD K hK
          have h46 : a.tmps[46]?.getD undef = .bool true := hD 2 (by kernel_rfl)
          clear hF hD
          go_simp
          exact hK.out _ _ (Kp.refl _) rfl
        · intro a w' hk hF hD K hK
          have h3 : a.tmps[3]?.getD undef = .pointer (some ⟨tx, 0, none⟩) := hF 3 (by kernel_rfl)
          have h47 : a.tmps[47]?.getD undef = .bool true := hD 3 (by kernel_rfl)
          have g47 := guard_get h47
          clear hF hD
          go_simp
          exact hK.out _ _ (Kp.refl _) rfl
        · intro a w' hk hF hD K hK
          have h48 : a.tmps[48]?.getD undef = .pointer (some ⟨tx, 2, none⟩) := hD 4 (by kernel_rfl)
          have h47 : a.tmps[47]?.getD undef = .bool true := hD 3 (by kernel_rfl)
          have g47 := guard_get h47
          clear hF hD
          have z0 := hk.cellS x2
          go_simp
          exact hK.out _ _ (Kp.refl _) rfl
        · intro a w' hk hF hD K hK
          have h49 : a.tmps[49]?.getD undef = .slice Ax 0 cx := hD 5 (by kernel_rfl)
          have h47 : a.tmps[47]?.getD undef = .bool true := hD 3 (by kernel_rfl)
          have g47 := guard_get h47
          clear hF hD
          go_simp
          exact hK.out _ _ (Kp.refl _) rfl
        · intro a w' hk hF hD K hK
          have h50 : a.tmps[50]?.getD undef = .int .i64 0 := hD 6 (by kernel_rfl)
          have h47 : a.tmps[47]?.getD undef = .bool true := hD 3 (by kernel_rfl)
          have g47 := guard_get h47
          clear hF hD
          go_simp
          exact hK.out _ _ (Kp.refl _) rfl
        · intro a w' hk hF hD K hK
          have h47 : a.tmps[47]?.getD undef = .bool true := hD 3 (by kernel_rfl)
          have h51 : a.tmps[51]?.getD undef = .bool true := hD 7 (by kernel_rfl)
          clear hF hD
          go_simp
          exact hK.out _ _ (Kp.refl _) rfl
        · intro a w' hk hF hD K hK
          have h52 : a.tmps[52]?.getD undef = .bool true := hD 8 (by kernel_rfl)
          clear hF hD
          go_simp
          exact hK.out _ _ (Kp.refl _) rfl
        · intro a w' hk hF hD K hK
          have h3 : a.tmps[3]?.getD undef = .pointer (some ⟨tx, 0, none⟩) := hF 3 (by kernel_rfl)
          have h53 : a.tmps[53]?.getD undef = .bool true := hD 9 (by kernel_rfl)
          have g53 := guard_get h53
          clear hF hD
          go_simp
          exact hK.out _ _ (Kp.refl _) rfl
        · intro a w' hk hF hD K hK
          have h54 : a.tmps[54]?.getD undef = .pointer (some ⟨tx, 3, none⟩) := hD 10 (by kernel_rfl)
          have h53 : a.tmps[53]?.getD undef = .bool true := hD 9 (by kernel_rfl)
          have g53 := guard_get h53
          clear hF hD
          have z3 := hk.cellS x3
          have z4 := hk.cellS x4
          have z5 := hk.cellS x5
          have z6 := hk.cellS x6
          have z7 := hk.cellS x7
          go_simp
          exact hK.out _ _ (Kp.refl _) rfl
        · intro a w' hk hF hD K hK
          have h55 : a.tmps[55]?.getD undef = .agg #[.int .i64 p0, .slice A1 n1 c1, .int .i64 p2, .int .i64 p3, .slice A4 n4 c4] := hD 11 (by kernel_rfl)
          have h53 : a.tmps[53]?.getD undef = .bool true := hD 9 (by kernel_rfl)
          have g53 := guard_get h53
          clear hF hD
          go_simp
          refine (cost_rec N t _ _ _ _ _ w' (rdTr_stable N _ _ _ _ hk hN6.out) hct3).mono ?_
          rintro e w9 ⟨rfl, hk9⟩
          rw [hct2.out]
          exact hK.out _ _ hk9 rfl
        · intro a w' hk hF hD K hK
          have h3 : a.tmps[3]?.getD undef = .pointer (some ⟨tx, 0, none⟩) := hF 3 (by kernel_rfl)
          have h53 : a.tmps[53]?.getD undef = .bool true := hD 9 (by kernel_rfl)
          have g53 := guard_get h53
          clear hF hD
          go_simp
          exact hK.out _ _ (Kp.refl _) rfl
        · intro a w' hk hF hD K hK
          have h57 : a.tmps[57]?.getD undef = .pointer (some ⟨tx, 8, none⟩) := hD 13 (by kernel_rfl)
          have h53 : a.tmps[53]?.getD undef = .bool true := hD 9 (by kernel_rfl)
          have g53 := guard_get h53
          clear hF hD
          have z0 := hk.cellS x8
          go_simp
          exact hK.out _ _ (Kp.refl _) rfl
        · intro a w' hk hF hD K hK
          have h56 : a.tmps[56]?.getD undef = .int .i64 (ct : Int) := hD 12 (by kernel_rfl)
          have h58 : a.tmps[58]?.getD undef = .int .i64 (ct : Int) := hD 14 (by kernel_rfl)
          have h53 : a.tmps[53]?.getD undef = .bool true := hD 9 (by kernel_rfl)
          have g53 := guard_get h53
          clear hF hD
          go_simp
          exact hK.out _ _ (Kp.refl _) rfl
        · intro a w' hk hF hD K hK
          have h53 : a.tmps[53]?.getD undef = .bool true := hD 9 (by kernel_rfl)
          have h59 : a.tmps[59]?.getD undef = .bool true := hD 15 (by kernel_rfl)
          clear hF hD
          go_simp
          exact hK.out _ _ (Kp.refl _) rfl
        · exact fun i0 hi0 => by simp at hi0
        intro v w9 k9 hv
        have v16 : v 16 = .bool true := hv 16 (by omega)
        clear hv
        simp only [G2.growPut, G2.gSlot, List.getElem?_toArray, List.getElem?_cons_zero, List.getElem?_cons_succ, Option.bind_some, List.setIfInBounds_toArray, List.set_cons_zero, List.set_cons_succ, List.drop_succ_cons, List.drop_zero, v16]
        clear x0 x2 x3 x4 x5 x6 x7 x8
        go_wp2
        go_ret
        exact ⟨rfl, K.trans k9⟩
      · clear HP
        have x0 := BX.cell (j := 0) rfl
        have HSO := hid hsol
        have HCS := hid hcs
        clear hsol hcs
        go_upto_region 8 with (fail)
        go_wp2_with fail
        refine (qSolutions_any _ s _ (hs.keep K) (fun _ => HSZ.out)).mono ?_
        rintro e w6 ⟨v6, rfl, hS6, k6⟩
        obtain ⟨A6, c6, rfl, -, -⟩ := hS6.form
        clear s0 s1 s2 s3 hgl
        replace B := B.keep (k6)
        replace K := K.trans (k6)
        obtain ⟨s0, s1, s2, s3⟩ := B.cells
        have hgl := block_lt_of_cell s0
        clear x0
        have BX6 := BX.kp k6 hxl
        have hvs6 := hid (hvs.out.keep (pl_stable _) k6)
        have x0 : w6.cell? ⟨tx, 0, none⟩ = some (.int .i64 0) := BX6.cell (j := 0) rfl
        have hx6 := BX6.lt (by simp)
        clear BX hvs hN hxl
        have hm0 : 0 < (solsL s).length := List.length_pos_iff.2 HSO.out
        have HS6 := hid hS6
        clear hS6
        generalize hm : (solsL s).length = m at *
        replace hm := hid hm
        have e1 : ((m : Int) == 0) = false := by simpa using Nat.ne_of_gt hm0
        have e1' : (m == 0) = false := by simpa using Nat.ne_of_gt hm0
        rcases HCS.out with ⟨hc0, rfl, L, hL⟩ | ⟨i0, hi0, rfl, ⟨L, hL⟩, hlow⟩
        · clear HCS
          have hcl : s.cases.length = 0 := by rw [hc0]; rfl
          rw [hcl] at s3
          rw [hL] at HS6
          obtain ⟨g, o, A8, c8, rfl, hg8, i1, hv8⟩ := HS6.out.il (k := 0) (by simp)
          simp only [List.getElem_cons_zero, Nat.add_zero] at i1 hv8
          replace hv8 := hid hv8
          have x1 : w6.cell? ⟨tx, 1, none⟩ = some (.int .i64 0) := BX6.cell (j := 1) rfl
          have x2 := BX6.cell (j := 2) rfl
          have he := hid ((eqI_iff vs vs).2 rfl)
          generalize vs.length = lv at *
          clear BX6 HS6 hcl hL hc0
          go_upto_region 14 with (fail)
          refine G2.wp_region_growT Kp [] 11 114 (G2.pvL [G2.eqv (.pointer (some ⟨tx, 1, none⟩)), G2.eqv (.int .i64 0), G2.eqv (.bool true), G2.eqv (.bool true), G2.eqv (.pointer (some ⟨tx, 2, none⟩)), G2.eqv (.slice Ax lv cx), G2.eqv (.slice (some ⟨g, o, none⟩) m c6), G2.eqv (.pointer (some ⟨g, o, none⟩)), G2.eqv (.slice A8 lv c8), G2.eqv (.bool true), G2.eqv (.bool true)]) (by kernel_rfl) (by kernel_rfl) rfl (fun x => Kp.refl x) (fun _ _ _ h k => h.trans k) (Kp.refl _).drew (fun _ _ _ _ _ h => h) (G2.pvL_keep (G2.stabL_cons (G2.stab_eq _) (G2.stabL_cons (G2.stab_eq _) (G2.stabL_cons (G2.stab_eq _) (G2.stabL_cons (G2.stab_eq _) (G2.stabL_cons (G2.stab_eq _) (G2.stabL_cons (G2.stab_eq _) (G2.stabL_cons (G2.stab_eq _) (G2.stabL_cons (G2.stab_eq _) (G2.stabL_cons (G2.stab_eq _) (G2.stabL_cons (G2.stab_eq _) (G2.stabL_cons (G2.stab_eq _) (G2.stabL_nil))))))))))))) (G2.stepsT_cons 0 ?_ (G2.stepsT_cons 1 ?_ (G2.stepsT_cons 2 ?_ (G2.stepsT_cons 3 ?_ (G2.stepsT_cons 4 ?_ (G2.stepsT_cons 5 ?_ (G2.stepsT_cons 6 ?_ (G2.stepsT_cons 7 ?_ (G2.stepsT_cons 8 ?_ (G2.stepsT_cons 9 ?_ (G2.stepsT_cons 10 ?_ (G2.stepsT_nil _ _ _)))))))))))) ?_ ?_
          · intro a w' hk hF hD K hK
            have h3 : a.tmps[3]?.getD undef = .pointer (some ⟨tx, 0, none⟩) := hF 3 (by kernel_rfl)
            clear hF hD
            go_simp
            exact hK.out _ _ (Kp.refl _) rfl
          · intro a w' hk hF hD K hK
            have h73 : a.tmps[73]?.getD undef = .pointer (some ⟨tx, 1, none⟩) := hD 0 (by kernel_rfl)
            clear hF hD
            have z0 := hk.cellS x1
            go_simp
            exact hK.out _ _ (Kp.refl _) rfl
          · intro a w' hk hF hD K hK
            have h74 : a.tmps[74]?.getD undef = .int .i64 0 := hD 1 (by kernel_rfl)
            clear hF hD
            go_simp
            exact hK.out _ _ (Kp.refl _) rfl
          · intro a w' hk hF hD K hK
            have h75 : a.tmps[75]?.getD undef = .bool true := hD 2 (by kernel_rfl)
            clear hF hD
            go_simp
            exact hK.out _ _ (Kp.refl _) rfl
          · intro a w' hk hF hD K hK
            have h3 : a.tmps[3]?.getD undef = .pointer (some ⟨tx, 0, none⟩) := hF 3 (by kernel_rfl)
            have h76 : a.tmps[76]?.getD undef = .bool true := hD 3 (by kernel_rfl)
            have g76 := guard_get h76
            clear hF hD
            go_simp
            exact hK.out _ _ (Kp.refl _) rfl
          · intro a w' hk hF hD K hK
            have h77 : a.tmps[77]?.getD undef = .pointer (some ⟨tx, 2, none⟩) := hD 4 (by kernel_rfl)
            have h76 : a.tmps[76]?.getD undef = .bool true := hD 3 (by kernel_rfl)
            have g76 := guard_get h76
            clear hF hD
            have z0 := hk.cellS x2
            go_simp
            exact hK.out _ _ (Kp.refl _) rfl
          · intro a w' hk hF hD K hK
            have h5 : a.tmps[5]?.getD undef = .slice (some ⟨g, o, none⟩) m c6 := hF 5 (by kernel_rfl)
            have h76 : a.tmps[76]?.getD undef = .bool true := hD 3 (by kernel_rfl)
            have g76 := guard_get h76
            clear hF hD
            go_simp
            exact hK.out _ _ (Kp.refl _) rfl
          · intro a w' hk hF hD K hK
            have h79 : a.tmps[79]?.getD undef = .slice (some ⟨g, o, none⟩) m c6 := hD 6 (by kernel_rfl)
            have h76 : a.tmps[76]?.getD undef = .bool true := hD 3 (by kernel_rfl)
            have g76 := guard_get h76
            clear hF hD
            go_simp
            exact hK.out _ _ (Kp.refl _) rfl
          · intro a w' hk hF hD K hK
            have h80 : a.tmps[80]?.getD undef = .pointer (some ⟨g, o, none⟩) := hD 7 (by kernel_rfl)
            have h76 : a.tmps[76]?.getD undef = .bool true := hD 3 (by kernel_rfl)
            have g76 := guard_get h76
            clear hF hD
            have z0 := hk.cellS i1
            go_simp
            exact hK.out _ _ (Kp.refl _) rfl
          · intro a w' hk hF hD K hK
            have h78 : a.tmps[78]?.getD undef = .slice Ax lv cx := hD 5 (by kernel_rfl)
            have h81 : a.tmps[81]?.getD undef = .slice A8 lv c8 := hD 8 (by kernel_rfl)
            have h76 : a.tmps[76]?.getD undef = .bool true := hD 3 (by kernel_rfl)
            have g76 := guard_get h76
            clear hF hD
            go_simp
            refine (EqualInt_any _ _ vs vs w' (hvs6.out.keep (pl_stable _) hk) (hv8.out.keep (pl_stable _) hk)).mono ?_
            rintro e w9 ⟨rfl, hk9⟩
            rw [he.out]
            exact hK.out _ _ hk9 rfl
          · intro a w' hk hF hD K hK
            have h76 : a.tmps[76]?.getD undef = .bool true := hD 3 (by kernel_rfl)
            have h82 : a.tmps[82]?.getD undef = .bool true := hD 9 (by kernel_rfl)
            clear hF hD
            go_simp
            exact hK.out _ _ (Kp.refl _) rfl
          · exact fun i0 hi0 => by simp at hi0
          intro v w9 k9 hv
          have v10 : v 10 = .bool true := hv 10 (by omega)
          clear hv
          simp only [G2.growPut, G2.gSlot, List.getElem?_toArray, List.getElem?_cons_zero, List.getElem?_cons_succ, Option.bind_some, List.setIfInBounds_toArray, List.set_cons_zero, List.set_cons_succ, List.drop_succ_cons, List.drop_zero, v10]
          clear x0 x1 x2 i1
          go_wp2
          go_ret
          exact ⟨rfl, K.trans k9⟩
        · clear HCS HS6
          have hcl : 0 < s.cases.length := by omega
          have e2 : ((s.cases.length : Int) == 0) = false := by simpa using Nat.ne_of_gt hcl
          have e2' : (s.cases.length == 0) = false := by simpa using Nat.ne_of_gt hcl
          have HI0 := hid hi0
          have HL0 := hid (⟨L, hL⟩ : ∃ l, solsL (brS s s.cases[i0]) = vs :: l)
          have HLO := hid hlow
          clear hL hlow
          go_upto_region 15 with (fail)
          clear e2 e2' e1 e1' x0 hm0
          go_upto_region 16 with (fail)
          go_loopw [87] (fun i wr => ∃ k : Nat, k ≤ i0 ∧ i = .int .i64 (k : Int) ∧ Kp w6 wr) (fun i _ => s.cases.length - (intOf i).toNat)
          case atStart => exact ⟨0, Nat.zero_le _, rfl, Kp.refl _⟩
          case round =>
            obtain ⟨k, hki, rfl, hbel⟩ := hrel
            have hlt : k < s.cases.length := by omega
            have hlti : (k : Int) < s.cases.length := by omega
            clear s0 s1 s2 s3 hgl
            replace B := B.keep hbel
            replace K := K.trans hbel
            obtain ⟨s0, s1, s2, s3⟩ := B.cells
            have hgl := block_lt_of_cell s0
            go_wp2_with fail
            have HX := hid (branchR_at HV.out hlt (HFW.out _ (List.getElem_mem hlt)))
            have HZs : Hid (sizeB (brS s s.cases[k]).box ≤ 65536) := HSZ
            refine (qBranch_any _ s (k : Int) _ (hs.keep K)).mono ?_
            rw [HX.out]
            generalize hsy : brS s s.cases[k] = sy at *
            replace hsy := hid hsy
            rintro e w7 ⟨v7, rfl, s7', k7⟩
            dsimp only at s7' ⊢
            obtain ⟨A7, a7, B7, b7, C7, c7, D7, d7, rfl, q1, q2, q3, q4⟩ := s7'
            have kA := k7.trans ((Kp.refl w7).alloc (.cells #[.slice A7 sy.box.length a7, .slice B7 sy.rows.length b7, .slice C7 sy.graphs.length c7, .slice D7 sy.cases.length d7] 27))
            have S7 : SysV _ _ sy := SysV.keep ⟨A7, a7, B7, b7, C7, c7, D7, d7, rfl, q1, q2, q3, q4⟩ ((Kp.refl w7).alloc (.cells #[.slice A7 sy.box.length a7, .slice B7 sy.rows.length b7, .slice C7 sy.graphs.length c7, .slice D7 sy.cases.length d7] 27))
            have X7 := SysB.new w7 #[.slice A7 sy.box.length a7, .slice B7 sy.rows.length b7, .slice C7 sy.graphs.length c7, .slice D7 sy.cases.length d7] 27
            clear q1 q2 q3 q4
            clear s0 s1 s2 s3 hgl
            replace B := B.keep (kA)
            replace K := K.trans (kA)
            obtain ⟨s0, s1, s2, s3⟩ := B.cells
            have hgl := block_lt_of_cell s0
            go_upto_region 19 with (fail)
            generalize w7.alloc (.cells #[.slice A7 sy.box.length a7, .slice B7 sy.rows.length b7, .slice C7 sy.graphs.length c7, .slice D7 sy.cases.length d7] 27) = w8 at *
            generalize w7.heap.size = p7 at *
            obtain ⟨y0, y1, y2, y3⟩ := X7.cells
            have z1 := block_lt_of_cell y0
            have kw8 := hbel.trans kA
            clear k7 kA hbel
            go_wp2_with fail
            refine (qSolutions_any _ sy _ S7 (fun _ => HZs.out)).mono ?_
            rintro e w9 ⟨v9, rfl, hS9, k9⟩
            clear y0 y1 y2 y3 z1 S7 X7
            clear s0 s1 s2 s3 hgl
            replace B := B.keep (k9)
            replace K := K.trans (k9)
            obtain ⟨s0, s1, s2, s3⟩ := B.cells
            have hgl := block_lt_of_cell s0
            have kw9 := kw8.trans k9
            clear kw8
            by_cases hk0 : k = i0
            · subst hk0
              obtain ⟨L, hL⟩ := HL0.out
              have hL2 : solsL sy = vs :: L := by
                rw [← hsy.out]
                exact hL
              clear hL
              rw [hL2] at hS9
              obtain ⟨A9, c9, rfl, -, -⟩ := hS9.form
              obtain ⟨g, o, A8, c8, rfl, hg8, i1, hv8⟩ := hS9.il (k := 0) (by simp)
              simp only [List.getElem_cons_zero, Nat.add_zero] at i1 hv8
              replace hv8 := hid hv8
              have BX9 := BX6.kp kw9 hx6
              have hvs9 := hid (hvs6.out.keep (pl_stable _) kw9)
              have x1 : w9.cell? ⟨tx, 1, none⟩ = some (.int .i64 (k : Int)) := BX9.cell (j := 1) rfl
              have x2 := BX9.cell (j := 2) rfl
              have hx9 := BX9.lt (by simp)
              have he := hid ((eqI_iff vs vs).2 rfl)
              have hm0 : 0 < (vs :: L).length := by simp
              generalize (vs :: L).length = m9 at *
              generalize vs.length = lv at *
              clear BX9 BX6 hS9 hL2
              go_upto_region 21 with (fail)
              refine G2.wp_region_growT Kp [] 12 114 (G2.pvL [G2.eqv (.pointer (some ⟨tx, 1, none⟩)), G2.eqv (.int .i64 (k : Int)), G2.eqv (.int .i64 (k : Int)), G2.eqv (.bool true), G2.eqv (.bool true), G2.eqv (.pointer (some ⟨tx, 2, none⟩)), G2.eqv (.slice Ax lv cx), G2.eqv (.slice (some ⟨g, o, none⟩) m9 c9), G2.eqv (.pointer (some ⟨g, o, none⟩)), G2.eqv (.slice A8 lv c8), G2.eqv (.bool true), G2.eqv (.bool true)]) (by kernel_rfl) (by kernel_rfl) rfl (fun x => Kp.refl x) (fun _ _ _ h k => h.trans k) (Kp.refl _).drew (fun _ _ _ _ _ h => h) (G2.pvL_keep (G2.stabL_cons (G2.stab_eq _) (G2.stabL_cons (G2.stab_eq _) (G2.stabL_cons (G2.stab_eq _) (G2.stabL_cons (G2.stab_eq _) (G2.stabL_cons (G2.stab_eq _) (G2.stabL_cons (G2.stab_eq _) (G2.stabL_cons (G2.stab_eq _) (G2.stabL_cons (G2.stab_eq _) (G2.stabL_cons (G2.stab_eq _) (G2.stabL_cons (G2.stab_eq _) (G2.stabL_cons (G2.stab_eq _) (G2.stabL_cons (G2.stab_eq _) (G2.stabL_nil)))))))))))))) (G2.stepsT_cons 0 ?_ (G2.stepsT_cons 1 ?_ (G2.stepsT_cons 2 ?_ (G2.stepsT_cons 3 ?_ (G2.stepsT_cons 4 ?_ (G2.stepsT_cons 5 ?_ (G2.stepsT_cons 6 ?_ (G2.stepsT_cons 7 ?_ (G2.stepsT_cons 8 ?_ (G2.stepsT_cons 9 ?_ (G2.stepsT_cons 10 ?_ (G2.stepsT_cons 11 ?_ (G2.stepsT_nil _ _ _))))))))))))) ?_ ?_
              · intro a w' hk hF hD K hK
                have h3 : a.tmps[3]?.getD undef = .pointer (some ⟨tx, 0, none⟩) := hF 3 (by kernel_rfl)
                clear hF hD
                go_simp
                exact hK.out _ _ (Kp.refl _) rfl
              · intro a w' hk hF hD K hK
                have h101 : a.tmps[101]?.getD undef = .pointer (some ⟨tx, 1, none⟩) := hD 0 (by kernel_rfl)
                clear hF hD
                have z0 := hk.cellS x1
                go_simp
                exact hK.out _ _ (Kp.refl _) rfl
              · intro a w' hk hF hD K hK
                have h6 : a.tmps[6]?.getD undef = .int .i64 (k : Int) := hF 6 (by kernel_rfl)
                clear hF hD
                go_simp
                exact hK.out _ _ (Kp.refl _) rfl
              · intro a w' hk hF hD K hK
                have h102 : a.tmps[102]?.getD undef = .int .i64 (k : Int) := hD 1 (by kernel_rfl)
                have h103 : a.tmps[103]?.getD undef = .int .i64 (k : Int) := hD 2 (by kernel_rfl)
                clear hF hD
                go_simp
                exact hK.out _ _ (Kp.refl _) rfl
              · intro a w' hk hF hD K hK
                have h104 : a.tmps[104]?.getD undef = .bool true := hD 3 (by kernel_rfl)
                clear hF hD
                go_simp
                exact hK.out _ _ (Kp.refl _) rfl
              · intro a w' hk hF hD K hK
                have h3 : a.tmps[3]?.getD undef = .pointer (some ⟨tx, 0, none⟩) := hF 3 (by kernel_rfl)
                have h105 : a.tmps[105]?.getD undef = .bool true := hD 4 (by kernel_rfl)
                have g105 := guard_get h105
                clear hF hD
                go_simp
                exact hK.out _ _ (Kp.refl _) rfl
              · intro a w' hk hF hD K hK
                have h106 : a.tmps[106]?.getD undef = .pointer (some ⟨tx, 2, none⟩) := hD 5 (by kernel_rfl)
                have h105 : a.tmps[105]?.getD undef = .bool true := hD 4 (by kernel_rfl)
                have g105 := guard_get h105
                clear hF hD
                have z0 := hk.cellS x2
                go_simp
                exact hK.out _ _ (Kp.refl _) rfl
              · intro a w' hk hF hD K hK
                have h9 : a.tmps[9]?.getD undef = .slice (some ⟨g, o, none⟩) m9 c9 := hF 9 (by kernel_rfl)
                have h105 : a.tmps[105]?.getD undef = .bool true := hD 4 (by kernel_rfl)
                have g105 := guard_get h105
                clear hF hD
                go_simp
                exact hK.out _ _ (Kp.refl _) rfl
              · intro a w' hk hF hD K hK
                have h108 : a.tmps[108]?.getD undef = .slice (some ⟨g, o, none⟩) m9 c9 := hD 7 (by kernel_rfl)
                have h105 : a.tmps[105]?.getD undef = .bool true := hD 4 (by kernel_rfl)
                have g105 := guard_get h105
                clear hF hD
                go_simp
                exact hK.out _ _ (Kp.refl _) rfl
              · intro a w' hk hF hD K hK
                have h109 : a.tmps[109]?.getD undef = .pointer (some ⟨g, o, none⟩) := hD 8 (by kernel_rfl)
                have h105 : a.tmps[105]?.getD undef = .bool true := hD 4 (by kernel_rfl)
                have g105 := guard_get h105
                clear hF hD
                have z0 := hk.cellS i1
                go_simp
                exact hK.out _ _ (Kp.refl _) rfl
              · intro a w' hk hF hD K hK
                have h107 : a.tmps[107]?.getD undef = .slice Ax lv cx := hD 6 (by kernel_rfl)
                have h110 : a.tmps[110]?.getD undef = .slice A8 lv c8 := hD 9 (by kernel_rfl)
                have h105 : a.tmps[105]?.getD undef = .bool true := hD 4 (by kernel_rfl)
                have g105 := guard_get h105
                clear hF hD
                go_simp
                refine (EqualInt_any _ _ vs vs w' (hvs9.out.keep (pl_stable _) hk) (hv8.out.keep (pl_stable _) hk)).mono ?_
                rintro e w9 ⟨rfl, hk9⟩
                rw [he.out]
                exact hK.out _ _ hk9 rfl
              · intro a w' hk hF hD K hK
                have h105 : a.tmps[105]?.getD undef = .bool true := hD 4 (by kernel_rfl)
                have h111 : a.tmps[111]?.getD undef = .bool true := hD 10 (by kernel_rfl)
                clear hF hD
                go_simp
                exact hK.out _ _ (Kp.refl _) rfl
              · exact fun i0 hi0 => by simp at hi0
              intro v w9 k9 hv
              have v11 : v 11 = .bool true := hv 11 (by omega)
              clear hv
              simp only [G2.growPut, G2.gSlot, List.getElem?_toArray, List.getElem?_cons_zero, List.getElem?_cons_succ, Option.bind_some, List.setIfInBounds_toArray, List.set_cons_zero, List.set_cons_succ, List.drop_succ_cons, List.drop_zero, v11]
              clear x1 x2 i1
              go_wp2
              go_ret
              exact ⟨rfl, K.trans k9⟩
            · have hle : solsL sy = [] := by
                rw [← hsy.out]
                exact HLO.out k (by omega)
              rw [hle] at hS9
              obtain ⟨A9, c9, rfl, -, -⟩ := hS9.form
              rw [List.length_nil]
              clear hS9
              go_wp2_with fail
              go_roundw
              case rel => exact ⟨k + 1, by omega, by go_num, kw9⟩
              case measure => simp [intOf]; omega
theorem own : ownKnob Try.prog.godebug = none := by kernel_rfl
theorem laidOut : laidOutB Try.prog = true := by kernel_rfl
set_option maxRecDepth 100000 in
theorem lifted (os : Os) (started : os.Started) (H : Type) (enc : TypeId × Value → H) :
    ReturnsInHanded {} Try.checked os 4 .any (Rows.searchSolvesSpec.pre6 enc Try.prog Try.f4 Rows.searchSolvesRow.domain false) (Rows.searchSolvesSpec.post enc Try.prog Try.f4 false true false false) := by
  refine returnsInHanded_of_change (C := Try.checked) own started (by kernel_rfl) Try.func4
    (ChangeSpec.witness6 (enc := enc) (C := Try.checked) false ⟨#[], #[.agg #[.slice none 0 0, .slice none 0 0, .slice none 0 0, .slice none 0 0]], []⟩ 8 (by kernel_rfl) (by kernel_rfl) (by kernel_rfl) (by kernel_rfl)) ?_
  intro W base args ds gs before hval0 hW hcnd _
  have hval : ∀ (j : Nat) t v, Try.f4.params[j]? = some t → args[j]? = some v → Value.okWide Try.prog W .any base t v := hval0
  have hW' := hW
  obtain ⟨p, q, hA0, hV, rfl, hfz, hnd⟩ := hW
  have hA : DataW.TrodAll enc Try.prog W 0 (fun _ => true) true Try.f4.params.toList args.toList ds p := hA0
  rw [Try.params4] at hA hval
  obtain ⟨v0, vs0, d0, ds0, p0, q0, hargs, rfl, rfl, h0, r0⟩ := trodAll_cons hA
  obtain ⟨rfl, rfl, rfl⟩ := trodAll_nil r0
  obtain rfl : args = #[v0] := by cases args; simp_all
  obtain ⟨rfl, rfl⟩ := trodVars_none hV
  have lt0 : ∀ x ∈ p0, x.block < W.heap.size := by obtain ⟨m, hm⟩ := h0; exact DataW.trod_lt m _ _ _ hm
  obtain ⟨s0, hs0⟩ := opSys (hval 0 27 v0 rfl rfl) h0
  clear hA0 hval0
  refine (walk _ s0 W hs0).mono fun e W' ⟨he, bel⟩ => ?_
  subst he
  exact ⟨_, rfl, _, _, _, [], _, [], hW', trodAll_mk1 (shut_bool Try.underlying4 _), (trodAll_cons_mk (Below.trod laidOut (by kernel_rfl) (of_decide_eq_true (by kernel_rfl)) h0 bel lt0) trodAll_mk0), rfl, Below.frame bel _, fun h => by cases h⟩
theorem over : Rows.searchSolvesRow.holds Try.pinned (OpenSpec.ofChange Rows.searchSolvesSpec) :=
  OpenClaim.holds_of_wide 4 Try.f4 rfl rfl rfl rfl rfl rfl rfl ⟨rfl, rfl, rfl, rfl, rfl⟩ rfl rfl rfl rfl rfl (by kernel_rfl) Try.func4 (by kernel_rfl)
    (of_decide_eq_true (by kernel_rfl)) (by unfold Func.isWrapper; first | (rw [if_pos (by decide +kernel)]; kernel_rfl) | (rw [if_neg (by decide +kernel)]; exact ⟨rfl, rfl⟩))
    (fun os started H enc _ => lifted os started H enc)
theorem proved : Rows.SearchSolvesSaid := over
end Go.Proofs.Ytlbhidiliogflaa.lawSolves20
