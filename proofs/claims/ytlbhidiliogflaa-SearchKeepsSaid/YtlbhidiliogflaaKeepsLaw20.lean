
/-
SearchKeeps: for every system and box the law returns true and leaves its arguments as they were.
-/
import Derived.Test.YtlbhidiliogflaaSfW
import Derived.Test.YtlbhidiliogflaaSfL
import Derived.Test.YtlbhidiliogflaaRB
import Derived.Test.YtlbhidiliogflaaSysOpen
namespace Go.Proofs.Ytlbhidiliogflaa.lawKeeps20
set_option linter.unusedSimpArgs false
set_option linter.unusedVariables false
open Go.ChangeShapes Go.WideShapes Go.ChangeAt Go.RowKit

set_option maxRecDepth 10000 in
set_option maxHeartbeats 16000000 in
theorem walk (va vb : Value) (s : Sys) (box : List Rng) (w : World) (hs : SysV w va s) (hbx : Rngs w vb box) :
    Calls Try.prog 6 #[va, vb] w fun e w' => e = .returned (.bool true) ∧ Kp w w' := by
  have hs' := hs
  obtain ⟨Ab, cb, Ar, cr, Ag, cg, Ac, cc, rfl, hb, hr, hg, hc⟩ := hs'
  obtain ⟨l1, m1⟩ := hb.caps
  obtain ⟨l2, m2⟩ := hr.caps
  obtain ⟨l3, m3⟩ := hg.caps
  obtain ⟨l4, m4⟩ := hc.caps
  obtain ⟨Ax, cx, rfl, hx1, hx2⟩ := hbx.form
  have K := (Kp.refl w).alloc (.cells #[.slice Ab s.box.length cb, .slice Ar s.rows.length cr, .slice Ag s.graphs.length cg, .slice Ac s.cases.length cc] 27)
  have B := SysB.new w #[.slice Ab s.box.length cb, .slice Ar s.rows.length cr, .slice Ag s.graphs.length cg, .slice Ac s.cases.length cc] 27
  go_enter Try.func6, Try.ntmps6
  go_wp2_with fail
  generalize w.alloc (.cells #[.slice Ab s.box.length cb, .slice Ar s.rows.length cr, .slice Ag s.graphs.length cg, .slice Ac s.cases.length cc] 27) = w0 at *
  generalize hb0 : w.heap.size = b0 at *
  replace hb0 := hid hb0
  refine (awake20_any _).mono ?_
  rintro e w1 ⟨rfl, k1⟩
  replace B := B.keep k1
  replace K := K.trans k1
  clear k1
  obtain ⟨s0, s1, s2, s3⟩ := B.cells
  have hgl := block_lt_of_cell s0
  go_wp2_with fail
  refine (lawFew_any _ s 300 _ (hs.keep K)).mono ?_
  rintro e w2 ⟨rfl, k2⟩
  clear s0 s1 s2 s3 hgl
  replace B := B.keep k2
  replace K := K.trans k2
  obtain ⟨s0, s1, s2, s3⟩ := B.cells
  have hgl := block_lt_of_cell s0
  cases hF : fewL s 300 with
  | false =>
    clear hF
    go_wp2
    go_ret
    exact ⟨rfl, K⟩
  | true =>
    clear hF
    go_wp2_with fail
    refine (qValid_any _ s _ (hs.keep K)).mono ?_
    rintro e w3 ⟨rfl, k3⟩
    clear s0 s1 s2 s3 hgl
    replace B := B.keep k3
    replace K := K.trans k3
    obtain ⟨s0, s1, s2, s3⟩ := B.cells
    have hgl := block_lt_of_cell s0
    cases hV : validS s with
    | false =>
      clear hV
      go_wp2
      go_ret
      exact ⟨rfl, K⟩
    | true =>
      replace hV := hid hV
      by_cases hL : box.length = s.box.length
      · have e1 : ((box.length : Int) != (s.box.length : Int)) = false := by rw [hL]; simp
        have e1' : (box.length != s.box.length) = false := by rw [hL]; simp
        replace hL := hid hL
        go_wp2_with fail
        refine (rValid_any _ _ box [] _ (hbx.keep (pl_stable _) K) (Sl.nil _ _ _)).mono ?_
        rintro e w4 ⟨rfl, k4⟩
        clear s0 s1 s2 s3 hgl
        replace B := B.keep k4
        replace K := K.trans k4
        obtain ⟨s0, s1, s2, s3⟩ := B.cells
        have hgl := block_lt_of_cell s0
        have hvb : validB box [] = boxB box := by simp [validB]
        rw [hvb]
        clear hvb
        cases hB : boxB box with
        | false =>
          clear hB
          go_wp2
          go_ret
          exact ⟨rfl, K⟩
        | true =>
          replace hB := hid hB
          go_wp2_with fail
          refine (rEmpty_any _ box _ (hbx.keep (pl_stable _) K)).mono ?_
          rintro e w5 ⟨rfl, k5⟩
          clear s0 s1 s2 s3 hgl
          replace B := B.keep k5
          replace K := K.trans k5
          obtain ⟨s0, s1, s2, s3⟩ := B.cells
          have hgl := block_lt_of_cell s0
          cases hE : box.any emptyR with
          | true =>
            clear hE
            go_wp2
            go_ret
            exact ⟨rfl, K⟩
          | false =>
            replace hE := hid hE
            go_wp2_with fail
            refine (rSize_any _ box _ (hbx.keep (pl_stable _) K)).mono ?_
            rintro e w6 ⟨rfl, k6⟩
            clear s0 s1 s2 s3 hgl
            replace B := B.keep k6
            replace K := K.trans k6
            obtain ⟨s0, s1, s2, s3⟩ := B.cells
            have hgl := block_lt_of_cell s0
            by_cases hz : 300 < sizeB box
            · have e2 : decide (300 < sizeB box) = true := decide_eq_true hz
              go_wp2
              go_ret
              exact ⟨rfl, K⟩
            · have e2 : decide (300 < sizeB box) = false := decide_eq_false hz
              have hC := prop_cases hV.out hL.out hB.out hE.out
              have hbl : box.length ≤ 128 := (boxB_all hB.out).2
              clear hz
              go_wp2_with fail
              refine (Propagate_any _ _ s box 65536 _ (hs.keep K) (hbx.keep (pl_stable _) K)).mono ?_
              rcases hC with hC | ⟨st, bx, o, hC, hP, hO⟩
              · rw [hC]
                rintro e w7 ⟨v1, v2, rfl, h1, h2, k7⟩
                obtain ⟨A1, c1, rfl, -, -⟩ := h1.form
                obtain ⟨A2, c2, rfl, -, -⟩ := h2.form
                dsimp only at *
                clear s0 s1 s2 s3 hgl
                replace B := B.keep k7
                replace K := K.trans k7
                obtain ⟨s0, s1, s2, s3⟩ := B.cells
                have hgl := block_lt_of_cell s0
                clear h1 h2
                go_wp2
                go_ret
                exact ⟨rfl, K⟩
              · rw [hC]
                rintro e w7 ⟨v1, v2, rfl, h1, h2, k7⟩
                obtain ⟨A1, c1, rfl, -, -⟩ := h1.form
                obtain ⟨A2, c2, rfl, -, -⟩ := h2.form
                dsimp only at *
                have HB2 := hid h2
                clear s0 s1 s2 s3 hgl
                replace B := B.keep k7
                replace K := K.trans k7
                obtain ⟨s0, s1, s2, s3⟩ := B.cells
                have hgl := block_lt_of_cell s0
                clear h1 h2 hC
                have HP := hid hP
                clear hP
                go_upto_if 62 with (fail)
                go_cut [] from 9 to 102 (fun wx => Kp w7 wx)
                case first =>
                  rcases hO with ⟨rfl, hbxl, hC2⟩ | ⟨rfl, rfl, hst⟩
                  · have e3 : ((bx.length : Int) != (box.length : Int)) = false := by rw [hbxl]; simp
                    have e3' : (bx.length != box.length) = false := by rw [hbxl]; simp
                    have HX := hid hbxl
                    clear hbxl
                    go_wp2_with fail
                    refine (Propagate_any _ _ s bx 65536 _ (hs.keep K) HB2.out).mono ?_
                    rw [hC2]
                    rintro e w8 ⟨v3, v4, rfl, h3, h4, k8⟩
                    obtain ⟨A3, c3, rfl, -, -⟩ := h3.form
                    obtain ⟨A4, c4, rfl, -, -⟩ := h4.form
                    dsimp only at *
                    have H4 := hid h4
                    clear hC2 h3 h4 s0 s1 s2 s3 hgl B
                    go_wp2_with fail
                    refine (EqualRange_any _ _ bx bx w8 H4.out (HB2.out.keep (pl_stable _) k8)).mono ?_
                    rintro e w9 ⟨rfl, k9⟩
                    rw [(eqR_iff bx bx).2 rfl]
                    go_wp2_with fail
                    go_meet
                    case rel => exact k8.trans k9
                  · have e3 : ((st.length : Int) == 0) = false := by simpa using (by omega : ¬ st.length = 0)
                    have e3' : (st.length == 0) = false := by simpa using (by omega : ¬ st.length = 0)
                    replace hst := hid hst
                    clear s0 s1 s2 s3 hgl B
                    go_wp2_with fail
                    go_meet
                    case rel => exact Kp.refl _
                case rest =>
                  clear hO
                  clear s0 s1 s2 s3 hgl
                  have hbxl : bx.length ≤ box.length := HP.out.sub.1
                  go_wp2_with fail
                  go_loopw [105] (fun i wr => ∃ k : Nat, k ≤ bx.length ∧ i = .int .i64 (k : Int) ∧ Kp w7 wr) (fun i _ => bx.length - (intOf i).toNat)
                  case atStart => exact ⟨0, Nat.zero_le _, rfl, hcut⟩
                  case round =>
                    obtain ⟨k, hk, rfl, kr⟩ := hrel
                    have krw := K.trans kr
                    by_cases hlt : k < bx.length
                    · obtain ⟨g1, o1, rfl, hg1, a1, a2⟩ := (HB2.out.keep (pl_stable _) kr).rng hlt
                      obtain ⟨g2, o2, rfl, hg2, b1, b2⟩ := (hbx.keep (pl_stable _) krw).rng (k := k) (by omega)
                      have hsb := HP.out.sub.2 k hlt
                      rw [pick_at box k (by omega), pick_at bx k hlt] at hsb
                      generalize bx[k] = r1 at *
                      generalize box[k]'(by omega) = r2 at *
                      obtain ⟨l1, h1⟩ := r1
                      obtain ⟨l2, h2⟩ := r2
                      dsimp only at a1 a2 b1 b2 hsb
                      have e4 : decide (l1 < l2) = false := decide_eq_false (by omega)
                      have e5 : decide (h2 < h1) = false := decide_eq_false (by omega)
                      have q1 : (0 : Int) ≤ (k : Int) := by omega
                      have q2 : (k : Int) < (bx.length : Int) := by omega
                      have q3 : (k : Int) < (box.length : Int) := by omega
                      clear hsb
                      go_upto_region 17 with (fail)
                      refine G2.wp_region_growT Kp [] 23 164 (G2.pvL [G2.eqv (.slice (some ⟨g1, o1, none⟩) bx.length c2), G2.eqv (.int .i64 (k : Int)), G2.eqv (.pointer (some ⟨g1, o1 + k * 2, none⟩)), G2.eqv (.pointer (some ⟨g1, o1 + k * 2, none⟩)), G2.eqv (.int .i64 l1), G2.eqv (.slice (some ⟨g2, o2, none⟩) box.length cx), G2.eqv (.int .i64 (k : Int)), G2.eqv (.pointer (some ⟨g2, o2 + k * 2, none⟩)), G2.eqv (.pointer (some ⟨g2, o2 + k * 2, none⟩)), G2.eqv (.int .i64 l2), G2.eqv (.bool false), G2.eqv (.bool false), G2.eqv (.slice (some ⟨g1, o1, none⟩) bx.length c2), G2.eqv (.int .i64 (k : Int)), G2.eqv (.pointer (some ⟨g1, o1 + k * 2, none⟩)), G2.eqv (.pointer (some ⟨g1, o1 + k * 2 + 1, none⟩)), G2.eqv (.int .i64 h1), G2.eqv (.slice (some ⟨g2, o2, none⟩) box.length cx), G2.eqv (.int .i64 (k : Int)), G2.eqv (.pointer (some ⟨g2, o2 + k * 2, none⟩)), G2.eqv (.pointer (some ⟨g2, o2 + k * 2 + 1, none⟩)), G2.eqv (.int .i64 h2), G2.eqv (.bool false)]) (by kernel_rfl) (by kernel_rfl) rfl (fun x => Kp.refl x) (fun _ _ _ h k => h.trans k) (Kp.refl _).drew (fun _ _ _ _ _ h => h) (G2.pvL_keep (G2.stabL_cons (G2.stab_eq _) (G2.stabL_cons (G2.stab_eq _) (G2.stabL_cons (G2.stab_eq _) (G2.stabL_cons (G2.stab_eq _) (G2.stabL_cons (G2.stab_eq _) (G2.stabL_cons (G2.stab_eq _) (G2.stabL_cons (G2.stab_eq _) (G2.stabL_cons (G2.stab_eq _) (G2.stabL_cons (G2.stab_eq _) (G2.stabL_cons (G2.stab_eq _) (G2.stabL_cons (G2.stab_eq _) (G2.stabL_cons (G2.stab_eq _) (G2.stabL_cons (G2.stab_eq _) (G2.stabL_cons (G2.stab_eq _) (G2.stabL_cons (G2.stab_eq _) (G2.stabL_cons (G2.stab_eq _) (G2.stabL_cons (G2.stab_eq _) (G2.stabL_cons (G2.stab_eq _) (G2.stabL_cons (G2.stab_eq _) (G2.stabL_cons (G2.stab_eq _) (G2.stabL_cons (G2.stab_eq _) (G2.stabL_cons (G2.stab_eq _) (G2.stabL_cons (G2.stab_eq _) (G2.stabL_nil))))))))))))))))))))))))) (G2.stepsT_cons 0 ?_ (G2.stepsT_cons 1 ?_ (G2.stepsT_cons 2 ?_ (G2.stepsT_cons 3 ?_ (G2.stepsT_cons 4 ?_ (G2.stepsT_cons 5 ?_ (G2.stepsT_cons 6 ?_ (G2.stepsT_cons 7 ?_ (G2.stepsT_cons 8 ?_ (G2.stepsT_cons 9 ?_ (G2.stepsT_cons 10 ?_ (G2.stepsT_cons 11 ?_ (G2.stepsT_cons 12 ?_ (G2.stepsT_cons 13 ?_ (G2.stepsT_cons 14 ?_ (G2.stepsT_cons 15 ?_ (G2.stepsT_cons 16 ?_ (G2.stepsT_cons 17 ?_ (G2.stepsT_cons 18 ?_ (G2.stepsT_cons 19 ?_ (G2.stepsT_cons 20 ?_ (G2.stepsT_cons 21 ?_ (G2.stepsT_cons 22 ?_ (G2.stepsT_nil _ _ _)))))))))))))))))))))))) ?_ ?_
                      · intro a w' hk hF hD K hK
                        have h6 : a.tmps[6]?.getD undef = .slice (some ⟨g1, o1, none⟩) bx.length c2 := hF 6 (by kernel_rfl)
                        clear hF hD
                        go_simp
                        exact hK.out _ _ (Kp.refl _) rfl
                      · intro a w' hk hF hD K hK
                        have h13 : a.tmps[13]?.getD undef = .int .i64 (k : Int) := hF 13 (by kernel_rfl)
                        clear hF hD
                        go_simp
                        exact hK.out _ _ (Kp.refl _) rfl
                      · intro a w' hk hF hD K hK
                        have h108 : a.tmps[108]?.getD undef = .slice (some ⟨g1, o1, none⟩) bx.length c2 := hD 0 (by kernel_rfl)
                        have h109 : a.tmps[109]?.getD undef = .int .i64 (k : Int) := hD 1 (by kernel_rfl)
                        clear hF hD
                        go_simp
                        exact hK.out _ _ (Kp.refl _) rfl
                      · intro a w' hk hF hD K hK
                        have h110 : a.tmps[110]?.getD undef = .pointer (some ⟨g1, o1 + k * 2, none⟩) := hD 2 (by kernel_rfl)
                        clear hF hD
                        go_simp
                        exact hK.out _ _ (Kp.refl _) rfl
                      · intro a w' hk hF hD K hK
                        have h111 : a.tmps[111]?.getD undef = .pointer (some ⟨g1, o1 + k * 2, none⟩) := hD 3 (by kernel_rfl)
                        clear hF hD
                        have z0 := hk.cellS a1
                        go_simp
                        exact hK.out _ _ (Kp.refl _) rfl
                      · intro a w' hk hF hD K hK
                        have h1 : a.tmps[1]?.getD undef = .slice (some ⟨g2, o2, none⟩) box.length cx := hF 1 (by kernel_rfl)
                        clear hF hD
                        go_simp
                        exact hK.out _ _ (Kp.refl _) rfl
                      · intro a w' hk hF hD K hK
                        have h13 : a.tmps[13]?.getD undef = .int .i64 (k : Int) := hF 13 (by kernel_rfl)
                        clear hF hD
                        go_simp
                        exact hK.out _ _ (Kp.refl _) rfl
                      · intro a w' hk hF hD K hK
                        have h113 : a.tmps[113]?.getD undef = .slice (some ⟨g2, o2, none⟩) box.length cx := hD 5 (by kernel_rfl)
                        have h114 : a.tmps[114]?.getD undef = .int .i64 (k : Int) := hD 6 (by kernel_rfl)
                        clear hF hD
                        go_simp
                        exact hK.out _ _ (Kp.refl _) rfl
                      · intro a w' hk hF hD K hK
                        have h115 : a.tmps[115]?.getD undef = .pointer (some ⟨g2, o2 + k * 2, none⟩) := hD 7 (by kernel_rfl)
                        clear hF hD
                        go_simp
                        exact hK.out _ _ (Kp.refl _) rfl
                      · intro a w' hk hF hD K hK
                        have h116 : a.tmps[116]?.getD undef = .pointer (some ⟨g2, o2 + k * 2, none⟩) := hD 8 (by kernel_rfl)
                        clear hF hD
                        have z0 := hk.cellS b1
                        go_simp
                        exact hK.out _ _ (Kp.refl _) rfl
                      · intro a w' hk hF hD K hK
                        have h112 : a.tmps[112]?.getD undef = .int .i64 l1 := hD 4 (by kernel_rfl)
                        have h117 : a.tmps[117]?.getD undef = .int .i64 l2 := hD 9 (by kernel_rfl)
                        clear hF hD
                        go_simp
                        exact hK.out _ _ (Kp.refl _) rfl
                      · intro a w' hk hF hD K hK
                        have h118 : a.tmps[118]?.getD undef = .bool false := hD 10 (by kernel_rfl)
                        clear hF hD
                        go_simp
                        exact hK.out _ _ (Kp.refl _) rfl
                      · intro a w' hk hF hD K hK
                        have h6 : a.tmps[6]?.getD undef = .slice (some ⟨g1, o1, none⟩) bx.length c2 := hF 6 (by kernel_rfl)
                        have h119 : a.tmps[119]?.getD undef = .bool false := hD 11 (by kernel_rfl)
                        have g119 := guard_get h119
                        clear hF hD
                        go_simp
                        exact hK.out _ _ (Kp.refl _) rfl
                      · intro a w' hk hF hD K hK
                        have h13 : a.tmps[13]?.getD undef = .int .i64 (k : Int) := hF 13 (by kernel_rfl)
                        have h119 : a.tmps[119]?.getD undef = .bool false := hD 11 (by kernel_rfl)
                        have g119 := guard_get h119
                        clear hF hD
                        go_simp
                        exact hK.out _ _ (Kp.refl _) rfl
                      · intro a w' hk hF hD K hK
                        have h120 : a.tmps[120]?.getD undef = .slice (some ⟨g1, o1, none⟩) bx.length c2 := hD 12 (by kernel_rfl)
                        have h121 : a.tmps[121]?.getD undef = .int .i64 (k : Int) := hD 13 (by kernel_rfl)
                        have h119 : a.tmps[119]?.getD undef = .bool false := hD 11 (by kernel_rfl)
                        have g119 := guard_get h119
                        clear hF hD
                        go_simp
                        exact hK.out _ _ (Kp.refl _) rfl
                      · intro a w' hk hF hD K hK
                        have h122 : a.tmps[122]?.getD undef = .pointer (some ⟨g1, o1 + k * 2, none⟩) := hD 14 (by kernel_rfl)
                        have h119 : a.tmps[119]?.getD undef = .bool false := hD 11 (by kernel_rfl)
                        have g119 := guard_get h119
                        clear hF hD
                        go_simp
                        exact hK.out _ _ (Kp.refl _) rfl
                      · intro a w' hk hF hD K hK
                        have h123 : a.tmps[123]?.getD undef = .pointer (some ⟨g1, o1 + k * 2 + 1, none⟩) := hD 15 (by kernel_rfl)
                        have h119 : a.tmps[119]?.getD undef = .bool false := hD 11 (by kernel_rfl)
                        have g119 := guard_get h119
                        clear hF hD
                        have z0 := hk.cellS a2
                        go_simp
                        exact hK.out _ _ (Kp.refl _) rfl
                      · intro a w' hk hF hD K hK
                        have h1 : a.tmps[1]?.getD undef = .slice (some ⟨g2, o2, none⟩) box.length cx := hF 1 (by kernel_rfl)
                        have h119 : a.tmps[119]?.getD undef = .bool false := hD 11 (by kernel_rfl)
                        have g119 := guard_get h119
                        clear hF hD
                        go_simp
                        exact hK.out _ _ (Kp.refl _) rfl
                      · intro a w' hk hF hD K hK
                        have h13 : a.tmps[13]?.getD undef = .int .i64 (k : Int) := hF 13 (by kernel_rfl)
                        have h119 : a.tmps[119]?.getD undef = .bool false := hD 11 (by kernel_rfl)
                        have g119 := guard_get h119
                        clear hF hD
                        go_simp
                        exact hK.out _ _ (Kp.refl _) rfl
                      · intro a w' hk hF hD K hK
                        have h125 : a.tmps[125]?.getD undef = .slice (some ⟨g2, o2, none⟩) box.length cx := hD 17 (by kernel_rfl)
                        have h126 : a.tmps[126]?.getD undef = .int .i64 (k : Int) := hD 18 (by kernel_rfl)
                        have h119 : a.tmps[119]?.getD undef = .bool false := hD 11 (by kernel_rfl)
                        have g119 := guard_get h119
                        clear hF hD
                        go_simp
                        exact hK.out _ _ (Kp.refl _) rfl
                      · intro a w' hk hF hD K hK
                        have h127 : a.tmps[127]?.getD undef = .pointer (some ⟨g2, o2 + k * 2, none⟩) := hD 19 (by kernel_rfl)
                        have h119 : a.tmps[119]?.getD undef = .bool false := hD 11 (by kernel_rfl)
                        have g119 := guard_get h119
                        clear hF hD
                        go_simp
                        exact hK.out _ _ (Kp.refl _) rfl
                      · intro a w' hk hF hD K hK
                        have h128 : a.tmps[128]?.getD undef = .pointer (some ⟨g2, o2 + k * 2 + 1, none⟩) := hD 20 (by kernel_rfl)
                        have h119 : a.tmps[119]?.getD undef = .bool false := hD 11 (by kernel_rfl)
                        have g119 := guard_get h119
                        clear hF hD
                        have z0 := hk.cellS b2
                        go_simp
                        exact hK.out _ _ (Kp.refl _) rfl
                      · intro a w' hk hF hD K hK
                        have h124 : a.tmps[124]?.getD undef = .int .i64 h1 := hD 16 (by kernel_rfl)
                        have h129 : a.tmps[129]?.getD undef = .int .i64 h2 := hD 21 (by kernel_rfl)
                        have h119 : a.tmps[119]?.getD undef = .bool false := hD 11 (by kernel_rfl)
                        have g119 := guard_get h119
                        clear hF hD
                        go_simp
                        exact hK.out _ _ (Kp.refl _) rfl
                      · exact fun i0 hi0 => by simp at hi0
                      intro v w9 k9 hv
                      have v11 : v 11 = .bool false := hv 11 (by omega)
                      have v22 : v 22 = .bool false := hv 22 (by omega)
                      clear hv
                      simp only [G2.growPut, G2.gSlot, List.getElem?_toArray, List.getElem?_cons_zero, List.getElem?_cons_succ, Option.bind_some, List.setIfInBounds_toArray, List.set_cons_zero, List.set_cons_succ, List.drop_succ_cons, List.drop_zero, v11, v22]
                      clear a1 a2 b1 b2
                      go_wp2_with fail
                      go_roundw
                      case rel => exact ⟨k + 1, by omega, by go_num, kr.trans k9⟩
                      case measure => simp [intOf]; omega
                    · have hkn : ¬ (k : Int) < (bx.length : Int) := by omega
                      replace B := B.keep kr
                      replace K := krw
                      obtain ⟨s0, s1, s2, s3⟩ := B.cells
                      have hgl := block_lt_of_cell s0
                      go_wp2_with fail
                      refine (rLeast_any _ box _ (hbx.keep (pl_stable _) K) (by omega)).mono ?_
                      rintro e w9 ⟨v9, rfl, own9, k9⟩
                      clear s0 s1 s2 s3 hgl
                      replace B := B.keep k9
                      replace K := K.trans k9
                      obtain ⟨s0, s1, s2, s3⟩ := B.cells
                      have hgl := block_lt_of_cell s0
                      obtain ⟨tl, htl⟩ := allS_head box (wide_of hE.out)
                      have hi9 := own9.sl encInt_len
                      generalize box.map (·.lo) = M at *
                      obtain ⟨A9, c9, rfl, _, _⟩ := hi9.form
                      have HT := hid htl
                      have hi9' := hid hi9
                      have hVn := validS_parts hV.out
                      have hrn : s.rows.length ≤ 1024 ∧ s.graphs.length ≤ 64 := ⟨hVn.2.2.1.1, hVn.2.2.2.1⟩
                      clear htl own9 hi9 hVn hkn hk
                      go_wp2_with fail
                      clear s0 s1 s2 s3 hgl
                      go_loopg [14, 15] ((allS box).length + 1) (fun gk vv mo wr => ∃ pre : List (List Int), Kp w9 wr ∧ ((mo = .bool true ∧ ∃ (L : List Int) (rest : List (List Int)) (AL : Option Addr) (cL : Nat), vv = .slice AL L.length cL ∧ Hid (allS box = pre ++ L :: rest) ∧ rest.length < gk ∧ Hid (Ints wr (.slice AL L.length cL) L)) ∨ mo = .bool false))
                      case atStart => exact ⟨[], Kp.refl _, .inl ⟨rfl, M, tl, A9, c9, rfl, HT, by rw [HT.out]; simp; omega, hi9'⟩⟩
                      case round =>
                        obtain ⟨pre, kr2, ⟨rfl, L, rest, AL, cL, rfl, HL, hgk, hI⟩ | rfl⟩ := hrel
                        · have hin : containsB box L = true := (inB_iff _ _).1 ((allS_mem box L).1 (by rw [HL.out]; simp))
                          have HX := hid (next_all hB.out hE.out HL.out)
                          have hfl := fit_in hV.out hL.out hB.out hin
                          have hkp := HP.out.keep L hin
                          have HAL2 : Hid (∀ r, rest = r → allS box = (pre ++ [L]) ++ r) := hid (fun r hr => by rw [HL.out, ← hr]; simp)
                          have hn1 := idxsF_len (badR L) 0 s.rows
                          have hn2 := idxsF_len (badG L) 0 s.graphs
                          have hd1 := idxsF_nil (badR L) 0 s.rows
                          have hd2 := idxsF_nil (badG L) 0 s.graphs
                          have K2 := K.trans kr2
                          have B2 := B.keep kr2
                          obtain ⟨s0, s1, s2, s3⟩ := B2.cells
                          have hgl := block_lt_of_cell s0
                          have hkp2 : (idxsF (badR L) 0 s.rows).length = 0 ∧ (idxsF (badG L) 0 s.graphs).length = 0 → o = true ∧ containsB bx L = true := fun h => hkp (fun r hr => by
                            rw [h.1] at hd1
                            have := List.any_eq_false.1 hd1.symm r hr
                            simpa using this) (fun g hg => by
                            rw [h.2] at hd2
                            have := List.any_eq_false.1 hd2.symm g hg
                            simpa using this)
                          replace hfl := hid hfl
                          replace hkp2 := hid hkp2
                          clear hkp hd1 hd2 hin HL
                          go_wp2_with fail
                          refine (qFails_any _ _ s L _ (hs.keep K2) hI.out hfl.out.1 hfl.out.2).mono ?_
                          rintro e w10 ⟨v1, v2, rfl, h1, h2, k10⟩
                          obtain ⟨A10, c10, rfl, _, _⟩ := h1.form
                          obtain ⟨A11, c11, rfl, _, _⟩ := h2.form
                          generalize (idxsF (badR L) 0 s.rows).length = n1 at *
                          generalize (idxsF (badG L) 0 s.graphs).length = n2 at *
                          have HW : Hid (wrap64 ((n1 : Int) + (n2 : Int)) = (n1 : Int) + (n2 : Int)) := hid (IntWalk.wrap64_in _ (by omega))
                          have kr3 := kr2.trans k10
                          have K3 := K2.trans k10
                          have hI3 := hid (hI.out.keep (pl_stable _) k10)
                          clear h1 h2 s0 s1 s2 s3 hgl B2 hI hfl K2
                          by_cases hz : n1 = 0 ∧ n2 = 0
                          · obtain ⟨rfl, hcb⟩ := hkp2.out hz
                            obtain ⟨rfl, rfl⟩ := hz
                            have hw1 := HW.out
                            clear hkp2 HW
                            go_wp2_with fail
                            clear hw1
                            refine (rContains_any _ _ bx L _ (HB2.out.keep (pl_stable _) (kr.trans (k9.trans kr3))) hI3.out).mono ?_
                            rintro e w11 ⟨rfl, k11⟩
                            rw [hcb]
                            have K4 := K3.trans k11
                            have kr4 := kr3.trans k11
                            have hI4 := hid (hI3.out.keep (pl_stable _) k11)
                            go_wp2_with fail
                            refine (rNext_any _ _ box L _ (hbx.keep (pl_stable _) K4) hI4.out).mono ?_
                            rw [HX.out]
                            rintro e w12 ⟨v12, rfl, own12, k12⟩
                            have hi12 := own12.sl encInt_len
                            have kr5 := kr4.trans k12
                            clear own12 K4 kr4 hI4 HX K3 kr3 hI3
                            cases rest with
                            | nil =>
                              dsimp only [List.head?_nil, Option.getD_none, List.length_nil, Option.isSome_none] at *
                              obtain ⟨A12, c12, rfl, _, _⟩ := hi12.form
                              clear hi12
                              go_wp2_with fail
                              go_roundg 0
                              case measure => omega
                              case rel => exact ⟨pre ++ [L], kr5, .inr rfl⟩
                            | cons L2 rest =>
                              dsimp only [List.head?_cons, Option.getD_some, Option.isSome_some] at *
                              have HAL3 : Hid (allS box = (pre ++ [L]) ++ L2 :: rest) := hid (HAL2.out _ rfl)
                              obtain ⟨A12, c12, rfl, _, _⟩ := hi12.form
                              replace hi12 := hid hi12
                              go_wp2_with fail
                              go_roundg (rest.length + 1)
                              case measure => simp at hgk; omega
                              case rel => exact ⟨pre ++ [L], kr5, .inl ⟨rfl, L2, rest, A12, c12, rfl, HAL3, by omega, hi12⟩⟩
                          · have e6 : ((n1 : Int) + (n2 : Int) == 0) = false := by
                              have : ¬ (n1 : Int) + (n2 : Int) = 0 := fun h => hz ⟨by omega, by omega⟩
                              simpa using this
                            have hb1 : n1 ≤ 1024 := by omega
                            have hb2 : n2 ≤ 64 := by omega
                            replace hz := hid hz
                            clear hkp2 HW hn1 hn2 hrn
                            have K4 := K3
                            have kr4 := kr3
                            have hI4 := hI3
                            go_wp2_with fail
                            clear e6 hb1 hb2
                            refine (rNext_any _ _ box L _ (hbx.keep (pl_stable _) K4) hI4.out).mono ?_
                            rw [HX.out]
                            rintro e w12 ⟨v12, rfl, own12, k12⟩
                            have hi12 := own12.sl encInt_len
                            have kr5 := kr4.trans k12
                            clear own12 K4 kr4 hI4 HX K3 kr3 hI3
                            cases rest with
                            | nil =>
                              dsimp only [List.head?_nil, Option.getD_none, List.length_nil, Option.isSome_none] at *
                              obtain ⟨A12, c12, rfl, _, _⟩ := hi12.form
                              clear hi12
                              go_wp2_with fail
                              go_roundg 0
                              case measure => omega
                              case rel => exact ⟨pre ++ [L], kr5, .inr rfl⟩
                            | cons L2 rest =>
                              dsimp only [List.head?_cons, Option.getD_some, Option.isSome_some] at *
                              have HAL3 : Hid (allS box = (pre ++ [L]) ++ L2 :: rest) := hid (HAL2.out _ rfl)
                              obtain ⟨A12, c12, rfl, _, _⟩ := hi12.form
                              replace hi12 := hid hi12
                              go_wp2_with fail
                              go_roundg (rest.length + 1)
                              case measure => simp at hgk; omega
                              case rel => exact ⟨pre ++ [L], kr5, .inl ⟨rfl, L2, rest, A12, c12, rfl, HAL3, by omega, hi12⟩⟩
                        · go_wp2
                          go_ret
                          exact ⟨rfl, K.trans kr2⟩
      · have e1 : ((box.length : Int) != (s.box.length : Int)) = true := by simpa using fun h => hL (Int.ofNat.inj h)
        have e1' : (box.length != s.box.length) = true := by simpa using hL
        replace hL := hid hL
        go_wp2
        go_ret
        exact ⟨rfl, K⟩
theorem own : ownKnob Try.prog.godebug = none := by kernel_rfl
theorem laidOut : laidOutB Try.prog = true := by kernel_rfl
set_option maxRecDepth 100000 in
theorem lifted (os : Os) (started : os.Started) (H : Type) (enc : TypeId × Value → H) :
    ReturnsInHanded {} Try.checked os 6 .any (Rows.searchKeepsSpec.pre6 enc Try.prog Try.f6 Rows.searchKeepsRow.domain false) (Rows.searchKeepsSpec.post enc Try.prog Try.f6 false true false false) := by
  refine returnsInHanded_of_change (C := Try.checked) own started (by kernel_rfl) Try.func6
    (ChangeSpec.witness6 (enc := enc) (C := Try.checked) false ⟨#[], #[.agg #[.slice none 0 0, .slice none 0 0, .slice none 0 0, .slice none 0 0], .slice none 0 0], []⟩ 8 (by kernel_rfl) (by kernel_rfl) (by kernel_rfl) (by kernel_rfl)) ?_
  intro W base args ds gs before hval0 hW hcnd _
  have hval : ∀ (j : Nat) t v, Try.f6.params[j]? = some t → args[j]? = some v → Value.okWide Try.prog W .any base t v := hval0
  have hW' := hW
  obtain ⟨p, q, hA0, hV, rfl, hfz, hnd⟩ := hW
  have hA : DataW.TrodAll enc Try.prog W 0 (fun _ => true) true Try.f6.params.toList args.toList ds p := hA0
  rw [Try.params6] at hA hval
  obtain ⟨v0, vs0, d0, ds0, p0, q0, hargs, rfl, rfl, h0, r0⟩ := trodAll_cons hA
  obtain ⟨v1, vs1, d1, ds1, p1, q1, rfl, rfl, rfl, h1, r1⟩ := trodAll_cons r0
  obtain ⟨rfl, rfl, rfl⟩ := trodAll_nil r1
  obtain rfl : args = #[v0, v1] := by cases args; simp_all
  obtain ⟨rfl, rfl⟩ := trodVars_none hV
  have lt0 : ∀ x ∈ p0, x.block < W.heap.size := by obtain ⟨m, hm⟩ := h0; exact DataW.trod_lt m _ _ _ hm
  have lt1 : ∀ x ∈ p1, x.block < W.heap.size := by obtain ⟨m, hm⟩ := h1; exact DataW.trod_lt m _ _ _ hm
  obtain ⟨s0, hs0⟩ := opSys (hval 0 27 v0 rfl rfl) h0
  obtain ⟨a1, len1, cap1, rfl⟩ := okWide_slice Try.underlying22 (hval 1 22 v1 rfl rfl)
  obtain ⟨n1, hn1⟩ := trod_slice_value h1
  obtain ⟨x1, hx1⟩ := opRngs hn1
  clear hA0 hval0
  refine (walk _ _ s0 x1 W hs0 hx1).mono fun e W' ⟨he, bel⟩ => ?_
  subst he
  exact ⟨_, rfl, _, _, _, [], _, [], hW', trodAll_mk1 (shut_bool Try.underlying4 _), (trodAll_cons_mk (Below.trod laidOut (by kernel_rfl) (of_decide_eq_true (by kernel_rfl)) h0 bel lt0) (trodAll_cons_mk (Below.trod laidOut (by kernel_rfl) (of_decide_eq_true (by kernel_rfl)) h1 bel lt1) trodAll_mk0)), rfl, Below.frame bel _, fun h => by cases h⟩
theorem over : Rows.searchKeepsRow.holds Try.pinned (OpenSpec.ofChange Rows.searchKeepsSpec) :=
  OpenClaim.holds_of_wide 6 Try.f6 rfl rfl rfl rfl rfl rfl rfl ⟨rfl, rfl, rfl, rfl, rfl⟩ rfl rfl rfl rfl rfl (by kernel_rfl) Try.func6 (by kernel_rfl)
    (of_decide_eq_true (by kernel_rfl)) (by unfold Func.isWrapper; first | (rw [if_pos (by decide +kernel)]; kernel_rfl) | (rw [if_neg (by decide +kernel)]; exact ⟨rfl, rfl⟩))
    (fun os started H enc _ => lifted os started H enc)
theorem proved : Rows.SearchKeepsSaid := over
end Go.Proofs.Ytlbhidiliogflaa.lawKeeps20
