
/-
The reference's first case, and whether values are a solution: the walks.
-/
import Derived.Test.YtfllmnaillilhaaRefS14
namespace Go.Proofs.Ytfllmnaillilhaa
set_option linter.unusedSimpArgs false
set_option linter.unusedVariables false
open Go.RowKit

set_option maxRecDepth 8000 in
set_option maxHeartbeats 1600000 in
theorem qCase_any (va vv : Value) (s : Sys) (vs : List Int) (w : World) (hs : SysV w va s) (hv : Ints w vv vs) (hF : FitV s vs) (hR : lookedB s vs = true) :
    Calls Try.prog 98 #[va, vv] w fun e w' => e = .returned (altR (idxF (goodC vs) 0 s.cases)) ∧ Kp w w' := by
  have hs' := hs
  obtain ⟨Ab, cb, Ar, cr, Ag, cg, Ac, cc, rfl, hb, hr, hg, hc⟩ := hs'
  obtain ⟨l1, m1⟩ := hb.caps
  obtain ⟨l2, m2⟩ := hr.caps
  obtain ⟨l3, m3⟩ := hg.caps
  obtain ⟨l4, m4⟩ := hc.caps
  obtain ⟨A', c', rfl, hc', hm'⟩ := hv.form
  have HRR := hid hR
  have hn3 := hF.ncases
  clear hR
  have k0 := (Kp.refl w).alloc (.cells #[.slice Ab s.box.length cb, .slice Ar s.rows.length cr, .slice Ag s.graphs.length cg, .slice Ac s.cases.length cc] 27)
  have B0 := SysB.new w #[.slice Ab s.box.length cb, .slice Ar s.rows.length cr, .slice Ag s.graphs.length cg, .slice Ac s.cases.length cc] 27
  have z0 := alloc_lt w (.cells #[.slice Ab s.box.length cb, .slice Ar s.rows.length cr, .slice Ag s.graphs.length cg, .slice Ac s.cases.length cc] 27)
  go_enter Try.func98, Try.ntmps98
  go_wp2_with fail
  try rw [← World.size_alloc w (.cells #[.slice Ab s.box.length cb, .slice Ar s.rows.length cr, .slice Ag s.graphs.length cg, .slice Ac s.cases.length cc] 27)]
  generalize w.alloc (.cells #[.slice Ab s.box.length cb, .slice Ar s.rows.length cr, .slice Ag s.graphs.length cg, .slice Ac s.cases.length cc] 27) = w0 at *
  generalize w.heap.size = b0 at *
  refine (qRight_any _ _ s vs _ (hs.keep k0) (hv.keep (pl_stable _) k0)).mono ?_
  rw [HRR.out]
  rintro e w1 ⟨rfl, k1⟩
  replace B0 := B0.keep k1
  replace k1 := k0.trans k1
  obtain ⟨c0, c1, c2, c3⟩ := B0.cells
  have hgl := block_lt_of_cell c0
  clear k0 HRR
  go_wp2
  clear hgl
  go_loopw [6] (fun i wr => ∃ k : Nat, k ≤ s.cases.length ∧ i = .int .i64 k ∧ Hid (idxF (goodC vs) 0 s.cases = idxF (goodC vs) k (s.cases.drop k)) ∧ Kp w1 wr) (fun i _ => s.cases.length - (intOf i).toNat)
  case atStart => exact ⟨0, Nat.zero_le _, rfl, rfl, Kp.refl _⟩
  case round =>
    obtain ⟨k, hk, rfl, HL, hkr⟩ := hrel
    have kk := k1.trans hkr
    have d3 := hkr.cellS c3
    have hgl := block_lt_of_cell d3
    by_cases hlt : k < s.cases.length
    · obtain ⟨b, o, A2, ca2, rfl, hb2, h1, hT⟩ := (hc.keep rdRows_stable kk).rowsAt hlt
      have HD := hid (List.drop_eq_getElem_cons hlt)
      have HOK := hid (hF.cases s.cases[k] (List.getElem_mem hlt))
      have hv1 := hv.keep (pl_stable _) kk
      clear hb hr hg hc c0 c1 c2 c3
      generalize s.cases[k] = l at *
      have hkl : (k : Int) < s.cases.length := by omega
      obtain ⟨wo, rfl⟩ : ∃ wo : World, wo = wr := ⟨_, rfl⟩
      have hb1 := block_lt_of_cell h1
      obtain ⟨hcl, hml⟩ := hT.caps
      go_wp2
      go_loopw [7, 8] (fun v i wr => ∃ j : Nat, j ≤ l.length ∧ i = .int .i64 j ∧ v = .bool (!(l.take j).any (badR vs)) ∧ Kp wo wr) (fun _ i _ => l.length - (intOf i).toNat)
      case atStart => exact ⟨0, Nat.zero_le _, rfl, rfl, Kp.refl _⟩
      case round =>
        obtain ⟨j, hj, rfl, rfl, hkj⟩ := hrel
        have e3 := hkj.cellS d3
        have e1 := hkj.cellS h1
        have hgl2 := block_lt_of_cell e3
        have hgl3 := block_lt_of_cell e1
        by_cases hjl : j < l.length
        · obtain ⟨b2, o2, A4, c4, rfl, hb4, g1, g2, hT4⟩ := (hT.keep rdRow_stable hkj).row hjl
          have hmem := List.getElem_mem hjl
          obtain ⟨hok, hl128⟩ := HOK.out l[j] hmem
          have HA : Hid ((l.take (j + 1)).any (badR vs) = ((l.take j).any (badR vs) || badR vs l[j])) := hid (by rw [List.take_succ_eq_append_getElem hjl, List.any_append]; simp)
          generalize l[j] = r at *
          obtain ⟨ts, bd⟩ := r
          dsimp only at g1 g2 hT4 hok hl128
          have HO := hid hok
          rw [holds_badR vs ts bd] at HA
          have hv2 := hv1.keep (pl_stable _) hkj
          have hjq : (j : Int) < l.length := by omega
          generalize (l.take j).any (badR vs) = q at *
          clear hok hmem d3 h1 hb1
          go_wp2
          refine G2.wp_region_growG Kp [] 19 52 (G2.pvL [G2.eqv (.pointer (some ⟨b0, 3, none⟩)), G2.eqv (.slice (some ⟨b, o, none⟩) s.cases.length cc), G2.eqv (.int .i64 (k : Int)), G2.eqv (.pointer (some ⟨b, o + k, none⟩)), G2.eqv (.slice (some ⟨b2, o2, none⟩) l.length ca2), G2.eqv (.int .i64 (j : Int)), G2.eqv (.pointer (some ⟨b2, o2 + j * 2, none⟩)), G2.eqv (.agg #[.slice A4 ts.length c4, .int .i64 bd]), G2.eqv (.slice A' vs.length c'), G2.eqv (.int .i64 (valueL vs 0 ts)), G2.eqv (.pointer (some ⟨b0, 3, none⟩)), G2.eqv (.slice (some ⟨b, o, none⟩) s.cases.length cc), G2.eqv (.int .i64 (k : Int)), G2.eqv (.pointer (some ⟨b, o + k, none⟩)), G2.eqv (.slice (some ⟨b2, o2, none⟩) l.length ca2), G2.eqv (.int .i64 (j : Int)), G2.eqv (.pointer (some ⟨b2, o2 + j * 2, none⟩)), G2.eqv (.pointer (some ⟨b2, o2 + j * 2 + 1, none⟩)), G2.eqv (.int .i64 bd)]) (by kernel_rfl) (by kernel_rfl) rfl (fun x => Kp.refl x) (fun _ _ _ h k => h.trans k) (Kp.refl _).drew (fun _ _ _ _ _ h => h) (G2.pvL_keep (G2.stabL_cons (G2.stab_eq _) (G2.stabL_cons (G2.stab_eq _) (G2.stabL_cons (G2.stab_eq _) (G2.stabL_cons (G2.stab_eq _) (G2.stabL_cons (G2.stab_eq _) (G2.stabL_cons (G2.stab_eq _) (G2.stabL_cons (G2.stab_eq _) (G2.stabL_cons (G2.stab_eq _) (G2.stabL_cons (G2.stab_eq _) (G2.stabL_cons (G2.stab_eq _) (G2.stabL_cons (G2.stab_eq _) (G2.stabL_cons (G2.stab_eq _) (G2.stabL_cons (G2.stab_eq _) (G2.stabL_cons (G2.stab_eq _) (G2.stabL_cons (G2.stab_eq _) (G2.stabL_cons (G2.stab_eq _) (G2.stabL_cons (G2.stab_eq _) (G2.stabL_cons (G2.stab_eq _) (G2.stabL_cons (G2.stab_eq _) (G2.stabL_nil))))))))))))))))))))) ?_ ?_ ?_
          · intro i0 hi0
            have hi' : i0 = 0 ∨ i0 = 1 ∨ i0 = 2 ∨ i0 = 3 ∨ i0 = 4 ∨ i0 = 5 ∨ i0 = 6 ∨ i0 = 7 ∨ i0 = 8 ∨ i0 = 9 ∨ i0 = 10 ∨ i0 = 11 ∨ i0 = 12 ∨ i0 = 13 ∨ i0 = 14 ∨ i0 = 15 ∨ i0 = 16 ∨ i0 = 17 ∨ i0 = 18 := by omega
            rcases hi' with rfl | rfl | rfl | rfl | rfl | rfl | rfl | rfl | rfl | rfl | rfl | rfl | rfl | rfl | rfl | rfl | rfl | rfl | rfl
            · intro a w' hk hF hD K hK
              simp only [List.getElem?_toArray, List.getElem?_cons_zero, List.getElem?_cons_succ, Option.map_some, Option.getD_some]
              have h2 : a.tmps[2]?.getD undef = .pointer (some ⟨b0, 0, none⟩) := hF 2 (by kernel_rfl)
              clear hF hD
              go_simp
              exact hK.out _ _ (Kp.refl _) rfl
            · intro a w' hk hF hD K hK
              simp only [List.getElem?_toArray, List.getElem?_cons_zero, List.getElem?_cons_succ, Option.map_some, Option.getD_some]
              have h30 : a.tmps[30]?.getD undef = .pointer (some ⟨b0, 3, none⟩) := hD 0 (by kernel_rfl)
              clear hF hD
              have z1 := hk.cellS e3
              go_simp
              exact hK.out _ _ (Kp.refl _) rfl
            · intro a w' hk hF hD K hK
              simp only [List.getElem?_toArray, List.getElem?_cons_zero, List.getElem?_cons_succ, Option.map_some, Option.getD_some]
              have h6 : a.tmps[6]?.getD undef = .int .i64 (k : Int) := hF 6 (by kernel_rfl)
              clear hF hD
              go_simp
              exact hK.out _ _ (Kp.refl _) rfl
            · intro a w' hk hF hD K hK
              simp only [List.getElem?_toArray, List.getElem?_cons_zero, List.getElem?_cons_succ, Option.map_some, Option.getD_some]
              have h31 : a.tmps[31]?.getD undef = .slice (some ⟨b, o, none⟩) s.cases.length cc := hD 1 (by kernel_rfl)
              have h32 : a.tmps[32]?.getD undef = .int .i64 (k : Int) := hD 2 (by kernel_rfl)
              clear hF hD
              go_simp
              exact hK.out _ _ (Kp.refl _) rfl
            · intro a w' hk hF hD K hK
              simp only [List.getElem?_toArray, List.getElem?_cons_zero, List.getElem?_cons_succ, Option.map_some, Option.getD_some]
              have h33 : a.tmps[33]?.getD undef = .pointer (some ⟨b, o + k, none⟩) := hD 3 (by kernel_rfl)
              clear hF hD
              have z1 := hk.cellS e1
              go_simp
              exact hK.out _ _ (Kp.refl _) rfl
            · intro a w' hk hF hD K hK
              simp only [List.getElem?_toArray, List.getElem?_cons_zero, List.getElem?_cons_succ, Option.map_some, Option.getD_some]
              have h8 : a.tmps[8]?.getD undef = .int .i64 (j : Int) := hF 8 (by kernel_rfl)
              clear hF hD
              go_simp
              exact hK.out _ _ (Kp.refl _) rfl
            · intro a w' hk hF hD K hK
              simp only [List.getElem?_toArray, List.getElem?_cons_zero, List.getElem?_cons_succ, Option.map_some, Option.getD_some]
              have h34 : a.tmps[34]?.getD undef = .slice (some ⟨b2, o2, none⟩) l.length ca2 := hD 4 (by kernel_rfl)
              have h35 : a.tmps[35]?.getD undef = .int .i64 (j : Int) := hD 5 (by kernel_rfl)
              clear hF hD
              go_simp
              exact hK.out _ _ (Kp.refl _) rfl
            · intro a w' hk hF hD K hK
              simp only [List.getElem?_toArray, List.getElem?_cons_zero, List.getElem?_cons_succ, Option.map_some, Option.getD_some]
              have h36 : a.tmps[36]?.getD undef = .pointer (some ⟨b2, o2 + j * 2, none⟩) := hD 6 (by kernel_rfl)
              clear hF hD
              have z1 := hk.cellS g1
              have z2 := hk.cellS g2
              go_simp
              exact hK.out _ _ (Kp.refl _) rfl
            · intro a w' hk hF hD K hK
              simp only [List.getElem?_toArray, List.getElem?_cons_zero, List.getElem?_cons_succ, Option.map_some, Option.getD_some]
              have h1 : a.tmps[1]?.getD undef = .slice A' vs.length c' := hF 1 (by kernel_rfl)
              clear hF hD
              go_simp
              exact hK.out _ _ (Kp.refl _) rfl
            · intro a w' hk hF hD K hK
              simp only [List.getElem?_toArray, List.getElem?_cons_zero, List.getElem?_cons_succ, Option.map_some, Option.getD_some]
              have h37 : a.tmps[37]?.getD undef = .agg #[.slice A4 ts.length c4, .int .i64 bd] := hD 7 (by kernel_rfl)
              have h38 : a.tmps[38]?.getD undef = .slice A' vs.length c' := hD 8 (by kernel_rfl)
              clear hF hD
              go_simp
              refine (rValue_any _ _ ts bd vs _ (hT4.keep (pl_stable _) hk) (hv2.keep (pl_stable _) hk) HO.out hF.okv hl128).mono ?_
              rintro e w9 ⟨rfl, hk9⟩
              exact hK.out _ _ hk9 rfl
            · intro a w' hk hF hD K hK
              simp only [List.getElem?_toArray, List.getElem?_cons_zero, List.getElem?_cons_succ, Option.map_some, Option.getD_some]
              have h2 : a.tmps[2]?.getD undef = .pointer (some ⟨b0, 0, none⟩) := hF 2 (by kernel_rfl)
              clear hF hD
              go_simp
              exact hK.out _ _ (Kp.refl _) rfl
            · intro a w' hk hF hD K hK
              simp only [List.getElem?_toArray, List.getElem?_cons_zero, List.getElem?_cons_succ, Option.map_some, Option.getD_some]
              have h40 : a.tmps[40]?.getD undef = .pointer (some ⟨b0, 3, none⟩) := hD 10 (by kernel_rfl)
              clear hF hD
              have z1 := hk.cellS e3
              go_simp
              exact hK.out _ _ (Kp.refl _) rfl
            · intro a w' hk hF hD K hK
              simp only [List.getElem?_toArray, List.getElem?_cons_zero, List.getElem?_cons_succ, Option.map_some, Option.getD_some]
              have h6 : a.tmps[6]?.getD undef = .int .i64 (k : Int) := hF 6 (by kernel_rfl)
              clear hF hD
              go_simp
              exact hK.out _ _ (Kp.refl _) rfl
            · intro a w' hk hF hD K hK
              simp only [List.getElem?_toArray, List.getElem?_cons_zero, List.getElem?_cons_succ, Option.map_some, Option.getD_some]
              have h41 : a.tmps[41]?.getD undef = .slice (some ⟨b, o, none⟩) s.cases.length cc := hD 11 (by kernel_rfl)
              have h42 : a.tmps[42]?.getD undef = .int .i64 (k : Int) := hD 12 (by kernel_rfl)
              clear hF hD
              go_simp
              exact hK.out _ _ (Kp.refl _) rfl
            · intro a w' hk hF hD K hK
              simp only [List.getElem?_toArray, List.getElem?_cons_zero, List.getElem?_cons_succ, Option.map_some, Option.getD_some]
              have h43 : a.tmps[43]?.getD undef = .pointer (some ⟨b, o + k, none⟩) := hD 13 (by kernel_rfl)
              clear hF hD
              have z1 := hk.cellS e1
              go_simp
              exact hK.out _ _ (Kp.refl _) rfl
            · intro a w' hk hF hD K hK
              simp only [List.getElem?_toArray, List.getElem?_cons_zero, List.getElem?_cons_succ, Option.map_some, Option.getD_some]
              have h8 : a.tmps[8]?.getD undef = .int .i64 (j : Int) := hF 8 (by kernel_rfl)
              clear hF hD
              go_simp
              exact hK.out _ _ (Kp.refl _) rfl
            · intro a w' hk hF hD K hK
              simp only [List.getElem?_toArray, List.getElem?_cons_zero, List.getElem?_cons_succ, Option.map_some, Option.getD_some]
              have h44 : a.tmps[44]?.getD undef = .slice (some ⟨b2, o2, none⟩) l.length ca2 := hD 14 (by kernel_rfl)
              have h45 : a.tmps[45]?.getD undef = .int .i64 (j : Int) := hD 15 (by kernel_rfl)
              clear hF hD
              go_simp
              exact hK.out _ _ (Kp.refl _) rfl
            · intro a w' hk hF hD K hK
              simp only [List.getElem?_toArray, List.getElem?_cons_zero, List.getElem?_cons_succ, Option.map_some, Option.getD_some]
              have h46 : a.tmps[46]?.getD undef = .pointer (some ⟨b2, o2 + j * 2, none⟩) := hD 16 (by kernel_rfl)
              clear hF hD
              go_simp
              exact hK.out _ _ (Kp.refl _) rfl
            · intro a w' hk hF hD K hK
              simp only [List.getElem?_toArray, List.getElem?_cons_zero, List.getElem?_cons_succ, Option.map_some, Option.getD_some]
              have h47 : a.tmps[47]?.getD undef = .pointer (some ⟨b2, o2 + j * 2 + 1, none⟩) := hD 17 (by kernel_rfl)
              clear hF hD
              have z1 := hk.cellS g2
              go_simp
              exact hK.out _ _ (Kp.refl _) rfl
          · exact fun i0 hi0 => by simp at hi0
          intro v w9 k9 hv
          have v9 : v 9 = .int .i64 (valueL vs 0 ts) := hv 9 (by omega)
          have v18 : v 18 = .int .i64 bd := hv 18 (by omega)
          clear hv
          simp only [G2.growPut, G2.gSlot, List.getElem?_toArray, List.getElem?_cons_zero, List.getElem?_cons_succ, Option.bind_some, List.setIfInBounds_toArray, List.set_cons_zero, List.set_cons_succ, List.drop_succ_cons, List.drop_zero, v9, v18]
          have k3 := hkj.trans k9
          generalize valueL vs 0 ts = val at *
          clear g1 g2 hT4 e3 e1
          by_cases hh : bd < val
          · have HN : Hid ((l.take (j + 1)).any (badR vs) = true) := hid (by rw [HA.out, decide_eq_true hh]; simp)
            have e1 : decide (bd < val) = true := decide_eq_true hh
            clear hh HA
            go_wp2
            go_roundw
            case rel => exact ⟨j + 1, by omega, by go_num, by rw [HN.out]; rfl, k3⟩
            case measure => simp [intOf]; omega
          · have HN : Hid ((l.take (j + 1)).any (badR vs) = q) := hid (by rw [HA.out, decide_eq_false hh]; simp)
            have e1 : decide (bd < val) = false := decide_eq_false hh
            clear hh HA
            go_wp2
            go_roundw
            case rel => exact ⟨j + 1, by omega, by go_num, by rw [HN.out], k3⟩
            case measure => simp [intOf]; omega
        · have hte : l.take j = l := List.take_of_length_le (by omega)
          rw [hte]
          have g0 : decide ((j : Int) < (l.length : Int)) = false := decide_eq_false (by omega)
          cases hh : l.any (badR vs) with
          | true =>
            have HN : Hid (idxF (goodC vs) 0 s.cases = idxF (goodC vs) (k + 1) (s.cases.drop (k + 1))) := hid (by rw [HL.out, HD.out, idxF, if_neg (by simp [goodC, hh])])
            clear hh hte
            go_wp2
            go_roundw
            case rel => exact ⟨k + 1, by omega, by go_num, HN, hkr.trans hkj⟩
            case measure => simp [intOf]; omega
          | false =>
            have HN : Hid (altR (idxF (goodC vs) 0 s.cases) = .tuple #[.int .i64 (k : Int), .bool true]) := hid (by
              rw [HL.out, HD.out, idxF, if_pos (by simp [goodC, hh])]
              unfold altR
              rw [show max (k : Int) 0 = k by omega, decide_eq_true (by omega)])
            clear hh hte
            go_wp2
            go_ret2
            exact ⟨by rw [HN.out]; rfl, kk.trans hkj⟩
    · have HN : Hid (altR (idxF (goodC vs) 0 s.cases) = .tuple #[.int .i64 0, .bool false]) := hid (by
        rw [HL.out, List.drop_of_length_le (by omega)]
        rfl)
      have g0 : decide ((k : Int) < (s.cases.length : Int)) = false := decide_eq_false (by omega)
      go_wp2
      go_ret2
      exact ⟨by rw [HN.out]; rfl, kk⟩
set_option maxRecDepth 8000 in
set_option maxHeartbeats 1600000 in
theorem qHolds_any (va vv : Value) (s : Sys) (vs : List Int) (w : World) (hs : SysV w va s) (hv : Ints w vv vs) :
    Calls Try.prog 85 #[va, vv] w fun e w' => e = .returned (.bool (holdsS s vs)) ∧ Kp w w' := by
  have hs' := hs
  obtain ⟨Ab, cb, Ar, cr, Ag, cg, Ac, cc, rfl, hb, hr, hg, hc⟩ := hs'
  obtain ⟨l1, m1⟩ := hb.caps
  obtain ⟨l2, m2⟩ := hr.caps
  obtain ⟨l3, m3⟩ := hg.caps
  obtain ⟨l4, m4⟩ := hc.caps
  obtain ⟨A', c', rfl, hc', hm'⟩ := hv.form
  have HF : Hid (holdsS s vs = (validS s && (containsB s.box vs && solvesB s vs))) := hid rfl
  have HSV : Hid (solvesB s vs = ((!s.rows.any (badR vs) && !s.graphs.any (badG vs)) && (s.cases.any (goodC vs) || s.cases.isEmpty))) := hid rfl
  have k0 := (Kp.refl w).alloc (.cells #[.slice Ab s.box.length cb, .slice Ar s.rows.length cr, .slice Ag s.graphs.length cg, .slice Ac s.cases.length cc] 27)
  have B0 := SysB.new w #[.slice Ab s.box.length cb, .slice Ar s.rows.length cr, .slice Ag s.graphs.length cg, .slice Ac s.cases.length cc] 27
  have z0 := alloc_lt w (.cells #[.slice Ab s.box.length cb, .slice Ar s.rows.length cr, .slice Ag s.graphs.length cg, .slice Ac s.cases.length cc] 27)
  go_enter Try.func85, Try.ntmps85
  go_wp2_with fail
  try rw [← World.size_alloc w (.cells #[.slice Ab s.box.length cb, .slice Ar s.rows.length cr, .slice Ag s.graphs.length cg, .slice Ac s.cases.length cc] 27)]
  generalize w.alloc (.cells #[.slice Ab s.box.length cb, .slice Ar s.rows.length cr, .slice Ag s.graphs.length cg, .slice Ac s.cases.length cc] 27) = w0 at *
  generalize w.heap.size = b0 at *
  refine (qValid_any _ s _ (hs.keep k0)).mono ?_
  rintro e w1 ⟨rfl, k1⟩
  replace B0 := B0.keep k1
  replace k1 := k0.trans k1
  obtain ⟨c0, c1, c2, c3⟩ := B0.cells
  have hgl := block_lt_of_cell c0
  cases hV : validS s with
  | false =>
    have HE : Hid (holdsS s vs = false) := hid (by rw [HF.out, hV]; rfl)
    clear hV
    go_wp2
    go_ret
    exact ⟨ret_bool HE.out.symm, k1⟩
  | true =>
    have HV := hid hV
    clear hV
    go_wp2_with fail
    refine (rContains_any _ _ s.box vs _ (hb.keep (pl_stable _) k1) (hv.keep (pl_stable _) k1)).mono ?_
    rintro e w2 ⟨rfl, k2⟩
    replace B0 := B0.keep k2
    replace k2 := k1.trans k2
    clear c0 c1 c2 c3 hgl k1
    obtain ⟨c0, c1, c2, c3⟩ := B0.cells
    have hgl := block_lt_of_cell c0
    cases hC : containsB s.box vs with
    | false =>
      have HE : Hid (holdsS s vs = false) := hid (by rw [HF.out, hC]; simp)
      clear hC
      go_wp2
      go_ret
      exact ⟨ret_bool HE.out.symm, k2⟩
    | true =>
      have hF := fit_of HV.out hC
      have hR := hid (looked_in HV.out hC)
      have HE : Hid (holdsS s vs = solvesB s vs) := hid (by rw [HF.out, HV.out, hC]; rfl)
      clear hC HF
      go_wp2_with fail
      refine (qFails_any _ _ s vs _ (hs.keep k2) (hv.keep (pl_stable _) k2) hF hR.out).mono ?_
      rintro e w3 ⟨v1, v2, rfl, s1, s2, k3⟩
      replace B0 := B0.keep k3
      replace k3 := k2.trans k3
      clear c0 c1 c2 c3 hgl k2
      obtain ⟨c0, c1, c2, c3⟩ := B0.cells
      have hgl := block_lt_of_cell c0
      have i1 := hid (idxsF_nil (badR vs) 0 s.rows)
      have i2 := hid (idxsF_nil (badG vs) 0 s.graphs)
      have j1 := idxsF_len (badR vs) 0 s.rows
      have j2 := idxsF_len (badG vs) 0 s.graphs
      have n1 := hF.nrows
      have n2 := hF.ngraphs
      have n3 := hF.ncases
      generalize idxsF (badR vs) 0 s.rows = L1 at *
      generalize idxsF (badG vs) 0 s.graphs = L2 at *
      obtain ⟨A1, c1', rfl, _, _⟩ := s1.form
      obtain ⟨A2, c2', rfl, _, _⟩ := s2.form
      clear s1 s2 k0
      go_wp2_with fail
      refine (qCase_any _ _ s vs _ (hs.keep k3) (hv.keep (pl_stable _) k3) hF hR.out).mono ?_
      rintro e w4 ⟨rfl, k4⟩
      replace B0 := B0.keep k4
      replace k4 := k3.trans k4
      clear c0 c1 c2 c3 hgl k3
      obtain ⟨c0, c1, c2, c3⟩ := B0.cells
      have hgl := block_lt_of_cell c0
      have HI := hid (idxF_any (goodC vs) 0 s.cases)
      have HZ : Hid (s.cases.isEmpty = decide (s.cases.length = 0)) := hid (by cases s.cases <;> simp)
      generalize idxF (goodC vs) 0 s.cases = r at *
      unfold altR
      generalize max r 0 = mx
      generalize hdr : decide (0 ≤ r) = dr at *
      clear hdr
      by_cases h1 : L1.length = 0
      · have e1 : ((L1.length : Int) == 0) = true := by simpa using h1
        by_cases h2 : L2.length = 0
        · have e2 : ((L2.length : Int) == 0) = true := by simpa using h2
          have HE2 : Hid (holdsS s vs = (dr || decide (s.cases.length = 0))) := hid (by
            rw [HE.out, HSV.out, ← i1.out, ← i2.out, h1, h2, ← HI.out, HZ.out]
            simp)
          clear i1 i2 h1 h2 HE HSV HZ HI
          by_cases h3 : s.cases.length = 0
          · have e3 : ((s.cases.length : Int) == 0) = true := by simpa using h3
            have HE3 : Hid (holdsS s vs = true) := hid (by rw [HE2.out, decide_eq_true h3]; simp)
            clear h3 HE2
            go_wp2
            go_ret
            exact ⟨ret_bool HE3.out.symm, k4⟩
          · have e3 : ((s.cases.length : Int) == 0) = false := by simpa using h3
            have HE3 : Hid (holdsS s vs = dr) := hid (by rw [HE2.out, decide_eq_false h3]; simp)
            clear h3 HE2
            go_wp2
            go_ret
            exact ⟨ret_bool HE3.out.symm, k4⟩
        · have e2 : ((L2.length : Int) == 0) = false := by simpa using h2
          have HE2 : Hid (holdsS s vs = false) := hid (by
            rw [HE.out, HSV.out, ← i1.out, ← i2.out, h1, decide_eq_true (show 0 < L2.length by omega)]
            simp)
          clear i1 i2 h1 h2 HE HSV HZ HI
          go_wp2
          go_ret
          exact ⟨ret_bool HE2.out.symm, k4⟩
      · have e1 : ((L1.length : Int) == 0) = false := by simpa using h1
        have HE2 : Hid (holdsS s vs = false) := hid (by
          rw [HE.out, HSV.out, ← i1.out, ← i2.out, decide_eq_true (show 0 < L1.length by omega)]
          simp)
        clear i1 i2 h1 HE HSV HZ HI
        go_wp2
        go_ret
        exact ⟨ret_bool HE2.out.symm, k4⟩
end Go.Proofs.Ytfllmnaillilhaa
