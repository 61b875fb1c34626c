
/-
Sorting events in place: merging one element behind.
-/
import Derived.Test.YtcddllaljgfjbaaStM
namespace Go.Proofs.Ytcddllaljgfjbaa
set_option linter.unusedSimpArgs false
set_option linter.unusedVariables false
open Go.RowKit

set_option maxRecDepth 8000 in
set_option maxHeartbeats 8000000 in
theorem sMerge2_any (base g n c : Nat) (hn : n ≤ 4096) (d : Nat → EvS) (pa pm pb : Nat) (w : World) (hD : SD base g n c d w) (h1 : pa < pm) (h3 : pb ≤ n) (hS1 : St.So ltS pa pm d) (hone : ¬ pm - pa = 1) (htwo : pb = pm + 1) :
    Calls Try.prog 103 #[.slice (some ⟨g, 0, none⟩) n c, .int .i64 (pa : Int), .int .i64 (pm : Int), .int .i64 (pb : Int), .func (.func 66) #[] #[]] w (MergeR base g n c d pa pb w) := by
  go_enter Try.func103, Try.ntmps103
  have e1 : ((pm : Int) - (pa : Int) == 1) = false := by simp; omega
  have e2 : ¬ (pm : Int) - (pa : Int) = 1 := by omega
  obtain rfl := htwo
  have e3 : ((pm + 1 : Nat) : Int) - (pm : Int) = 1 := by omega
  go_upto_region 13 with (fail)
  go_wp2_with fail
  go_loopw [14, 15] (fun vi vj wr => ∃ i j : Nat, vi = .int .i64 (i : Int) ∧ vj = .int .i64 (j : Int) ∧ Hid (St.Fr ltS d (d pm) pa pm i j) ∧ SD base g n c d wr ∧ Fx (fun q => q = g) w wr) (fun vi vj _ => (intOf vj).toNat - (intOf vi).toNat)
  case atStart => exact ⟨pa, pm, by first | rfl | go_num, rfl, hid (St.Fr.start (by omega)), hD, Fx.refl _ _⟩
  case round =>
    obtain ⟨i, j, rfl, rfl, HF, hDr, fx⟩ := hrel
    obtain ⟨wo, rfl⟩ : ∃ wo : World, wo = wr := ⟨_, rfl⟩
    have hle := HF.out.le
    by_cases hij : i < j
    · have hijI : (i : Int) < (j : Int) := by omega
      obtain ⟨hh, hhe⟩ : ∃ hh, hh = (i + j) / 2 := ⟨_, rfl⟩
      have hhi : i ≤ hh ∧ hh < j ∧ hh < n := by omega
      have hhd := hid (show ((i : Int) + (j : Int)) / 2 = (hh : Int) by omega)
      have hijI0 : (0 : Int) ≤ (hh : Int) := by omega
      have hpI0 : (0 : Int) ≤ (pm : Int) := by omega
      have hhI : (hh : Int) < (n : Int) := by omega
      have hpI : (pm : Int) < (n : Int) := by omega
      have hlpa : pm < n := by omega
      obtain ⟨bl, hbl⟩ : ∃ bl, ltS (d pm) (d hh) = bl := ⟨_, rfl⟩
      have hce : decide (cmpE (d pm).e (d hh).e < 0) = bl := by rw [cmpE_ltS, hbl]
      replace hbl := hid hbl
      have HC := hid (ord_at (d pm) (d hh))
      obtain ⟨z, hz⟩ : ∃ z, z = cmpE (d pm).e (d hh).e := ⟨_, rfl⟩
      rw [← hz] at hce HC
      replace hz := hid hz
      replace hce := hid hce
      clear hhe
      replace hhi := hid hhi
      have hlh : hh < n := hhi.out.2.2
      replace hij := hid hij
      go_upto_region 17 with (fail)
      rw [hhd.out]
      clear hijI hle
      refine G2.wp_region_growT Kp [] 10 220 (G2.pvL [G2.eqv (.func (.func 66) #[] #[]), G2.eqv (.slice (some ⟨g, 0, none⟩) n c), G2.eqv (.int .i64 (pm : Int)), G2.eqv (.pointer (some ⟨g, pm * 13, none⟩)), G2.eqv (.agg (encEs (d pm)).toArray), G2.eqv (.slice (some ⟨g, 0, none⟩) n c), G2.eqv (.int .i64 (hh : Int)), G2.eqv (.pointer (some ⟨g, hh * 13, none⟩)), G2.eqv (.agg (encEs (d hh)).toArray), G2.eqv (.int .i64 z)]) (by kernel_rfl) (by kernel_rfl) rfl (fun x => Kp.refl x) (fun _ _ _ h k => h.trans k) (Kp.refl _).drew (by intro _ _ _ _ _ h; exact h) (G2.pvL_keep (G2.stabL_cons (G2.stab_eq _) (G2.stabL_cons (G2.stab_eq _) (G2.stabL_cons (G2.stab_eq _) (G2.stabL_cons (G2.stab_eq _) (G2.stabL_cons (G2.stab_eq _) (G2.stabL_cons (G2.stab_eq _) (G2.stabL_cons (G2.stab_eq _) (G2.stabL_cons (G2.stab_eq _) (G2.stabL_cons (G2.stab_eq _) (G2.stabL_cons (G2.stab_eq _) (G2.stabL_nil)))))))))))) (G2.stepsT_cons 0 ?_ (G2.stepsT_cons 1 ?_ (G2.stepsT_cons 2 ?_ (G2.stepsT_cons 3 ?_ (G2.stepsT_cons 4 ?_ (G2.stepsT_cons 5 ?_ (G2.stepsT_cons 6 ?_ (G2.stepsT_cons 7 ?_ (G2.stepsT_cons 8 ?_ (G2.stepsT_cons 9 ?_ (G2.stepsT_nil _ _ _))))))))))) ?_ ?_
      · intro a w' hk hF hD K hK
        have h4 : a.tmps[4]?.getD undef = .func (.func 66) #[] #[] := hF 4 (by kernel_rfl)
        clear hF hD
        go_simp
        exact hK.out _ _ (Kp.refl _) rfl
      · intro a w' hk hF hD K hK
        have h0 : a.tmps[0]?.getD undef = .slice (some ⟨g, 0, none⟩) n c := hF 0 (by kernel_rfl)
        clear hF hD
        go_simp
        exact hK.out _ _ (Kp.refl _) rfl
      · intro a w' hk hF hD K hK
        have h2 : a.tmps[2]?.getD undef = .int .i64 (pm : Int) := hF 2 (by kernel_rfl)
        clear hF hD
        go_simp
        exact hK.out _ _ (Kp.refl _) rfl
      · intro a w' hk hF hD K hK
        have h93 : a.tmps[93]?.getD undef = .slice (some ⟨g, 0, none⟩) n c := hD 1 (by kernel_rfl)
        have h94 : a.tmps[94]?.getD undef = .int .i64 (pm : Int) := hD 2 (by kernel_rfl)
        clear hF hD
        go_simp
        exact hK.out _ _ (Kp.refl _) rfl
      · intro a w' hk hF hD K hK
        have h95 : a.tmps[95]?.getD undef = .pointer (some ⟨g, pm * 13, none⟩) := hD 3 (by kernel_rfl)
        clear hF hD
        rw [if_pos (by simp [Region.wanted])]
        refine wp_load_mid 33 (.tmp 95) rfl g (pm * 13) ((eval_tmp _ _).trans h95) (encEs (d pm)) _ (SD.range (Own.kp hDr hk) hlpa) Try.underlying33 rfl (hiEv _) ?_
        exact hK.out _ _ (Kp.refl _) rfl
      · intro a w' hk hF hD K hK
        have h0 : a.tmps[0]?.getD undef = .slice (some ⟨g, 0, none⟩) n c := hF 0 (by kernel_rfl)
        clear hF hD
        go_simp
        exact hK.out _ _ (Kp.refl _) rfl
      · intro a w' hk hF hD K hK
        have h16 : a.tmps[16]?.getD undef = .int .i64 (hh : Int) := hF 16 (by kernel_rfl)
        clear hF hD
        go_simp
        exact hK.out _ _ (Kp.refl _) rfl
      · intro a w' hk hF hD K hK
        have h97 : a.tmps[97]?.getD undef = .slice (some ⟨g, 0, none⟩) n c := hD 5 (by kernel_rfl)
        have h98 : a.tmps[98]?.getD undef = .int .i64 (hh : Int) := hD 6 (by kernel_rfl)
        clear hF hD
        go_simp
        exact hK.out _ _ (Kp.refl _) rfl
      · intro a w' hk hF hD K hK
        have h99 : a.tmps[99]?.getD undef = .pointer (some ⟨g, hh * 13, none⟩) := hD 7 (by kernel_rfl)
        clear hF hD
        rw [if_pos (by simp [Region.wanted])]
        refine wp_load_mid 33 (.tmp 99) rfl g (hh * 13) ((eval_tmp _ _).trans h99) (encEs (d hh)) _ (SD.range (Own.kp hDr hk) hlh) Try.underlying33 rfl (hiEv _) ?_
        exact hK.out _ _ (Kp.refl _) rfl
      · intro a w' hk hF hD K hK
        have h92 : a.tmps[92]?.getD undef = .func (.func 66) #[] #[] := hD 0 (by kernel_rfl)
        have h96 : a.tmps[96]?.getD undef = .agg (encEs (d pm)).toArray := hD 4 (by kernel_rfl)
        have h100 : a.tmps[100]?.getD undef = .agg (encEs (d hh)).toArray := hD 8 (by kernel_rfl)
        clear hF hD
        go_simp
        refine (HC.out _).mono ?_
        rintro e w9 ⟨rfl, hk9⟩
        exact hK.out _ _ hk9 rfl
      · exact fun i0 hi0 => by simp at hi0
      intro v w9 k9 hv
      have v9 : v 9 = .int .i64 z := hv 9 (by omega)
      clear hv
      simp only [G2.growPut, G2.gSlot, List.getElem?_toArray, List.getElem?_cons_zero, List.getElem?_cons_succ, Option.bind_some, List.setIfInBounds_toArray, List.set_cons_zero, List.set_cons_succ, List.drop_succ_cons, List.drop_zero, v9]
      have hD9 : SD base g n c d w9 := Own.kp hDr k9
      have fx9 := fx.trans (k9.fx _)
      clear HC
      replace hce := hce.out
      cases bl with
      | false =>
        have HF2 := hid (HF.out.lower ltS_od hS1 hhi.out.1 hhi.out.2.1 hbl.out)
        go_wp2_with fail
        go_roundw
        case rel => exact ⟨hh + 1, j, by go_num, rfl, HF2, hD9, fx9⟩
        case measure => have := hhi.out; simp [intOf]; omega
      | true =>
        have HF2 := hid (HF.out.upper ltS_od hS1 hhi.out.1 hhi.out.2.1 hbl.out)
        go_wp2_with fail
        go_roundw
        case rel => exact ⟨i, hh, rfl, by first | rfl | go_num, HF2, hD9, fx9⟩
        case measure => have := hhi.out; simp [intOf]; omega
    · have hijI : ¬ (i : Int) < (j : Int) := by omega
      obtain rfl : j = i := by omega
      have hpi : pa ≤ j := HF.out.le.1
      have hjb : j ≤ pm := HF.out.le.2.2
      have hD0 : SD base g n c (fun x => d (St.fr pm pm x)) wo := by
        have e : (fun x => d (St.fr pm pm x)) = d := by funext x; rw [St.fr_start]
        rw [e]; exact hDr
      replace HF := hid HF.out
      go_wp2_with fail
      go_loopw [17] (fun vk wk => ∃ k : Nat, j ≤ k ∧ k ≤ pm ∧ vk = .int .i64 (k : Int) ∧ SD base g n c (fun x => d (St.fr k pm x)) wk ∧ Fx (fun q => q = g) w wk) (fun vk _ => (intOf vk).toNat)
      case atStart => exact ⟨pm, hjb, Nat.le_refl _, rfl, hD0, fx⟩
      case round =>
        clear hD0 fx hDr
        obtain ⟨k, hk1, hk2, rfl, hDk, fx⟩ := hrel
        obtain ⟨wo, rfl⟩ : ∃ wo : World, wo = wr := ⟨_, rfl⟩
        by_cases hkj : j < k
        · have hkjI : (j : Int) < (k : Int) := by omega
          obtain ⟨k1, hke⟩ : ∃ k1, k1 = k - 1 := ⟨_, rfl⟩
          have hlk : k < n := by omega
          have hlk1 : k1 < n := by omega
          have wj := hid (show IntKind.i64.wrap ((k : Int) - 1) = (k1 : Int) by rw [IntWalk.i64_in _ (by omega)]; omega)
          have wj2 := hid (show IntKind.i64.wrap (((k - 1 : Nat)) : Int) = (k1 : Int) by rw [IntWalk.i64_in _ (by omega), hke])
          have hkI : (k : Int) < (n : Int) := by omega
          have hk1I : (k1 : Int) < (n : Int) := by omega
          have hkI0 : (0 : Int) ≤ (k : Int) := by omega
          have hk1I0 : (0 : Int) ≤ (k1 : Int) := by omega
          have hkp : 0 < k := by omega
          replace hke := hid hke
          obtain ⟨dk, hdk⟩ : ∃ dk, dk = (fun x => d (St.fr k pm x)) := ⟨_, rfl⟩
          rw [← hdk] at hDk
          replace hdk := hid hdk
          go_upto_region 23 with (fail)
          refine G2.wp_region_growT Kp [2, 3, 4] 14 220 (G2.pvL [G2.eqv (.slice (some ⟨g, 0, none⟩) n c), G2.eqv (.int .i64 (k : Int)), G2.eqv (.slice (some ⟨g, 0, none⟩) n c), G2.eqv (.int .i64 (k : Int)), G2.eqv (.int .i64 (k1 : Int)), G2.eqv (.slice (some ⟨g, 0, none⟩) n c), G2.eqv (.int .i64 (k : Int)), G2.eqv (.int .i64 (k1 : Int)), G2.eqv (.pointer (some ⟨g, k1 * 13, none⟩)), G2.eqv (.agg (encEs (dk k1)).toArray), G2.eqv (.slice (some ⟨g, 0, none⟩) n c), G2.eqv (.int .i64 (k : Int)), G2.eqv (.pointer (some ⟨g, k * 13, none⟩)), G2.eqv (.agg (encEs (dk k)).toArray)]) (by kernel_rfl) (by kernel_rfl) rfl (fun x => Kp.refl x) (fun _ _ _ h k => h.trans k) (Kp.refl _).drew (by intro _ _ _ _ _ h; exact h) (G2.pvL_keep (G2.stabL_cons (G2.stab_eq _) (G2.stabL_cons (G2.stab_eq _) (G2.stabL_cons (G2.stab_eq _) (G2.stabL_cons (G2.stab_eq _) (G2.stabL_cons (G2.stab_eq _) (G2.stabL_cons (G2.stab_eq _) (G2.stabL_cons (G2.stab_eq _) (G2.stabL_cons (G2.stab_eq _) (G2.stabL_cons (G2.stab_eq _) (G2.stabL_cons (G2.stab_eq _) (G2.stabL_cons (G2.stab_eq _) (G2.stabL_cons (G2.stab_eq _) (G2.stabL_cons (G2.stab_eq _) (G2.stabL_cons (G2.stab_eq _) (G2.stabL_nil)))))))))))))))) (G2.stepsT_cons 0 ?_ (G2.stepsT_cons 1 ?_ (G2.stepsT_cons 2 ?_ (G2.stepsT_cons 3 ?_ (G2.stepsT_cons 4 ?_ (G2.stepsT_cons 5 ?_ (G2.stepsT_cons 6 ?_ (G2.stepsT_cons 7 ?_ (G2.stepsT_cons 8 ?_ (G2.stepsT_cons 9 ?_ (G2.stepsT_cons 10 ?_ (G2.stepsT_cons 11 ?_ (G2.stepsT_cons 12 ?_ (G2.stepsT_cons 13 ?_ (G2.stepsT_nil _ _ _))))))))))))))) ?_ ?_
          · intro a w' hk hF hD K hK
            have h0 : a.tmps[0]?.getD undef = .slice (some ⟨g, 0, none⟩) n c := hF 0 (by kernel_rfl)
            clear hF hD
            go_simp
            exact hK.out _ _ (Kp.refl _) rfl
          · intro a w' hk hF hD K hK
            have h17 : a.tmps[17]?.getD undef = .int .i64 (k : Int) := hF 17 (by kernel_rfl)
            clear hF hD
            go_simp
            exact hK.out _ _ (Kp.refl _) rfl
          · intro a w' hk hF hD K hK
            have h0 : a.tmps[0]?.getD undef = .slice (some ⟨g, 0, none⟩) n c := hF 0 (by kernel_rfl)
            clear hF hD
            go_simp
            exact hK.out _ _ (Kp.refl _) rfl
          · intro a w' hk hF hD K hK
            have h17 : a.tmps[17]?.getD undef = .int .i64 (k : Int) := hF 17 (by kernel_rfl)
            clear hF hD
            go_simp
            exact hK.out _ _ (Kp.refl _) rfl
          · intro a w' hk hF hD K hK
            have h116 : a.tmps[116]?.getD undef = .int .i64 (k : Int) := hD 3 (by kernel_rfl)
            clear hF hD
            have q1 := wj.out
            have q2 := wj2.out
            go_simp
            exact hK.out _ _ (Kp.refl _) rfl
          · intro a w' hk hF hD K hK
            have h0 : a.tmps[0]?.getD undef = .slice (some ⟨g, 0, none⟩) n c := hF 0 (by kernel_rfl)
            clear hF hD
            go_simp
            exact hK.out _ _ (Kp.refl _) rfl
          · intro a w' hk hF hD K hK
            have h17 : a.tmps[17]?.getD undef = .int .i64 (k : Int) := hF 17 (by kernel_rfl)
            clear hF hD
            go_simp
            exact hK.out _ _ (Kp.refl _) rfl
          · intro a w' hk hF hD K hK
            have h119 : a.tmps[119]?.getD undef = .int .i64 (k : Int) := hD 6 (by kernel_rfl)
            clear hF hD
            have q1 := wj.out
            have q2 := wj2.out
            go_simp
            exact hK.out _ _ (Kp.refl _) rfl
          · intro a w' hk hF hD K hK
            have h118 : a.tmps[118]?.getD undef = .slice (some ⟨g, 0, none⟩) n c := hD 5 (by kernel_rfl)
            have h120 : a.tmps[120]?.getD undef = .int .i64 (k1 : Int) := hD 7 (by kernel_rfl)
            clear hF hD
            go_simp
            exact hK.out _ _ (Kp.refl _) rfl
          · intro a w' hk hF hD K hK
            have h121 : a.tmps[121]?.getD undef = .pointer (some ⟨g, k1 * 13, none⟩) := hD 8 (by kernel_rfl)
            clear hF hD
            rw [if_pos (by simp [Region.wanted])]
            refine wp_load_mid 33 (.tmp 121) rfl g (k1 * 13) ((eval_tmp _ _).trans h121) (encEs (dk k1)) _ (SD.range (Own.kp hDk hk) hlk1) Try.underlying33 rfl (hiEv _) ?_
            exact hK.out _ _ (Kp.refl _) rfl
          · intro a w' hk hF hD K hK
            have h0 : a.tmps[0]?.getD undef = .slice (some ⟨g, 0, none⟩) n c := hF 0 (by kernel_rfl)
            clear hF hD
            go_simp
            exact hK.out _ _ (Kp.refl _) rfl
          · intro a w' hk hF hD K hK
            have h17 : a.tmps[17]?.getD undef = .int .i64 (k : Int) := hF 17 (by kernel_rfl)
            clear hF hD
            go_simp
            exact hK.out _ _ (Kp.refl _) rfl
          · intro a w' hk hF hD K hK
            have h123 : a.tmps[123]?.getD undef = .slice (some ⟨g, 0, none⟩) n c := hD 10 (by kernel_rfl)
            have h124 : a.tmps[124]?.getD undef = .int .i64 (k : Int) := hD 11 (by kernel_rfl)
            clear hF hD
            go_simp
            exact hK.out _ _ (Kp.refl _) rfl
          · intro a w' hk hF hD K hK
            have h125 : a.tmps[125]?.getD undef = .pointer (some ⟨g, k * 13, none⟩) := hD 12 (by kernel_rfl)
            clear hF hD
            rw [if_pos (by simp [Region.wanted])]
            refine wp_load_mid 33 (.tmp 125) rfl g (k * 13) ((eval_tmp _ _).trans h125) (encEs (dk k)) _ (SD.range (Own.kp hDk hk) hlk) Try.underlying33 rfl (hiEv _) ?_
            exact hK.out _ _ (Kp.refl _) rfl
          · intro i0 hi0
            have hi' : i0 = 2 ∨ i0 = 3 ∨ i0 = 4 := by simpa using hi0
            rcases hi' with rfl | rfl | rfl
            · refine ⟨by omega, fun a w' hk hF hD => ?_⟩
              simp only [List.getElem?_toArray, List.getElem?_cons_zero, List.getElem?_cons_succ, Option.map_some, Option.getD_some]
              have h0 : a.tmps[0]?.getD undef = .slice (some ⟨g, 0, none⟩) n c := hF 0 (by kernel_rfl)
              clear hF hD
              exact ⟨.slice (some ⟨g, 0, none⟩) n c, rfl, Or.inl ⟨by simp [Region.wanted], fun w => by go_simp⟩⟩
            · refine ⟨by omega, fun a w' hk hF hD => ?_⟩
              simp only [List.getElem?_toArray, List.getElem?_cons_zero, List.getElem?_cons_succ, Option.map_some, Option.getD_some]
              have h17 : a.tmps[17]?.getD undef = .int .i64 (k : Int) := hF 17 (by kernel_rfl)
              clear hF hD
              exact ⟨.int .i64 (k : Int), rfl, Or.inl ⟨by simp [Region.wanted], fun w => by go_simp⟩⟩
            · refine ⟨by omega, fun a w' hk hF hD => ?_⟩
              simp only [List.getElem?_toArray, List.getElem?_cons_zero, List.getElem?_cons_succ, Option.map_some, Option.getD_some]
              have h116 : a.tmps[116]?.getD undef = .int .i64 (k : Int) := hD 3 (by kernel_rfl)
              clear hF hD
              have q1 := wj.out
              have q2 := wj2.out
              exact ⟨.int .i64 (k1 : Int), rfl, Or.inl ⟨by simp [Region.wanted], fun w => by go_simp⟩⟩
          intro v w9 k9 hv
          have v0 : v 0 = .slice (some ⟨g, 0, none⟩) n c := hv 0 (by omega)
          have v1 : v 1 = .int .i64 (k : Int) := hv 1 (by omega)
          have v9 : v 9 = .agg (encEs (dk k1)).toArray := hv 9 (by omega)
          have v2 : v 2 = .slice (some ⟨g, 0, none⟩) n c := hv 2 (by omega)
          have v4 : v 4 = .int .i64 (k1 : Int) := hv 4 (by omega)
          have v13 : v 13 = .agg (encEs (dk k)).toArray := hv 13 (by omega)
          clear hv
          simp only [G2.growPut, G2.gSlot, List.getElem?_toArray, List.getElem?_cons_zero, List.getElem?_cons_succ, Option.bind_some, List.setIfInBounds_toArray, List.set_cons_zero, List.set_cons_succ, List.drop_succ_cons, List.drop_zero, v0, v1, v9, v2, v4, v13]
          have hDa : SD base g n c dk w9 := Own.kp hDk k9
          have fxa := fx.trans (k9.fx _)
          have q1 := wj.out
          have q2 := wj2.out
          have hth1 : (w9).there g (k * 13) (encEs ((dk) k1)).toArray.size := by simpa [encEs_len] using SD.there hDa hlk
          have hS1 := SD.set hDa hlk ((dk) k1)
          have hT := sd_two hDa hlk hlk1
          have fxT := fx_two (Fx.refl (fun q => q = g) w9) (k * 13) (k1 * 13) (encEs ((dk) k1)) (encEs ((dk) k))
          obtain ⟨wA, hwA⟩ : ∃ wA, wA = (w9).setCells g (k * 13) (encEs ((dk) k1)) := ⟨_, rfl⟩
          rw [← hwA] at hS1 hT fxT
          have hth2 : wA.there g (k1 * 13) (encEs ((dk) k)).toArray.size := by simpa [encEs_len] using SD.there hS1 hlk1
          obtain ⟨wB, hwB⟩ : ∃ wB, wB = wA.setCells g (k1 * 13) (encEs ((dk) k)) := ⟨_, rfl⟩
          rw [← hwB] at hT fxT
          replace hwA := hid hwA
          replace hwB := hid hwB
          clear hS1
          go_wp2_with (first | (refine wpList_store_mid rfl 33 (.tmp 127) (.tmp 122) rfl g (k * 13) (encEs ((dk) k1)).toArray rfl rfl hth1 (hiEv2 _) (all_oneCell_toArray (encEs_one _)) ?_; rw [List.toList_toArray, ← hwA.out]) | (refine wpList_store_mid rfl 33 (.tmp 128) (.tmp 126) rfl g (k1 * 13) (encEs ((dk) k)).toArray rfl rfl hth2 (hiEv2 _) (all_oneCell_toArray (encEs_one _)) ?_; rw [List.toList_toArray, ← hwB.out]) | fail)
          have hT2 : SD base g n c (fun x => d (St.fr k1 pm x)) wB := by
            have e : (fun x => dk (St.sw k k1 x)) = (fun x => d (St.fr k1 pm x)) := by
              rw [hke.out, hdk.out]; funext x; exact congrArg d (St.fr_step hkp hk2 x)
            rw [← e]; exact hT
          go_roundw
          case rel => exact ⟨k1, by have := hke.out; omega, by have := hke.out; omega, by first | rfl | (congr 1; have := hke.out; omega), hT2, fxa.trans fxT⟩
          case measure => have := hke.out; simp [intOf]; omega
        · have hkjI : ¬ (j : Int) < (k : Int) := by omega
          obtain rfl : j = k := by omega
          go_wp2
          go_end0
          exact ⟨rfl, ⟨_, hDk, St.Re.fr d hpi hjb (by omega), St.fr_so ltS_od hS1 HF.out⟩, fx⟩
end Go.Proofs.Ytcddllaljgfjbaa
