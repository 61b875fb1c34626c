
/-
Sorting events in place: merging: the walk.
-/
import Derived.Test.YtcddllaljgfjbaaStI
namespace Go.Proofs.Ytcddllaljgfjbaa
set_option linter.unusedSimpArgs false
set_option linter.unusedVariables false
open Go.RowKit

theorem half_nat (i j : Nat) : ((i : Int) + (j : Int)) / 2 = (((i + j) / 2 : Nat) : Int) := by omega
/-- what merging does -/
def MergeR (base g n c : Nat) (d : Nat → EvS) (pa pb : Nat) (w : World) (e : Ending) (w' : World) : Prop := e = .returned (.tuple #[]) ∧ (∃ d', SD base g n c d' w' ∧ St.Re pa pb d d' ∧ St.So ltS pa pb d') ∧ Fx (fun q => q = g) w w'
set_option maxRecDepth 8000 in
set_option maxHeartbeats 8000000 in
theorem sMerge1_any (base g n c : Nat) (hn : n ≤ 4096) (d : Nat → EvS) (pa pm pb : Nat) (w : World) (hD : SD base g n c d w) (h1 : pa < pm) (h2 : pm < pb) (h3 : pb ≤ n) (hS2 : St.So ltS pm pb d) (hone : pm - pa = 1) :
    Calls Try.prog 103 #[.slice (some ⟨g, 0, none⟩) n c, .int .i64 (pa : Int), .int .i64 (pm : Int), .int .i64 (pb : Int), .func (.func 66) #[] #[]] w (MergeR base g n c d pa pb w) := by
  go_enter Try.func103, Try.ntmps103
  have e1 : ((pm : Int) - (pa : Int) == 1) = true := by simp; omega
  have e2 : (pm : Int) - (pa : Int) = 1 := by omega
  obtain rfl : pm = pa + 1 := by omega
  go_upto_region 1 with (fail)
  go_wp2_with fail
  go_loopw [10, 11] (fun vi vj wr => ∃ i j : Nat, vi = .int .i64 (i : Int) ∧ vj = .int .i64 (j : Int) ∧ Hid (St.Fl ltS d (d pa) (pa + 1) pb i j) ∧ SD base g n c d wr ∧ Fx (fun q => q = g) w wr) (fun vi vj _ => (intOf vj).toNat - (intOf vi).toNat)
  case atStart => exact ⟨pa + 1, pb, by first | rfl | go_num, rfl, hid (St.Fl.start (by omega)), hD, Fx.refl _ _⟩
  case round =>
    obtain ⟨i, j, rfl, rfl, HF, hDr, fx⟩ := hrel
    obtain ⟨wo, rfl⟩ : ∃ wo : World, wo = wr := ⟨_, rfl⟩
    have hle := HF.out.le
    by_cases hij : i < j
    · have hijI : (i : Int) < (j : Int) := by omega
      obtain ⟨hh, hhe⟩ : ∃ hh, hh = (i + j) / 2 := ⟨_, rfl⟩
      have hhi : i ≤ hh ∧ hh < j ∧ hh < n := by omega
      have hhd := hid (show ((i : Int) + (j : Int)) / 2 = (hh : Int) by omega)
      have hijI0 : (0 : Int) ≤ (hh : Int) := by omega
      have hpI0 : (0 : Int) ≤ (pa : Int) := by omega
      have hhI : (hh : Int) < (n : Int) := by omega
      have hpI : (pa : Int) < (n : Int) := by omega
      have hlpa : pa < n := by omega
      obtain ⟨bl, hbl⟩ : ∃ bl, ltS (d hh) (d pa) = bl := ⟨_, rfl⟩
      have hce : decide (cmpE (d hh).e (d pa).e < 0) = bl := by rw [cmpE_ltS, hbl]
      replace hbl := hid hbl
      have HC := hid (ord_at (d hh) (d pa))
      obtain ⟨z, hz⟩ : ∃ z, z = cmpE (d hh).e (d pa).e := ⟨_, rfl⟩
      rw [← hz] at hce HC
      replace hz := hid hz
      replace hce := hid hce
      clear hhe
      replace hhi := hid hhi
      have hlh : hh < n := hhi.out.2.2
      replace hij := hid hij
      go_upto_region 5 with (fail)
      rw [hhd.out]
      clear hijI hle
      refine G2.wp_region_growT Kp [] 10 220 (G2.pvL [G2.eqv (.func (.func 66) #[] #[]), G2.eqv (.slice (some ⟨g, 0, none⟩) n c), G2.eqv (.int .i64 (hh : Int)), G2.eqv (.pointer (some ⟨g, hh * 13, none⟩)), G2.eqv (.agg (encEs (d hh)).toArray), G2.eqv (.slice (some ⟨g, 0, none⟩) n c), G2.eqv (.int .i64 (pa : Int)), G2.eqv (.pointer (some ⟨g, pa * 13, none⟩)), G2.eqv (.agg (encEs (d pa)).toArray), G2.eqv (.int .i64 z)]) (by kernel_rfl) (by kernel_rfl) rfl (fun x => Kp.refl x) (fun _ _ _ h k => h.trans k) (Kp.refl _).drew (by intro _ _ _ _ _ h; exact h) (G2.pvL_keep (G2.stabL_cons (G2.stab_eq _) (G2.stabL_cons (G2.stab_eq _) (G2.stabL_cons (G2.stab_eq _) (G2.stabL_cons (G2.stab_eq _) (G2.stabL_cons (G2.stab_eq _) (G2.stabL_cons (G2.stab_eq _) (G2.stabL_cons (G2.stab_eq _) (G2.stabL_cons (G2.stab_eq _) (G2.stabL_cons (G2.stab_eq _) (G2.stabL_cons (G2.stab_eq _) (G2.stabL_nil)))))))))))) (G2.stepsT_cons 0 ?_ (G2.stepsT_cons 1 ?_ (G2.stepsT_cons 2 ?_ (G2.stepsT_cons 3 ?_ (G2.stepsT_cons 4 ?_ (G2.stepsT_cons 5 ?_ (G2.stepsT_cons 6 ?_ (G2.stepsT_cons 7 ?_ (G2.stepsT_cons 8 ?_ (G2.stepsT_cons 9 ?_ (G2.stepsT_nil _ _ _))))))))))) ?_ ?_
      · intro a w' hk hF hD K hK
        have h4 : a.tmps[4]?.getD undef = .func (.func 66) #[] #[] := hF 4 (by kernel_rfl)
        clear hF hD
        go_simp
        exact hK.out _ _ (Kp.refl _) rfl
      · intro a w' hk hF hD K hK
        have h0 : a.tmps[0]?.getD undef = .slice (some ⟨g, 0, none⟩) n c := hF 0 (by kernel_rfl)
        clear hF hD
        go_simp
        exact hK.out _ _ (Kp.refl _) rfl
      · intro a w' hk hF hD K hK
        have h12 : a.tmps[12]?.getD undef = .int .i64 (hh : Int) := hF 12 (by kernel_rfl)
        clear hF hD
        go_simp
        exact hK.out _ _ (Kp.refl _) rfl
      · intro a w' hk hF hD K hK
        have h41 : a.tmps[41]?.getD undef = .slice (some ⟨g, 0, none⟩) n c := hD 1 (by kernel_rfl)
        have h42 : a.tmps[42]?.getD undef = .int .i64 (hh : Int) := hD 2 (by kernel_rfl)
        clear hF hD
        go_simp
        exact hK.out _ _ (Kp.refl _) rfl
      · intro a w' hk hF hD K hK
        have h43 : a.tmps[43]?.getD undef = .pointer (some ⟨g, hh * 13, none⟩) := hD 3 (by kernel_rfl)
        clear hF hD
        rw [if_pos (by simp [Region.wanted])]
        refine wp_load_mid 33 (.tmp 43) rfl g (hh * 13) ((eval_tmp _ _).trans h43) (encEs (d hh)) _ (SD.range (Own.kp hDr hk) hlh) Try.underlying33 rfl (hiEv _) ?_
        exact hK.out _ _ (Kp.refl _) rfl
      · intro a w' hk hF hD K hK
        have h0 : a.tmps[0]?.getD undef = .slice (some ⟨g, 0, none⟩) n c := hF 0 (by kernel_rfl)
        clear hF hD
        go_simp
        exact hK.out _ _ (Kp.refl _) rfl
      · intro a w' hk hF hD K hK
        have h1 : a.tmps[1]?.getD undef = .int .i64 (pa : Int) := hF 1 (by kernel_rfl)
        clear hF hD
        go_simp
        exact hK.out _ _ (Kp.refl _) rfl
      · intro a w' hk hF hD K hK
        have h45 : a.tmps[45]?.getD undef = .slice (some ⟨g, 0, none⟩) n c := hD 5 (by kernel_rfl)
        have h46 : a.tmps[46]?.getD undef = .int .i64 (pa : Int) := hD 6 (by kernel_rfl)
        clear hF hD
        go_simp
        exact hK.out _ _ (Kp.refl _) rfl
      · intro a w' hk hF hD K hK
        have h47 : a.tmps[47]?.getD undef = .pointer (some ⟨g, pa * 13, none⟩) := hD 7 (by kernel_rfl)
        clear hF hD
        rw [if_pos (by simp [Region.wanted])]
        refine wp_load_mid 33 (.tmp 47) rfl g (pa * 13) ((eval_tmp _ _).trans h47) (encEs (d pa)) _ (SD.range (Own.kp hDr hk) hlpa) Try.underlying33 rfl (hiEv _) ?_
        exact hK.out _ _ (Kp.refl _) rfl
      · intro a w' hk hF hD K hK
        have h40 : a.tmps[40]?.getD undef = .func (.func 66) #[] #[] := hD 0 (by kernel_rfl)
        have h44 : a.tmps[44]?.getD undef = .agg (encEs (d hh)).toArray := hD 4 (by kernel_rfl)
        have h48 : a.tmps[48]?.getD undef = .agg (encEs (d pa)).toArray := hD 8 (by kernel_rfl)
        clear hF hD
        go_simp
        refine (HC.out _).mono ?_
        rintro e w9 ⟨rfl, hk9⟩
        exact hK.out _ _ hk9 rfl
      · exact fun i0 hi0 => by simp at hi0
      intro v w9 k9 hv
      have v9 : v 9 = .int .i64 z := hv 9 (by omega)
      clear hv
      simp only [G2.growPut, G2.gSlot, List.getElem?_toArray, List.getElem?_cons_zero, List.getElem?_cons_succ, Option.bind_some, List.setIfInBounds_toArray, List.set_cons_zero, List.set_cons_succ, List.drop_succ_cons, List.drop_zero, v9]
      have hD9 : SD base g n c d w9 := Own.kp hDr k9
      have fx9 := fx.trans (k9.fx _)
      have hS2' : St.So ltS (pa + 1) pb d := hS2
      clear HC
      replace hce := hce.out
      cases bl with
      | true =>
        have HF2 := hid (HF.out.lower ltS_od hS2' hhi.out.1 hhi.out.2.1 hbl.out)
        go_wp2_with fail
        go_roundw
        case rel => exact ⟨hh + 1, j, by go_num, rfl, HF2, hD9, fx9⟩
        case measure => have := hhi.out; simp [intOf]; omega
      | false =>
        have HF2 := hid (HF.out.upper ltS_od hS2' hhi.out.1 hhi.out.2.1 hbl.out)
        go_wp2_with fail
        go_roundw
        case rel => exact ⟨i, hh, rfl, by first | rfl | go_num, HF2, hD9, fx9⟩
        case measure => have := hhi.out; simp [intOf]; omega
    · have hijI : ¬ (i : Int) < (j : Int) := by omega
      obtain rfl : j = i := by omega
      have hpi : pa + 1 ≤ j := HF.out.le.1
      have hjb : j ≤ pb := HF.out.le.2.2
      have hD0 : SD base g n c (fun x => d (St.fl pa (pa + 1) x)) wo := by
        have e : (fun x => d (St.fl pa (pa + 1) x)) = d := by funext x; rw [St.fl_start]
        rw [e]; exact hDr
      replace HF := hid HF.out
      go_wp2_with fail
      go_loopw [13] (fun vk wk => ∃ k : Nat, pa ≤ k ∧ k + 1 ≤ j ∧ vk = .int .i64 (k : Int) ∧ SD base g n c (fun x => d (St.fl pa (k + 1) x)) wk ∧ Fx (fun q => q = g) w wk) (fun vk _ => j - (intOf vk).toNat)
      case atStart => exact ⟨pa, Nat.le_refl _, hpi, rfl, hD0, fx⟩
      case round =>
        clear hD0 fx hDr
        obtain ⟨k, hk1, hk2, rfl, hDk, fx⟩ := hrel
        obtain ⟨wo, rfl⟩ : ∃ wo : World, wo = wr := ⟨_, rfl⟩
        by_cases hkj : k + 1 < j
        · have hkjI : (k : Int) < (j : Int) - 1 := by omega
          obtain ⟨k1, hke⟩ : ∃ k1, k1 = k + 1 := ⟨_, rfl⟩
          have hlk : k < n := by omega
          have hlk1 : k1 < n := by omega
          have wj := hid (show IntKind.i64.wrap ((k : Int) + 1) = (k1 : Int) by rw [IntWalk.i64_in _ (by omega)]; omega)
          have hkI : (k : Int) < (n : Int) := by omega
          have hk1I : (k1 : Int) < (n : Int) := by omega
          have hkI0 : (0 : Int) ≤ (k : Int) := by omega
          have hk1I0 : (0 : Int) ≤ (k1 : Int) := by omega
          replace hke := hid hke
          obtain ⟨dk, hdk⟩ : ∃ dk, dk = (fun x => d (St.fl pa (k + 1) x)) := ⟨_, rfl⟩
          rw [← hdk] at hDk
          replace hdk := hid hdk
          go_upto_region 11 with (fail)
          refine G2.wp_region_growT Kp [2, 3, 4] 14 220 (G2.pvL [G2.eqv (.slice (some ⟨g, 0, none⟩) n c), G2.eqv (.int .i64 (k : Int)), G2.eqv (.slice (some ⟨g, 0, none⟩) n c), G2.eqv (.int .i64 (k : Int)), G2.eqv (.int .i64 (k1 : Int)), G2.eqv (.slice (some ⟨g, 0, none⟩) n c), G2.eqv (.int .i64 (k : Int)), G2.eqv (.int .i64 (k1 : Int)), G2.eqv (.pointer (some ⟨g, k1 * 13, none⟩)), G2.eqv (.agg (encEs (dk k1)).toArray), G2.eqv (.slice (some ⟨g, 0, none⟩) n c), G2.eqv (.int .i64 (k : Int)), G2.eqv (.pointer (some ⟨g, k * 13, none⟩)), G2.eqv (.agg (encEs (dk k)).toArray)]) (by kernel_rfl) (by kernel_rfl) rfl (fun x => Kp.refl x) (fun _ _ _ h k => h.trans k) (Kp.refl _).drew (by intro _ _ _ _ _ h; exact h) (G2.pvL_keep (G2.stabL_cons (G2.stab_eq _) (G2.stabL_cons (G2.stab_eq _) (G2.stabL_cons (G2.stab_eq _) (G2.stabL_cons (G2.stab_eq _) (G2.stabL_cons (G2.stab_eq _) (G2.stabL_cons (G2.stab_eq _) (G2.stabL_cons (G2.stab_eq _) (G2.stabL_cons (G2.stab_eq _) (G2.stabL_cons (G2.stab_eq _) (G2.stabL_cons (G2.stab_eq _) (G2.stabL_cons (G2.stab_eq _) (G2.stabL_cons (G2.stab_eq _) (G2.stabL_cons (G2.stab_eq _) (G2.stabL_cons (G2.stab_eq _) (G2.stabL_nil)))))))))))))))) (G2.stepsT_cons 0 ?_ (G2.stepsT_cons 1 ?_ (G2.stepsT_cons 2 ?_ (G2.stepsT_cons 3 ?_ (G2.stepsT_cons 4 ?_ (G2.stepsT_cons 5 ?_ (G2.stepsT_cons 6 ?_ (G2.stepsT_cons 7 ?_ (G2.stepsT_cons 8 ?_ (G2.stepsT_cons 9 ?_ (G2.stepsT_cons 10 ?_ (G2.stepsT_cons 11 ?_ (G2.stepsT_cons 12 ?_ (G2.stepsT_cons 13 ?_ (G2.stepsT_nil _ _ _))))))))))))))) ?_ ?_
          · intro a w' hk hF hD K hK
            have h0 : a.tmps[0]?.getD undef = .slice (some ⟨g, 0, none⟩) n c := hF 0 (by kernel_rfl)
            clear hF hD
            go_simp
            exact hK.out _ _ (Kp.refl _) rfl
          · intro a w' hk hF hD K hK
            have h13 : a.tmps[13]?.getD undef = .int .i64 (k : Int) := hF 13 (by kernel_rfl)
            clear hF hD
            go_simp
            exact hK.out _ _ (Kp.refl _) rfl
          · intro a w' hk hF hD K hK
            have h0 : a.tmps[0]?.getD undef = .slice (some ⟨g, 0, none⟩) n c := hF 0 (by kernel_rfl)
            clear hF hD
            go_simp
            exact hK.out _ _ (Kp.refl _) rfl
          · intro a w' hk hF hD K hK
            have h13 : a.tmps[13]?.getD undef = .int .i64 (k : Int) := hF 13 (by kernel_rfl)
            clear hF hD
            go_simp
            exact hK.out _ _ (Kp.refl _) rfl
          · intro a w' hk hF hD K hK
            have h64 : a.tmps[64]?.getD undef = .int .i64 (k : Int) := hD 3 (by kernel_rfl)
            clear hF hD
            have q1 := wj.out
            go_simp
            exact hK.out _ _ (Kp.refl _) rfl
          · intro a w' hk hF hD K hK
            have h0 : a.tmps[0]?.getD undef = .slice (some ⟨g, 0, none⟩) n c := hF 0 (by kernel_rfl)
            clear hF hD
            go_simp
            exact hK.out _ _ (Kp.refl _) rfl
          · intro a w' hk hF hD K hK
            have h13 : a.tmps[13]?.getD undef = .int .i64 (k : Int) := hF 13 (by kernel_rfl)
            clear hF hD
            go_simp
            exact hK.out _ _ (Kp.refl _) rfl
          · intro a w' hk hF hD K hK
            have h67 : a.tmps[67]?.getD undef = .int .i64 (k : Int) := hD 6 (by kernel_rfl)
            clear hF hD
            have q1 := wj.out
            go_simp
            exact hK.out _ _ (Kp.refl _) rfl
          · intro a w' hk hF hD K hK
            have h66 : a.tmps[66]?.getD undef = .slice (some ⟨g, 0, none⟩) n c := hD 5 (by kernel_rfl)
            have h68 : a.tmps[68]?.getD undef = .int .i64 (k1 : Int) := hD 7 (by kernel_rfl)
            clear hF hD
            go_simp
            exact hK.out _ _ (Kp.refl _) rfl
          · intro a w' hk hF hD K hK
            have h69 : a.tmps[69]?.getD undef = .pointer (some ⟨g, k1 * 13, none⟩) := hD 8 (by kernel_rfl)
            clear hF hD
            rw [if_pos (by simp [Region.wanted])]
            refine wp_load_mid 33 (.tmp 69) rfl g (k1 * 13) ((eval_tmp _ _).trans h69) (encEs (dk k1)) _ (SD.range (Own.kp hDk hk) hlk1) Try.underlying33 rfl (hiEv _) ?_
            exact hK.out _ _ (Kp.refl _) rfl
          · intro a w' hk hF hD K hK
            have h0 : a.tmps[0]?.getD undef = .slice (some ⟨g, 0, none⟩) n c := hF 0 (by kernel_rfl)
            clear hF hD
            go_simp
            exact hK.out _ _ (Kp.refl _) rfl
          · intro a w' hk hF hD K hK
            have h13 : a.tmps[13]?.getD undef = .int .i64 (k : Int) := hF 13 (by kernel_rfl)
            clear hF hD
            go_simp
            exact hK.out _ _ (Kp.refl _) rfl
          · intro a w' hk hF hD K hK
            have h71 : a.tmps[71]?.getD undef = .slice (some ⟨g, 0, none⟩) n c := hD 10 (by kernel_rfl)
            have h72 : a.tmps[72]?.getD undef = .int .i64 (k : Int) := hD 11 (by kernel_rfl)
            clear hF hD
            go_simp
            exact hK.out _ _ (Kp.refl _) rfl
          · intro a w' hk hF hD K hK
            have h73 : a.tmps[73]?.getD undef = .pointer (some ⟨g, k * 13, none⟩) := hD 12 (by kernel_rfl)
            clear hF hD
            rw [if_pos (by simp [Region.wanted])]
            refine wp_load_mid 33 (.tmp 73) rfl g (k * 13) ((eval_tmp _ _).trans h73) (encEs (dk k)) _ (SD.range (Own.kp hDk hk) hlk) Try.underlying33 rfl (hiEv _) ?_
            exact hK.out _ _ (Kp.refl _) rfl
          · intro i0 hi0
            have hi' : i0 = 2 ∨ i0 = 3 ∨ i0 = 4 := by simpa using hi0
            rcases hi' with rfl | rfl | rfl
            · refine ⟨by omega, fun a w' hk hF hD => ?_⟩
              simp only [List.getElem?_toArray, List.getElem?_cons_zero, List.getElem?_cons_succ, Option.map_some, Option.getD_some]
              have h0 : a.tmps[0]?.getD undef = .slice (some ⟨g, 0, none⟩) n c := hF 0 (by kernel_rfl)
              clear hF hD
              exact ⟨.slice (some ⟨g, 0, none⟩) n c, rfl, Or.inl ⟨by simp [Region.wanted], fun w => by go_simp⟩⟩
            · refine ⟨by omega, fun a w' hk hF hD => ?_⟩
              simp only [List.getElem?_toArray, List.getElem?_cons_zero, List.getElem?_cons_succ, Option.map_some, Option.getD_some]
              have h13 : a.tmps[13]?.getD undef = .int .i64 (k : Int) := hF 13 (by kernel_rfl)
              clear hF hD
              exact ⟨.int .i64 (k : Int), rfl, Or.inl ⟨by simp [Region.wanted], fun w => by go_simp⟩⟩
            · refine ⟨by omega, fun a w' hk hF hD => ?_⟩
              simp only [List.getElem?_toArray, List.getElem?_cons_zero, List.getElem?_cons_succ, Option.map_some, Option.getD_some]
              have h64 : a.tmps[64]?.getD undef = .int .i64 (k : Int) := hD 3 (by kernel_rfl)
              clear hF hD
              have q1 := wj.out
              exact ⟨.int .i64 (k1 : Int), rfl, Or.inl ⟨by simp [Region.wanted], fun w => by go_simp⟩⟩
          intro v w9 k9 hv
          have v0 : v 0 = .slice (some ⟨g, 0, none⟩) n c := hv 0 (by omega)
          have v1 : v 1 = .int .i64 (k : Int) := hv 1 (by omega)
          have v9 : v 9 = .agg (encEs (dk k1)).toArray := hv 9 (by omega)
          have v2 : v 2 = .slice (some ⟨g, 0, none⟩) n c := hv 2 (by omega)
          have v4 : v 4 = .int .i64 (k1 : Int) := hv 4 (by omega)
          have v13 : v 13 = .agg (encEs (dk k)).toArray := hv 13 (by omega)
          clear hv
          simp only [G2.growPut, G2.gSlot, List.getElem?_toArray, List.getElem?_cons_zero, List.getElem?_cons_succ, Option.bind_some, List.setIfInBounds_toArray, List.set_cons_zero, List.set_cons_succ, List.drop_succ_cons, List.drop_zero, v0, v1, v9, v2, v4, v13]
          have hDa : SD base g n c dk w9 := Own.kp hDk k9
          have fxa := fx.trans (k9.fx _)
          have q1 := wj.out
          have hth1 : (w9).there g (k * 13) (encEs ((dk) k1)).toArray.size := by simpa [encEs_len] using SD.there hDa hlk
          have hS1 := SD.set hDa hlk ((dk) k1)
          have hT := sd_two hDa hlk hlk1
          have fxT := fx_two (Fx.refl (fun q => q = g) w9) (k * 13) (k1 * 13) (encEs ((dk) k1)) (encEs ((dk) k))
          obtain ⟨wA, hwA⟩ : ∃ wA, wA = (w9).setCells g (k * 13) (encEs ((dk) k1)) := ⟨_, rfl⟩
          rw [← hwA] at hS1 hT fxT
          have hth2 : wA.there g (k1 * 13) (encEs ((dk) k)).toArray.size := by simpa [encEs_len] using SD.there hS1 hlk1
          obtain ⟨wB, hwB⟩ : ∃ wB, wB = wA.setCells g (k1 * 13) (encEs ((dk) k)) := ⟨_, rfl⟩
          rw [← hwB] at hT fxT
          replace hwA := hid hwA
          replace hwB := hid hwB
          clear hS1
          go_wp2_with (first | (refine wpList_store_mid rfl 33 (.tmp 75) (.tmp 70) rfl g (k * 13) (encEs ((dk) k1)).toArray rfl rfl hth1 (hiEv2 _) (all_oneCell_toArray (encEs_one _)) ?_; rw [List.toList_toArray, ← hwA.out]) | (refine wpList_store_mid rfl 33 (.tmp 76) (.tmp 74) rfl g (k1 * 13) (encEs ((dk) k)).toArray rfl rfl hth2 (hiEv2 _) (all_oneCell_toArray (encEs_one _)) ?_; rw [List.toList_toArray, ← hwB.out]) | fail)
          have hT2 : SD base g n c (fun x => d (St.fl pa (k1 + 1) x)) wB := by
            have e : (fun x => dk (St.sw k k1 x)) = (fun x => d (St.fl pa (k1 + 1) x)) := by
              rw [hke.out, hdk.out]; funext x; exact congrArg d (St.fl_step hk1 x)
            rw [← e]; exact hT
          go_roundw
          case rel => exact ⟨k1, by have := hke.out; omega, by have := hke.out; omega, by first | rfl | (congr 1; have := hke.out; omega), hT2, fxa.trans fxT⟩
          case measure => have := hke.out; simp [intOf]; omega
        · have hkjI : ¬ (k : Int) < (j : Int) - 1 := by omega
          obtain rfl : j = k + 1 := by omega
          go_wp2
          go_end0
          exact ⟨rfl, ⟨_, hDk, St.Re.fl d (by omega) hjb, St.fl_so ltS_od hS2 HF.out⟩, fx⟩
end Go.Proofs.Ytcddllaljgfjbaa
