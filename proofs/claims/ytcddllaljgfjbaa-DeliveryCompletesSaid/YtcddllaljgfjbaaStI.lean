
/-
Sorting events in place: insertion: the walk.
-/
import Derived.Test.YtcddllaljgfjbaaStX
namespace Go.Proofs.Ytcddllaljgfjbaa
set_option linter.unusedSimpArgs false
set_option linter.unusedVariables false
open Go.RowKit

def ltS (x y : EvS) : Bool := ltE x.e y.e
theorem ltS_od : St.Od ltS := ⟨fun x y z h1 h2 => ltE_od.tr _ _ _ h1 h2, fun x y h => ltE_od.asy _ _ h⟩
theorem ord_at (x y : EvS) (w : World) : Calls Try.prog 66 #[.agg (encEs x).toArray, .agg (encEs y).toArray] w fun e w' => e = .returned (.int .i64 (cmpE x.e y.e)) ∧ Kp w w' := eOrd1_any x.e y.e _ _ w
theorem cmpE_ltS (x y : EvS) : decide (cmpE x.e y.e < 0) = ltS x y := cmpE_neg x.e y.e
set_option maxRecDepth 8000 in
set_option maxHeartbeats 4000000 in
theorem sIns_any (base g n c : Nat) (d : Nat → EvS) (pa pb : Nat) (w : World) (h : SD base g n c d w) (h1 : pa ≤ pb) (h2 : pb ≤ n) (hn : n ≤ 4096) :
    Calls Try.prog 102 #[.slice (some ⟨g, 0, none⟩) n c, .int .i64 (pa : Int), .int .i64 (pb : Int), .func (.func 66) #[] #[]] w fun e w' => e = .returned (.tuple #[]) ∧ (∃ d', SD base g n c d' w' ∧ St.Re pa pb d d' ∧ St.So ltS pa pb d') ∧ Fx (fun q => q = g) w w' := by
  go_enter Try.func102, Try.ntmps102
  go_wp2_with fail
  go_loopw [8] (fun vi wr => ∃ (i : Nat) (dc : Nat → EvS), pa + 1 ≤ i ∧ i ≤ max pb (pa + 1) ∧ vi = .int .i64 (i : Int) ∧ SD base g n c dc wr ∧ St.Re pa pb d dc ∧ St.So ltS pa i dc ∧ Fx (fun q => q = g) w wr) (fun vi _ => pb - (intOf vi).toNat)
  case atStart => exact ⟨pa + 1, d, Nat.le_refl _, by omega, by go_num, h, St.Re.refl _ _ _, St.So.one (by omega), Fx.refl _ _⟩
  case round =>
    obtain ⟨i, dc, hi1, hi2, rfl, hD, hRe, hSo, fx⟩ := hrel
    obtain ⟨wo, rfl⟩ : ∃ wo : World, wo = wr := ⟨_, rfl⟩
    by_cases hlt : i < pb
    · have hil : (i : Int) < (pb : Int) := by omega
      have hI0 := hid (St.In.start (lt := ltS) (d := dc) hSo (by omega))
      replace hSo := hid hSo
      go_wp2_with fail
      go_loopw [9] (fun vj wi => ∃ (j : Nat) (dj : Nat → EvS), vj = .int .i64 (j : Int) ∧ SD base g n c dj wi ∧ St.Re pa pb d dj ∧ Hid (St.In ltS pa i j dj) ∧ Fx (fun q => q = g) w wi) (fun vj _ => (intOf vj).toNat)
      case atStart => exact ⟨i, dc, rfl, hD, hRe, hI0, fx⟩
      case round =>
        clear hD hRe fx hI0
        obtain ⟨j, dj, rfl, hD, hRe, HI, fxI⟩ := hrel
        obtain ⟨wi, rfl⟩ : ∃ wi : World, wi = wr := ⟨_, rfl⟩
        have hji := HI.out.le
        have hlj : j < n := by omega
        by_cases hja : pa < j
        · have hjaI : (pa : Int) < (j : Int) := by omega
          have ed : decide ((pa : Int) < (j : Int)) = true := decide_eq_true hjaI
          have ed2 : decide (pa < j) = true := decide_eq_true hja
          obtain ⟨j1, hj1⟩ : ∃ j1, j1 = j - 1 := ⟨_, rfl⟩
          have hlj1 : j1 < n := by omega
          have wj := hid (show IntKind.i64.wrap ((j : Int) - 1) = (j1 : Int) by rw [IntWalk.i64_in _ (by omega)]; omega)
          have wj2 := hid (show IntKind.i64.wrap (((j - 1 : Nat)) : Int) = (j1 : Int) by rw [IntWalk.i64_in _ (by omega), hj1])
          have hjI : (j : Int) < (n : Int) := by omega
          have hj1I : (j1 : Int) < (n : Int) := by omega
          have hjI0 : (0 : Int) ≤ (j : Int) := by omega
          have hj1I0 : (0 : Int) ≤ (j1 : Int) := by omega
          replace hj1 := hid hj1
          obtain ⟨bl, hbl⟩ : ∃ bl, ltS (dj j) (dj j1) = bl := ⟨_, rfl⟩
          have hce : decide (cmpE (dj j).e (dj j1).e < 0) = bl := by rw [cmpE_ltS, hbl]
          replace hbl := hid hbl
          have HC := hid (ord_at (dj j) (dj j1))
          obtain ⟨z, hz⟩ : ∃ z, z = cmpE (dj j).e (dj j1).e := ⟨_, rfl⟩
          rw [← hz] at hce HC
          replace hz := hid hz
          go_upto_region 4 with (fail)
          refine G2.wp_region_growT Kp [] 16 53 (G2.pvL [G2.eqv (.int .i64 (j : Int)), G2.eqv (.int .i64 (pa : Int)), G2.eqv (.bool true), G2.eqv (.bool true), G2.eqv (.func (.func 66) #[] #[]), G2.eqv (.slice (some ⟨g, 0, none⟩) n c), G2.eqv (.int .i64 (j : Int)), G2.eqv (.pointer (some ⟨g, j * 13, none⟩)), G2.eqv (.agg (encEs (dj j)).toArray), G2.eqv (.slice (some ⟨g, 0, none⟩) n c), G2.eqv (.int .i64 (j : Int)), G2.eqv (.int .i64 (j1 : Int)), G2.eqv (.pointer (some ⟨g, j1 * 13, none⟩)), G2.eqv (.agg (encEs (dj j1)).toArray), G2.eqv (.int .i64 z), G2.eqv (.bool bl)]) (by kernel_rfl) (by kernel_rfl) rfl (fun x => Kp.refl x) (fun _ _ _ h k => h.trans k) (Kp.refl _).drew (by intro _ _ _ _ _ h; exact h) (G2.pvL_keep (G2.stabL_cons (G2.stab_eq _) (G2.stabL_cons (G2.stab_eq _) (G2.stabL_cons (G2.stab_eq _) (G2.stabL_cons (G2.stab_eq _) (G2.stabL_cons (G2.stab_eq _) (G2.stabL_cons (G2.stab_eq _) (G2.stabL_cons (G2.stab_eq _) (G2.stabL_cons (G2.stab_eq _) (G2.stabL_cons (G2.stab_eq _) (G2.stabL_cons (G2.stab_eq _) (G2.stabL_cons (G2.stab_eq _) (G2.stabL_cons (G2.stab_eq _) (G2.stabL_cons (G2.stab_eq _) (G2.stabL_cons (G2.stab_eq _) (G2.stabL_cons (G2.stab_eq _) (G2.stabL_cons (G2.stab_eq _) (G2.stabL_nil)))))))))))))))))) (G2.stepsT_cons 0 ?_ (G2.stepsT_cons 1 ?_ (G2.stepsT_cons 2 ?_ (G2.stepsT_cons 3 ?_ (G2.stepsT_cons 4 ?_ (G2.stepsT_cons 5 ?_ (G2.stepsT_cons 6 ?_ (G2.stepsT_cons 7 ?_ (G2.stepsT_cons 8 ?_ (G2.stepsT_cons 9 ?_ (G2.stepsT_cons 10 ?_ (G2.stepsT_cons 11 ?_ (G2.stepsT_cons 12 ?_ (G2.stepsT_cons 13 ?_ (G2.stepsT_cons 14 ?_ (G2.stepsT_cons 15 ?_ (G2.stepsT_nil _ _ _))))))))))))))))) ?_ ?_
          · intro a w' hk hF hD K hK
            have h9 : a.tmps[9]?.getD undef = .int .i64 (j : Int) := hF 9 (by kernel_rfl)
            clear hF hD
            go_simp
            exact hK.out _ _ (Kp.refl _) rfl
          · intro a w' hk hF hD K hK
            have h1 : a.tmps[1]?.getD undef = .int .i64 (pa : Int) := hF 1 (by kernel_rfl)
            clear hF hD
            go_simp
            exact hK.out _ _ (Kp.refl _) rfl
          · intro a w' hk hF hD K hK
            have h18 : a.tmps[18]?.getD undef = .int .i64 (j : Int) := hD 0 (by kernel_rfl)
            have h19 : a.tmps[19]?.getD undef = .int .i64 (pa : Int) := hD 1 (by kernel_rfl)
            clear hF hD
            go_simp
            exact hK.out _ _ (Kp.refl _) rfl
          · intro a w' hk hF hD K hK
            have h20 : a.tmps[20]?.getD undef = .bool true := hD 2 (by kernel_rfl)
            clear hF hD
            go_simp
            exact hK.out _ _ (Kp.refl _) rfl
          · intro a w' hk hF hD K hK
            have h3 : a.tmps[3]?.getD undef = .func (.func 66) #[] #[] := hF 3 (by kernel_rfl)
            have h21 : a.tmps[21]?.getD undef = .bool true := hD 3 (by kernel_rfl)
            have g21 := guard_get h21
            clear hF hD
            go_simp
            exact hK.out _ _ (Kp.refl _) rfl
          · intro a w' hk hF hD K hK
            have h0 : a.tmps[0]?.getD undef = .slice (some ⟨g, 0, none⟩) n c := hF 0 (by kernel_rfl)
            have h21 : a.tmps[21]?.getD undef = .bool true := hD 3 (by kernel_rfl)
            have g21 := guard_get h21
            clear hF hD
            go_simp
            exact hK.out _ _ (Kp.refl _) rfl
          · intro a w' hk hF hD K hK
            have h9 : a.tmps[9]?.getD undef = .int .i64 (j : Int) := hF 9 (by kernel_rfl)
            have h21 : a.tmps[21]?.getD undef = .bool true := hD 3 (by kernel_rfl)
            have g21 := guard_get h21
            clear hF hD
            go_simp
            exact hK.out _ _ (Kp.refl _) rfl
          · intro a w' hk hF hD K hK
            have h23 : a.tmps[23]?.getD undef = .slice (some ⟨g, 0, none⟩) n c := hD 5 (by kernel_rfl)
            have h24 : a.tmps[24]?.getD undef = .int .i64 (j : Int) := hD 6 (by kernel_rfl)
            have h21 : a.tmps[21]?.getD undef = .bool true := hD 3 (by kernel_rfl)
            have g21 := guard_get h21
            clear hF hD
            go_simp
            exact hK.out _ _ (Kp.refl _) rfl
          · intro a w' hk hF hD K hK
            have h25 : a.tmps[25]?.getD undef = .pointer (some ⟨g, j * 13, none⟩) := hD 7 (by kernel_rfl)
            have h21 : a.tmps[21]?.getD undef = .bool true := hD 3 (by kernel_rfl)
            have g21 := guard_get h21
            clear hF hD
            rw [if_pos (by simp [Region.wanted, yielded, g21])]
            refine wp_load_mid 33 (.tmp 25) rfl g (j * 13) ((eval_tmp _ _).trans h25) (encEs (dj j)) _ (SD.range (Own.kp hD hk) hlj) Try.underlying33 rfl (hiEv _) ?_
            exact hK.out _ _ (Kp.refl _) rfl
          · intro a w' hk hF hD K hK
            have h0 : a.tmps[0]?.getD undef = .slice (some ⟨g, 0, none⟩) n c := hF 0 (by kernel_rfl)
            have h21 : a.tmps[21]?.getD undef = .bool true := hD 3 (by kernel_rfl)
            have g21 := guard_get h21
            clear hF hD
            go_simp
            exact hK.out _ _ (Kp.refl _) rfl
          · intro a w' hk hF hD K hK
            have h9 : a.tmps[9]?.getD undef = .int .i64 (j : Int) := hF 9 (by kernel_rfl)
            have h21 : a.tmps[21]?.getD undef = .bool true := hD 3 (by kernel_rfl)
            have g21 := guard_get h21
            clear hF hD
            go_simp
            exact hK.out _ _ (Kp.refl _) rfl
          · intro a w' hk hF hD K hK
            have h28 : a.tmps[28]?.getD undef = .int .i64 (j : Int) := hD 10 (by kernel_rfl)
            have h21 : a.tmps[21]?.getD undef = .bool true := hD 3 (by kernel_rfl)
            have g21 := guard_get h21
            clear hF hD
            have q1 := wj.out
            have q2 := wj2.out
            go_simp
            exact hK.out _ _ (Kp.refl _) rfl
          · intro a w' hk hF hD K hK
            have h27 : a.tmps[27]?.getD undef = .slice (some ⟨g, 0, none⟩) n c := hD 9 (by kernel_rfl)
            have h29 : a.tmps[29]?.getD undef = .int .i64 (j1 : Int) := hD 11 (by kernel_rfl)
            have h21 : a.tmps[21]?.getD undef = .bool true := hD 3 (by kernel_rfl)
            have g21 := guard_get h21
            clear hF hD
            go_simp
            exact hK.out _ _ (Kp.refl _) rfl
          · intro a w' hk hF hD K hK
            have h30 : a.tmps[30]?.getD undef = .pointer (some ⟨g, j1 * 13, none⟩) := hD 12 (by kernel_rfl)
            have h21 : a.tmps[21]?.getD undef = .bool true := hD 3 (by kernel_rfl)
            have g21 := guard_get h21
            clear hF hD
            rw [if_pos (by simp [Region.wanted, yielded, g21])]
            refine wp_load_mid 33 (.tmp 30) rfl g (j1 * 13) ((eval_tmp _ _).trans h30) (encEs (dj j1)) _ (SD.range (Own.kp hD hk) hlj1) Try.underlying33 rfl (hiEv _) ?_
            exact hK.out _ _ (Kp.refl _) rfl
          · intro a w' hk hF hD K hK
            have h22 : a.tmps[22]?.getD undef = .func (.func 66) #[] #[] := hD 4 (by kernel_rfl)
            have h26 : a.tmps[26]?.getD undef = .agg (encEs (dj j)).toArray := hD 8 (by kernel_rfl)
            have h31 : a.tmps[31]?.getD undef = .agg (encEs (dj j1)).toArray := hD 13 (by kernel_rfl)
            have h21 : a.tmps[21]?.getD undef = .bool true := hD 3 (by kernel_rfl)
            have g21 := guard_get h21
            clear hF hD
            go_simp
            refine (HC.out _).mono ?_
            rintro e w9 ⟨rfl, hk9⟩
            exact hK.out _ _ hk9 rfl
          · intro a w' hk hF hD K hK
            have h32 : a.tmps[32]?.getD undef = .int .i64 z := hD 14 (by kernel_rfl)
            have h21 : a.tmps[21]?.getD undef = .bool true := hD 3 (by kernel_rfl)
            have g21 := guard_get h21
            clear hF hD
            have q1 := hce
            go_simp
            exact hK.out _ _ (Kp.refl _) rfl
          · exact fun i0 hi0 => by simp at hi0
          intro v w9 k9 hv
          have v3 : v 3 = .bool true := hv 3 (by omega)
          have v15 : v 15 = .bool bl := hv 15 (by omega)
          clear hv
          simp only [G2.growPut, G2.gSlot, List.getElem?_toArray, List.getElem?_cons_zero, List.getElem?_cons_succ, Option.bind_some, List.setIfInBounds_toArray, List.set_cons_zero, List.set_cons_succ, List.drop_succ_cons, List.drop_zero, v3, v15]
          have hD9 : SD base g n c dj w9 := Own.kp hD k9
          have fx9 := fxI.trans (k9.fx _)
          have hRe9 := hRe
          cases bl with
          | true =>
            have HI2 := hid (HI.out.step ltS_od hja (by rw [← hj1.out]; exact hbl.out))
            have hRe2 : St.Re pa pb d (fun k => dj (St.sw j j1 k)) := hRe.trans (St.Re.swap dj (by omega) (by have := hj1.out; omega))
            rw [← hj1.out] at HI2
            clear hce HC
            go_upto_region 6 with (fail)
            refine G2.wp_region_growT Kp [2, 3, 4] 14 53 (G2.pvL [G2.eqv (.slice (some ⟨g, 0, none⟩) n c), G2.eqv (.int .i64 (j : Int)), G2.eqv (.slice (some ⟨g, 0, none⟩) n c), G2.eqv (.int .i64 (j : Int)), G2.eqv (.int .i64 (j1 : Int)), G2.eqv (.slice (some ⟨g, 0, none⟩) n c), G2.eqv (.int .i64 (j : Int)), G2.eqv (.int .i64 (j1 : Int)), G2.eqv (.pointer (some ⟨g, j1 * 13, none⟩)), G2.eqv (.agg (encEs (dj j1)).toArray), G2.eqv (.slice (some ⟨g, 0, none⟩) n c), G2.eqv (.int .i64 (j : Int)), G2.eqv (.pointer (some ⟨g, j * 13, none⟩)), G2.eqv (.agg (encEs (dj j)).toArray)]) (by kernel_rfl) (by kernel_rfl) rfl (fun x => Kp.refl x) (fun _ _ _ h k => h.trans k) (Kp.refl _).drew (by intro _ _ _ _ _ h; exact h) (G2.pvL_keep (G2.stabL_cons (G2.stab_eq _) (G2.stabL_cons (G2.stab_eq _) (G2.stabL_cons (G2.stab_eq _) (G2.stabL_cons (G2.stab_eq _) (G2.stabL_cons (G2.stab_eq _) (G2.stabL_cons (G2.stab_eq _) (G2.stabL_cons (G2.stab_eq _) (G2.stabL_cons (G2.stab_eq _) (G2.stabL_cons (G2.stab_eq _) (G2.stabL_cons (G2.stab_eq _) (G2.stabL_cons (G2.stab_eq _) (G2.stabL_cons (G2.stab_eq _) (G2.stabL_cons (G2.stab_eq _) (G2.stabL_cons (G2.stab_eq _) (G2.stabL_nil)))))))))))))))) (G2.stepsT_cons 0 ?_ (G2.stepsT_cons 1 ?_ (G2.stepsT_cons 2 ?_ (G2.stepsT_cons 3 ?_ (G2.stepsT_cons 4 ?_ (G2.stepsT_cons 5 ?_ (G2.stepsT_cons 6 ?_ (G2.stepsT_cons 7 ?_ (G2.stepsT_cons 8 ?_ (G2.stepsT_cons 9 ?_ (G2.stepsT_cons 10 ?_ (G2.stepsT_cons 11 ?_ (G2.stepsT_cons 12 ?_ (G2.stepsT_cons 13 ?_ (G2.stepsT_nil _ _ _))))))))))))))) ?_ ?_
            · intro a w' hk hF hD K hK
              have h0 : a.tmps[0]?.getD undef = .slice (some ⟨g, 0, none⟩) n c := hF 0 (by kernel_rfl)
              clear hF hD
              go_simp
              exact hK.out _ _ (Kp.refl _) rfl
            · intro a w' hk hF hD K hK
              have h9 : a.tmps[9]?.getD undef = .int .i64 (j : Int) := hF 9 (by kernel_rfl)
              clear hF hD
              go_simp
              exact hK.out _ _ (Kp.refl _) rfl
            · intro a w' hk hF hD K hK
              have h0 : a.tmps[0]?.getD undef = .slice (some ⟨g, 0, none⟩) n c := hF 0 (by kernel_rfl)
              clear hF hD
              go_simp
              exact hK.out _ _ (Kp.refl _) rfl
            · intro a w' hk hF hD K hK
              have h9 : a.tmps[9]?.getD undef = .int .i64 (j : Int) := hF 9 (by kernel_rfl)
              clear hF hD
              go_simp
              exact hK.out _ _ (Kp.refl _) rfl
            · intro a w' hk hF hD K hK
              have h40 : a.tmps[40]?.getD undef = .int .i64 (j : Int) := hD 3 (by kernel_rfl)
              clear hF hD
              have q1 := wj.out
              have q2 := wj2.out
              go_simp
              exact hK.out _ _ (Kp.refl _) rfl
            · intro a w' hk hF hD K hK
              have h0 : a.tmps[0]?.getD undef = .slice (some ⟨g, 0, none⟩) n c := hF 0 (by kernel_rfl)
              clear hF hD
              go_simp
              exact hK.out _ _ (Kp.refl _) rfl
            · intro a w' hk hF hD K hK
              have h9 : a.tmps[9]?.getD undef = .int .i64 (j : Int) := hF 9 (by kernel_rfl)
              clear hF hD
              go_simp
              exact hK.out _ _ (Kp.refl _) rfl
            · intro a w' hk hF hD K hK
              have h43 : a.tmps[43]?.getD undef = .int .i64 (j : Int) := hD 6 (by kernel_rfl)
              clear hF hD
              have q1 := wj.out
              have q2 := wj2.out
              go_simp
              exact hK.out _ _ (Kp.refl _) rfl
            · intro a w' hk hF hD K hK
              have h42 : a.tmps[42]?.getD undef = .slice (some ⟨g, 0, none⟩) n c := hD 5 (by kernel_rfl)
              have h44 : a.tmps[44]?.getD undef = .int .i64 (j1 : Int) := hD 7 (by kernel_rfl)
              clear hF hD
              go_simp
              exact hK.out _ _ (Kp.refl _) rfl
            · intro a w' hk hF hD K hK
              have h45 : a.tmps[45]?.getD undef = .pointer (some ⟨g, j1 * 13, none⟩) := hD 8 (by kernel_rfl)
              clear hF hD
              rw [if_pos (by simp [Region.wanted])]
              refine wp_load_mid 33 (.tmp 45) rfl g (j1 * 13) ((eval_tmp _ _).trans h45) (encEs (dj j1)) _ (SD.range (Own.kp hD9 hk) hlj1) Try.underlying33 rfl (hiEv _) ?_
              exact hK.out _ _ (Kp.refl _) rfl
            · intro a w' hk hF hD K hK
              have h0 : a.tmps[0]?.getD undef = .slice (some ⟨g, 0, none⟩) n c := hF 0 (by kernel_rfl)
              clear hF hD
              go_simp
              exact hK.out _ _ (Kp.refl _) rfl
            · intro a w' hk hF hD K hK
              have h9 : a.tmps[9]?.getD undef = .int .i64 (j : Int) := hF 9 (by kernel_rfl)
              clear hF hD
              go_simp
              exact hK.out _ _ (Kp.refl _) rfl
            · intro a w' hk hF hD K hK
              have h47 : a.tmps[47]?.getD undef = .slice (some ⟨g, 0, none⟩) n c := hD 10 (by kernel_rfl)
              have h48 : a.tmps[48]?.getD undef = .int .i64 (j : Int) := hD 11 (by kernel_rfl)
              clear hF hD
              go_simp
              exact hK.out _ _ (Kp.refl _) rfl
            · intro a w' hk hF hD K hK
              have h49 : a.tmps[49]?.getD undef = .pointer (some ⟨g, j * 13, none⟩) := hD 12 (by kernel_rfl)
              clear hF hD
              rw [if_pos (by simp [Region.wanted])]
              refine wp_load_mid 33 (.tmp 49) rfl g (j * 13) ((eval_tmp _ _).trans h49) (encEs (dj j)) _ (SD.range (Own.kp hD9 hk) hlj) Try.underlying33 rfl (hiEv _) ?_
              exact hK.out _ _ (Kp.refl _) rfl
            · intro i0 hi0
              have hi' : i0 = 2 ∨ i0 = 3 ∨ i0 = 4 := by simpa using hi0
              rcases hi' with rfl | rfl | rfl
              · refine ⟨by omega, fun a w' hk hF hD => ?_⟩
                simp only [List.getElem?_toArray, List.getElem?_cons_zero, List.getElem?_cons_succ, Option.map_some, Option.getD_some]
                have h0 : a.tmps[0]?.getD undef = .slice (some ⟨g, 0, none⟩) n c := hF 0 (by kernel_rfl)
                clear hF hD
                exact ⟨.slice (some ⟨g, 0, none⟩) n c, rfl, Or.inl ⟨by simp [Region.wanted], fun w => by go_simp⟩⟩
              · refine ⟨by omega, fun a w' hk hF hD => ?_⟩
                simp only [List.getElem?_toArray, List.getElem?_cons_zero, List.getElem?_cons_succ, Option.map_some, Option.getD_some]
                have h9 : a.tmps[9]?.getD undef = .int .i64 (j : Int) := hF 9 (by kernel_rfl)
                clear hF hD
                exact ⟨.int .i64 (j : Int), rfl, Or.inl ⟨by simp [Region.wanted], fun w => by go_simp⟩⟩
              · refine ⟨by omega, fun a w' hk hF hD => ?_⟩
                simp only [List.getElem?_toArray, List.getElem?_cons_zero, List.getElem?_cons_succ, Option.map_some, Option.getD_some]
                have h40 : a.tmps[40]?.getD undef = .int .i64 (j : Int) := hD 3 (by kernel_rfl)
                clear hF hD
                have q1 := wj.out
                have q2 := wj2.out
                exact ⟨.int .i64 (j1 : Int), rfl, Or.inl ⟨by simp [Region.wanted], fun w => by go_simp⟩⟩
            intro v w9 k9 hv
            have v0 : v 0 = .slice (some ⟨g, 0, none⟩) n c := hv 0 (by omega)
            have v1 : v 1 = .int .i64 (j : Int) := hv 1 (by omega)
            have v9 : v 9 = .agg (encEs (dj j1)).toArray := hv 9 (by omega)
            have v2 : v 2 = .slice (some ⟨g, 0, none⟩) n c := hv 2 (by omega)
            have v4 : v 4 = .int .i64 (j1 : Int) := hv 4 (by omega)
            have v13 : v 13 = .agg (encEs (dj j)).toArray := hv 13 (by omega)
            clear hv
            simp only [G2.growPut, G2.gSlot, List.getElem?_toArray, List.getElem?_cons_zero, List.getElem?_cons_succ, Option.bind_some, List.setIfInBounds_toArray, List.set_cons_zero, List.set_cons_succ, List.drop_succ_cons, List.drop_zero, v0, v1, v9, v2, v4, v13]
            have hDa : SD base g n c dj w9 := Own.kp hD9 k9
            have fxa := fx9.trans (k9.fx _)
            have q1 := wj.out
            have q2 := wj2.out
            have hth1 : (w9).there g (j * 13) (encEs ((dj) j1)).toArray.size := by simpa [encEs_len] using SD.there hDa hlj
            have hS1 := SD.set hDa hlj ((dj) j1)
            have hT := sd_two hDa hlj hlj1
            have fxT := fx_two (Fx.refl (fun q => q = g) w9) (j * 13) (j1 * 13) (encEs ((dj) j1)) (encEs ((dj) j))
            obtain ⟨wA, hwA⟩ : ∃ wA, wA = (w9).setCells g (j * 13) (encEs ((dj) j1)) := ⟨_, rfl⟩
            rw [← hwA] at hS1 hT fxT
            have hth2 : wA.there g (j1 * 13) (encEs ((dj) j)).toArray.size := by simpa [encEs_len] using SD.there hS1 hlj1
            obtain ⟨wB, hwB⟩ : ∃ wB, wB = wA.setCells g (j1 * 13) (encEs ((dj) j)) := ⟨_, rfl⟩
            rw [← hwB] at hT fxT
            replace hwA := hid hwA
            replace hwB := hid hwB
            clear hS1
            go_wp2_with (first | (refine wpList_store_mid rfl 33 (.tmp 51) (.tmp 46) rfl g (j * 13) (encEs ((dj) j1)).toArray rfl rfl hth1 (hiEv2 _) (all_oneCell_toArray (encEs_one _)) ?_; rw [List.toList_toArray, ← hwA.out]) | (refine wpList_store_mid rfl 33 (.tmp 52) (.tmp 50) rfl g (j1 * 13) (encEs ((dj) j)).toArray rfl rfl hth2 (hiEv2 _) (all_oneCell_toArray (encEs_one _)) ?_; rw [List.toList_toArray, ← hwB.out]) | fail)
            go_roundw
            case rel => exact ⟨j1, _, by first | rfl | (congr 1; have := hj1.out; omega), hT, hRe2, HI2, fxa.trans fxT⟩
            case measure => have := hj1.out; simp [intOf]; omega
          | false =>
            have hS9 := HI.out.done ltS_od (.inr (by rw [← hj1.out]; exact hbl.out))
            clear fxI
            go_wp2_with fail
            go_roundw
            case rel => exact ⟨i + 1, dj, Nat.le_succ_of_le hi1, by omega, by go_num, hD9, hRe9, hS9, fx9⟩
            case measure => simp [intOf]; omega
        · have hjaI : ¬ (pa : Int) < (j : Int) := by omega
          have ed : decide ((pa : Int) < (j : Int)) = false := decide_eq_false hjaI
          have ed2 : decide (pa < j) = false := decide_eq_false hja
          have hS9 := HI.out.done ltS_od (.inl (by omega))
          go_upto_region 4 with (fail)
          refine G2.wp_region_growT Kp [] 16 53 (G2.pvL [G2.eqv (.int .i64 (j : Int)), G2.eqv (.int .i64 (pa : Int)), G2.eqv (.bool false), G2.eqv (.bool false), G2.eqv (undef), G2.eqv (undef), G2.eqv (undef), G2.eqv (undef), G2.eqv (undef), G2.eqv (undef), G2.eqv (undef), G2.eqv (undef), G2.eqv (undef), G2.eqv (undef), G2.eqv (undef), G2.eqv (undef)]) (by kernel_rfl) (by kernel_rfl) rfl (fun x => Kp.refl x) (fun _ _ _ h k => h.trans k) (Kp.refl _).drew (by intro _ _ _ _ _ h; exact h) (G2.pvL_keep (G2.stabL_cons (G2.stab_eq _) (G2.stabL_cons (G2.stab_eq _) (G2.stabL_cons (G2.stab_eq _) (G2.stabL_cons (G2.stab_eq _) (G2.stabL_cons (G2.stab_eq _) (G2.stabL_cons (G2.stab_eq _) (G2.stabL_cons (G2.stab_eq _) (G2.stabL_cons (G2.stab_eq _) (G2.stabL_cons (G2.stab_eq _) (G2.stabL_cons (G2.stab_eq _) (G2.stabL_cons (G2.stab_eq _) (G2.stabL_cons (G2.stab_eq _) (G2.stabL_cons (G2.stab_eq _) (G2.stabL_cons (G2.stab_eq _) (G2.stabL_cons (G2.stab_eq _) (G2.stabL_cons (G2.stab_eq _) (G2.stabL_nil)))))))))))))))))) (G2.stepsT_cons 0 ?_ (G2.stepsT_cons 1 ?_ (G2.stepsT_cons 2 ?_ (G2.stepsT_cons 3 ?_ (G2.stepsT_cons 4 ?_ (G2.stepsT_cons 5 ?_ (G2.stepsT_cons 6 ?_ (G2.stepsT_cons 7 ?_ (G2.stepsT_cons 8 ?_ (G2.stepsT_cons 9 ?_ (G2.stepsT_cons 10 ?_ (G2.stepsT_cons 11 ?_ (G2.stepsT_cons 12 ?_ (G2.stepsT_cons 13 ?_ (G2.stepsT_cons 14 ?_ (G2.stepsT_cons 15 ?_ (G2.stepsT_nil _ _ _))))))))))))))))) ?_ ?_
          · intro a w' hk hF hD K hK
            have h9 : a.tmps[9]?.getD undef = .int .i64 (j : Int) := hF 9 (by kernel_rfl)
            clear hF hD
            go_simp
            exact hK.out _ _ (Kp.refl _) rfl
          · intro a w' hk hF hD K hK
            have h1 : a.tmps[1]?.getD undef = .int .i64 (pa : Int) := hF 1 (by kernel_rfl)
            clear hF hD
            go_simp
            exact hK.out _ _ (Kp.refl _) rfl
          · intro a w' hk hF hD K hK
            have h18 : a.tmps[18]?.getD undef = .int .i64 (j : Int) := hD 0 (by kernel_rfl)
            have h19 : a.tmps[19]?.getD undef = .int .i64 (pa : Int) := hD 1 (by kernel_rfl)
            clear hF hD
            go_simp
            exact hK.out _ _ (Kp.refl _) rfl
          · intro a w' hk hF hD K hK
            have h20 : a.tmps[20]?.getD undef = .bool false := hD 2 (by kernel_rfl)
            clear hF hD
            go_simp
            exact hK.out _ _ (Kp.refl _) rfl
          · intro a w' hk hF hD K hK
            have h3 : a.tmps[3]?.getD undef = .func (.func 66) #[] #[] := hF 3 (by kernel_rfl)
            have h21 : a.tmps[21]?.getD undef = .bool false := hD 3 (by kernel_rfl)
            have g21 := guard_get h21
            clear hF hD
            go_simp
            exact hK.out _ _ (Kp.refl _) rfl
          · intro a w' hk hF hD K hK
            have h0 : a.tmps[0]?.getD undef = .slice (some ⟨g, 0, none⟩) n c := hF 0 (by kernel_rfl)
            have h21 : a.tmps[21]?.getD undef = .bool false := hD 3 (by kernel_rfl)
            have g21 := guard_get h21
            clear hF hD
            go_simp
            exact hK.out _ _ (Kp.refl _) rfl
          · intro a w' hk hF hD K hK
            have h9 : a.tmps[9]?.getD undef = .int .i64 (j : Int) := hF 9 (by kernel_rfl)
            have h21 : a.tmps[21]?.getD undef = .bool false := hD 3 (by kernel_rfl)
            have g21 := guard_get h21
            clear hF hD
            go_simp
            exact hK.out _ _ (Kp.refl _) rfl
          · intro a w' hk hF hD K hK
            have h23 : a.tmps[23]?.getD undef = undef := hD 5 (by kernel_rfl)
            have h24 : a.tmps[24]?.getD undef = undef := hD 6 (by kernel_rfl)
            have h21 : a.tmps[21]?.getD undef = .bool false := hD 3 (by kernel_rfl)
            have g21 := guard_get h21
            clear hF hD
            go_simp
            exact hK.out _ _ (Kp.refl _) rfl
          · intro a w' hk hF hD K hK
            have h25 : a.tmps[25]?.getD undef = undef := hD 7 (by kernel_rfl)
            have h21 : a.tmps[21]?.getD undef = .bool false := hD 3 (by kernel_rfl)
            have g21 := guard_get h21
            clear hF hD
            go_simp
            exact hK.out _ _ (Kp.refl _) rfl
          · intro a w' hk hF hD K hK
            have h0 : a.tmps[0]?.getD undef = .slice (some ⟨g, 0, none⟩) n c := hF 0 (by kernel_rfl)
            have h21 : a.tmps[21]?.getD undef = .bool false := hD 3 (by kernel_rfl)
            have g21 := guard_get h21
            clear hF hD
            go_simp
            exact hK.out _ _ (Kp.refl _) rfl
          · intro a w' hk hF hD K hK
            have h9 : a.tmps[9]?.getD undef = .int .i64 (j : Int) := hF 9 (by kernel_rfl)
            have h21 : a.tmps[21]?.getD undef = .bool false := hD 3 (by kernel_rfl)
            have g21 := guard_get h21
            clear hF hD
            go_simp
            exact hK.out _ _ (Kp.refl _) rfl
          · intro a w' hk hF hD K hK
            have h28 : a.tmps[28]?.getD undef = undef := hD 10 (by kernel_rfl)
            have h21 : a.tmps[21]?.getD undef = .bool false := hD 3 (by kernel_rfl)
            have g21 := guard_get h21
            clear hF hD
            go_simp
            exact hK.out _ _ (Kp.refl _) rfl
          · intro a w' hk hF hD K hK
            have h27 : a.tmps[27]?.getD undef = undef := hD 9 (by kernel_rfl)
            have h29 : a.tmps[29]?.getD undef = undef := hD 11 (by kernel_rfl)
            have h21 : a.tmps[21]?.getD undef = .bool false := hD 3 (by kernel_rfl)
            have g21 := guard_get h21
            clear hF hD
            go_simp
            exact hK.out _ _ (Kp.refl _) rfl
          · intro a w' hk hF hD K hK
            have h30 : a.tmps[30]?.getD undef = undef := hD 12 (by kernel_rfl)
            have h21 : a.tmps[21]?.getD undef = .bool false := hD 3 (by kernel_rfl)
            have g21 := guard_get h21
            clear hF hD
            go_simp
            exact hK.out _ _ (Kp.refl _) rfl
          · intro a w' hk hF hD K hK
            have h22 : a.tmps[22]?.getD undef = undef := hD 4 (by kernel_rfl)
            have h26 : a.tmps[26]?.getD undef = undef := hD 8 (by kernel_rfl)
            have h31 : a.tmps[31]?.getD undef = undef := hD 13 (by kernel_rfl)
            have h21 : a.tmps[21]?.getD undef = .bool false := hD 3 (by kernel_rfl)
            have g21 := guard_get h21
            clear hF hD
            go_simp
            exact hK.out _ _ (Kp.refl _) rfl
          · intro a w' hk hF hD K hK
            have h32 : a.tmps[32]?.getD undef = undef := hD 14 (by kernel_rfl)
            have h21 : a.tmps[21]?.getD undef = .bool false := hD 3 (by kernel_rfl)
            have g21 := guard_get h21
            clear hF hD
            go_simp
            exact hK.out _ _ (Kp.refl _) rfl
          · exact fun i0 hi0 => by simp at hi0
          intro v w9 k9 hv
          have v3 : v 3 = .bool false := hv 3 (by omega)
          have v15 : v 15 = undef := hv 15 (by omega)
          clear hv
          simp only [G2.growPut, G2.gSlot, List.getElem?_toArray, List.getElem?_cons_zero, List.getElem?_cons_succ, Option.bind_some, List.setIfInBounds_toArray, List.set_cons_zero, List.set_cons_succ, List.drop_succ_cons, List.drop_zero, v3, v15]
          have hD9 : SD base g n c dj w9 := Own.kp hD k9
          have fx9 := fxI.trans (k9.fx _)
          have hRe9 := hRe
          clear fxI
          go_wp2_with fail
          go_roundw
          case rel => exact ⟨i + 1, dj, Nat.le_succ_of_le hi1, by omega, by go_num, hD9, hRe9, hS9, fx9⟩
          case measure => simp [intOf]; omega
    · have hil : ¬ (i : Int) < (pb : Int) := by omega
      have hS9 : St.So ltS pa pb dc := hSo.sub (Nat.le_refl _) (by omega)
      go_wp2
      go_end0
      exact ⟨rfl, ⟨dc, hD, hRe, hS9⟩, fx⟩
end Go.Proofs.Ytcddllaljgfjbaa
