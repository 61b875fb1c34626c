
/-
Sorting events in place: merging: the general case.
-/
import Derived.Test.YtcddllaljgfjbaaStN
namespace Go.Proofs.Ytcddllaljgfjbaa
set_option linter.unusedSimpArgs false
set_option linter.unusedVariables false
open Go.RowKit

theorem re_ro {lo m hi : Nat} (d : Nat → EvS) (h1 : lo ≤ m) (h2 : m ≤ hi) : St.Re lo hi d (fun k => d (St.ro lo m hi k)) := ⟨_, St.Mv.ro h1 h2, fun _ => rfl⟩
theorem ro_id {s m e : Nat} (d : Nat → EvS) (h1 : s ≤ m) (h2 : m ≤ e) (h : s = m ∨ e = m) : (fun k => d (St.ro s m e k)) = d := by
  funext k
  have : St.ro s m e k = k := by
    unfold St.ro
    repeat' split
    all_goals omega
  rw [this]
theorem mg_rest {pa s pm en mid pb : Nat} {d1 d2 : Nat → EvS} (M : St.Mg ltS pa s pm en mid pb d1) (r : St.Re pa mid d1 d2) (hm : mid ≤ en) : St.So ltS mid en d2 ∧ St.So ltS en pb d2 :=
  ⟨M.yw1.eqv fun i h _ => r.out (.inr h), M.yw2.eqv fun i h _ => r.out (.inr (Nat.le_trans hm h))⟩
theorem mg_all {pa s pm en mid pb : Nat} {d d1 d2 d3 : Nat → EvS} (M : St.Mg ltS pa s pm en mid pb d1) (R : St.Re pa pb d d1) (h1 : pa ≤ mid) (h2 : mid ≤ pb) (r : St.Re pa mid d1 d2) (g : St.So ltS pa mid d2) (r3 : St.Re mid pb d2 d3) (g3 : St.So ltS mid pb d3) : St.Re pa pb d d3 ∧ St.So ltS pa pb d3 :=
  ⟨R.trans ((r.wide (Nat.le_refl _) h2).trans (r3.wide h1 (Nat.le_refl _))), St.mg_done M r g r3 g3⟩
set_option maxRecDepth 8000 in
set_option maxHeartbeats 16000000 in
theorem sMerge_any (base g n c : Nat) (hn : n ≤ 4096) (N : Nat) : ∀ (d : Nat → EvS) (pa pm pb : Nat) (w : World), SD base g n c d w → pa < pm → pm < pb → pb ≤ n → pb - pa ≤ N → St.So ltS pa pm d → St.So ltS pm pb d →
    Calls Try.prog 103 #[.slice (some ⟨g, 0, none⟩) n c, .int .i64 (pa : Int), .int .i64 (pm : Int), .int .i64 (pb : Int), .func (.func 66) #[] #[]] w (MergeR base g n c d pa pb w) := by
  induction N using Nat.strongRecOn with
  | ind N ih =>
    intro d pa pm pb w hD h1 h2 h3 hN hS1 hS2
    by_cases hone : pm - pa = 1
    · exact sMerge1_any base g n c hn d pa pm pb w hD h1 h2 h3 hS2 hone
    by_cases htwo : pb = pm + 1
    · exact sMerge2_any base g n c hn d pa pm pb w hD h1 h3 hS1 hone htwo
    replace ih := hid ih
    go_enter Try.func103, Try.ntmps103
    have e1 : ((pm : Int) - (pa : Int) == 1) = false := by simp; omega
    have e2 : ¬ (pm : Int) - (pa : Int) = 1 := by omega
    have e3 : ((pb : Int) - (pm : Int) == 1) = false := by simp; omega
    have e4 : ¬ (pb : Int) - (pm : Int) = 1 := by omega
    obtain ⟨mid, hmid⟩ : ∃ mid, mid = (pa + pb) / 2 := ⟨_, rfl⟩
    have hmd := hid (show ((pa : Int) + (pb : Int)) / 2 = (mid : Int) by omega)
    obtain ⟨lo, hlo⟩ : ∃ lo, lo = if mid < pm then mid + pm - pb else pa := ⟨_, rfl⟩
    obtain ⟨hi, hhi⟩ : ∃ hi, hi = if mid < pm then mid else pm := ⟨_, rfl⟩
    have A := hid (St.ar_of (a := pa) (b := pb) hmid h1 h2 hlo hhi)
    have MG := hid (fun s H => St.mg_of ltS_od (d := d) hmid h1 h2 hlo hhi (s := s) H hS1 hS2)
    have hmb1 : pa < mid := by omega
    have hmb2 : mid < pb := by omega
    have hmb4 : mid < n := by omega
    have hmb5 : mid < pm → pb ≤ mid + pm := fun _ => by omega
    obtain ⟨p, hp⟩ : ∃ p, p = mid + pm - 1 := ⟨_, rfl⟩
    have hpe := hid (show (mid : Int) + (pm : Int) - 1 = (p : Int) by omega)
    rw [← hp] at A MG
    go_upto_region 25 with (fail)
    rw [hmd.out]
    have hpn : p ≤ 2 * n := by omega
    clear hmid hp e2 e4
    by_cases hmm : mid < pm
    · have hmmI : (mid : Int) < (pm : Int) := by omega
      have hmb3 : pb ≤ mid + pm := hmb5 hmm
      rw [if_pos hmm] at hlo hhi
      go_wp2_with fail
      rw [hpe.out]
      go_loopw [20, 21] (fun vs vr wr => ∃ s r : Nat, vs = .int .i64 (s : Int) ∧ vr = .int .i64 (r : Int) ∧ Hid (St.Sy ltS d p lo hi s r) ∧ SD base g n c d wr ∧ Fx (fun q => q = g) w wr) (fun vs vr _ => (intOf vr).toNat - (intOf vs).toNat)
      case atStart => exact ⟨lo, hi, by first | rfl | (congr 1; omega), by first | rfl | (congr 1; omega), hid (St.Sy.start A.out.x.2.2), hD, Fx.refl _ _⟩
      case round =>
        obtain ⟨s, r, rfl, rfl, HF, hDr, fx⟩ := hrel
        obtain ⟨wo, rfl⟩ : ∃ wo : World, wo = wr := ⟨_, rfl⟩
        have hle := HF.out.le
        have hAx := A.out.x
        by_cases hsr : s < r
        · have hsrI : (s : Int) < (r : Int) := by omega
          obtain ⟨cc, hce0⟩ : ∃ cc, cc = (s + r) / 2 := ⟨_, rfl⟩
          have hc1 : s ≤ cc := by omega
          have hc2 : cc < r := by omega
          have hAy := A.out.y cc (by omega) (by omega)
          obtain ⟨q, hq⟩ : ∃ q, q = p - cc := ⟨_, rfl⟩
          rw [← hq] at hAy
          have hhd := hid (show ((s : Int) + (r : Int)) / 2 = (cc : Int) by omega)
          have hrn : r ≤ n := by omega
          have hcn : cc < n := by omega
          have hqn : q < n := by omega
          have hcp : cc ≤ p := by have := A.out.z; omega
          have wq := hid (show IntKind.i64.wrap ((p : Int) - (cc : Int)) = (q : Int) by rw [IntWalk.i64_in _ (by omega)]; omega)
          have hcI0 : (0 : Int) ≤ (cc : Int) := by omega
          have hcI : (cc : Int) < (n : Int) := by omega
          have hqI0 : (0 : Int) ≤ (q : Int) := by omega
          have hqI : (q : Int) < (n : Int) := by omega
          obtain ⟨bl, hbl⟩ : ∃ bl, ltS (d q) (d cc) = bl := ⟨_, rfl⟩
          have hce : decide (cmpE (d q).e (d cc).e < 0) = bl := by rw [cmpE_ltS, hbl]
          rw [hq] at hbl
          replace hbl := hid hbl
          have HC := hid (ord_at (d q) (d cc))
          obtain ⟨z, hz⟩ : ∃ z, z = cmpE (d q).e (d cc).e := ⟨_, rfl⟩
          rw [← hz] at hce HC
          replace hz := hid hz
          replace hce := hid hce
          replace hq := hid hq
          clear hce0 hAy hAx
          replace hle := hid hle
          go_upto_region 35 with (fail)
          rw [hhd.out]
          clear hsrI
          refine G2.wp_region_growT Kp [] 12 220 (G2.pvL [G2.eqv (.func (.func 66) #[] #[]), G2.eqv (.slice (some ⟨g, 0, none⟩) n c), G2.eqv (.int .i64 (p : Int)), G2.eqv (.int .i64 (cc : Int)), G2.eqv (.int .i64 (q : Int)), G2.eqv (.pointer (some ⟨g, q * 13, none⟩)), G2.eqv (.agg (encEs (d q)).toArray), G2.eqv (.slice (some ⟨g, 0, none⟩) n c), G2.eqv (.int .i64 (cc : Int)), G2.eqv (.pointer (some ⟨g, cc * 13, none⟩)), G2.eqv (.agg (encEs (d cc)).toArray), G2.eqv (.int .i64 z)]) (by kernel_rfl) (by kernel_rfl) rfl (fun x => Kp.refl x) (fun _ _ _ h k => h.trans k) (Kp.refl _).drew (by intro _ _ _ _ _ h; exact h) (G2.pvL_keep (G2.stabL_cons (G2.stab_eq _) (G2.stabL_cons (G2.stab_eq _) (G2.stabL_cons (G2.stab_eq _) (G2.stabL_cons (G2.stab_eq _) (G2.stabL_cons (G2.stab_eq _) (G2.stabL_cons (G2.stab_eq _) (G2.stabL_cons (G2.stab_eq _) (G2.stabL_cons (G2.stab_eq _) (G2.stabL_cons (G2.stab_eq _) (G2.stabL_cons (G2.stab_eq _) (G2.stabL_cons (G2.stab_eq _) (G2.stabL_cons (G2.stab_eq _) (G2.stabL_nil)))))))))))))) (G2.stepsT_cons 0 ?_ (G2.stepsT_cons 1 ?_ (G2.stepsT_cons 2 ?_ (G2.stepsT_cons 3 ?_ (G2.stepsT_cons 4 ?_ (G2.stepsT_cons 5 ?_ (G2.stepsT_cons 6 ?_ (G2.stepsT_cons 7 ?_ (G2.stepsT_cons 8 ?_ (G2.stepsT_cons 9 ?_ (G2.stepsT_cons 10 ?_ (G2.stepsT_cons 11 ?_ (G2.stepsT_nil _ _ _))))))))))))) ?_ ?_
          · intro a w' hk hF hD K hK
            have h4 : a.tmps[4]?.getD undef = .func (.func 66) #[] #[] := hF 4 (by kernel_rfl)
            clear hF hD
            go_simp
            exact hK.out _ _ (Kp.refl _) rfl
          · intro a w' hk hF hD K hK
            have h0 : a.tmps[0]?.getD undef = .slice (some ⟨g, 0, none⟩) n c := hF 0 (by kernel_rfl)
            clear hF hD
            go_simp
            exact hK.out _ _ (Kp.refl _) rfl
          · intro a w' hk hF hD K hK
            have h22 : a.tmps[22]?.getD undef = .int .i64 (p : Int) := hF 22 (by kernel_rfl)
            clear hF hD
            go_simp
            exact hK.out _ _ (Kp.refl _) rfl
          · intro a w' hk hF hD K hK
            have h23 : a.tmps[23]?.getD undef = .int .i64 (cc : Int) := hF 23 (by kernel_rfl)
            clear hF hD
            go_simp
            exact hK.out _ _ (Kp.refl _) rfl
          · intro a w' hk hF hD K hK
            have h160 : a.tmps[160]?.getD undef = .int .i64 (p : Int) := hD 2 (by kernel_rfl)
            have h161 : a.tmps[161]?.getD undef = .int .i64 (cc : Int) := hD 3 (by kernel_rfl)
            clear hF hD
            have q1 := wq.out
            go_simp
            exact hK.out _ _ (Kp.refl _) rfl
          · intro a w' hk hF hD K hK
            have h159 : a.tmps[159]?.getD undef = .slice (some ⟨g, 0, none⟩) n c := hD 1 (by kernel_rfl)
            have h162 : a.tmps[162]?.getD undef = .int .i64 (q : Int) := hD 4 (by kernel_rfl)
            clear hF hD
            go_simp
            exact hK.out _ _ (Kp.refl _) rfl
          · intro a w' hk hF hD K hK
            have h163 : a.tmps[163]?.getD undef = .pointer (some ⟨g, q * 13, none⟩) := hD 5 (by kernel_rfl)
            clear hF hD
            rw [if_pos (by simp [Region.wanted])]
            refine wp_load_mid 33 (.tmp 163) rfl g (q * 13) ((eval_tmp _ _).trans h163) (encEs (d q)) _ (SD.range (Own.kp hDr hk) hqn) Try.underlying33 rfl (hiEv _) ?_
            exact hK.out _ _ (Kp.refl _) rfl
          · intro a w' hk hF hD K hK
            have h0 : a.tmps[0]?.getD undef = .slice (some ⟨g, 0, none⟩) n c := hF 0 (by kernel_rfl)
            clear hF hD
            go_simp
            exact hK.out _ _ (Kp.refl _) rfl
          · intro a w' hk hF hD K hK
            have h23 : a.tmps[23]?.getD undef = .int .i64 (cc : Int) := hF 23 (by kernel_rfl)
            clear hF hD
            go_simp
            exact hK.out _ _ (Kp.refl _) rfl
          · intro a w' hk hF hD K hK
            have h165 : a.tmps[165]?.getD undef = .slice (some ⟨g, 0, none⟩) n c := hD 7 (by kernel_rfl)
            have h166 : a.tmps[166]?.getD undef = .int .i64 (cc : Int) := hD 8 (by kernel_rfl)
            clear hF hD
            go_simp
            exact hK.out _ _ (Kp.refl _) rfl
          · intro a w' hk hF hD K hK
            have h167 : a.tmps[167]?.getD undef = .pointer (some ⟨g, cc * 13, none⟩) := hD 9 (by kernel_rfl)
            clear hF hD
            rw [if_pos (by simp [Region.wanted])]
            refine wp_load_mid 33 (.tmp 167) rfl g (cc * 13) ((eval_tmp _ _).trans h167) (encEs (d cc)) _ (SD.range (Own.kp hDr hk) hcn) Try.underlying33 rfl (hiEv _) ?_
            exact hK.out _ _ (Kp.refl _) rfl
          · intro a w' hk hF hD K hK
            have h158 : a.tmps[158]?.getD undef = .func (.func 66) #[] #[] := hD 0 (by kernel_rfl)
            have h164 : a.tmps[164]?.getD undef = .agg (encEs (d q)).toArray := hD 6 (by kernel_rfl)
            have h168 : a.tmps[168]?.getD undef = .agg (encEs (d cc)).toArray := hD 10 (by kernel_rfl)
            clear hF hD
            go_simp
            refine (HC.out _).mono ?_
            rintro e w9 ⟨rfl, hk9⟩
            exact hK.out _ _ hk9 rfl
          · exact fun i0 hi0 => by simp at hi0
          intro v w9 k9 hv
          have v11 : v 11 = .int .i64 z := hv 11 (by omega)
          clear hv
          simp only [G2.growPut, G2.gSlot, List.getElem?_toArray, List.getElem?_cons_zero, List.getElem?_cons_succ, Option.bind_some, List.setIfInBounds_toArray, List.set_cons_zero, List.set_cons_succ, List.drop_succ_cons, List.drop_zero, v11]
          have hD9 : SD base g n c d w9 := Own.kp hDr k9
          have fx9 := fx.trans (k9.fx _)
          clear HC
          replace hce := hce.out
          cases bl with
          | false =>
            have HF2 := hid (HF.out.lower ltS_od A.out hS1 hS2 hc1 hc2 hbl.out)
            go_wp2_with fail
            go_roundw
            case rel => exact ⟨cc + 1, r, by go_num, rfl, HF2, hD9, fx9⟩
            case measure => simp [intOf]; omega
          | true =>
            have HF2 := hid (HF.out.upper ltS_od A.out hS1 hS2 hc1 hc2 hbl.out)
            go_wp2_with fail
            go_roundw
            case rel => exact ⟨s, cc, rfl, by first | rfl | go_num, HF2, hD9, fx9⟩
            case measure => simp [intOf]; omega
        · have hsrI : ¬ (s : Int) < (r : Int) := by omega
          obtain rfl : r = s := by omega
          obtain ⟨en, hen⟩ : ∃ en, en = mid + pm - r := ⟨_, rfl⟩
          have MM := MG.out r HF.out
          rw [← hen] at MM
          obtain ⟨b1, b2, b3, b4, b5, M0⟩ := MM
          have b6 : mid ≤ en := by omega
          have hee := hid (show (mid : Int) + (pm : Int) - (r : Int) = (en : Int) by omega)
          have hR : St.Re pa pb d (fun k => d (St.ro r pm en k)) := (re_ro d b1 b3).wide b2 b4
          have M := hid M0
          clear M0 MG A HF hle hAx
          obtain ⟨d1, hd1⟩ : ∃ d1, d1 = (fun k => d (St.ro r pm en k)) := ⟨_, rfl⟩
          rw [← hd1] at hR M
          replace hR := hid hR
          replace hd1 := hid hd1
          obtain ⟨s, hse⟩ : ∃ s, s = r := ⟨_, rfl⟩
          subst hse
          have b8 : s = pm ∨ s < pm := by omega
          have b9 : s < pm → en = pm → s = mid := fun _ h => by omega
          replace b9 := hid b9
          clear hen
          go_upto_region 39 with (fail)
          rw [hee.out]
          by_cases g1 : s < pm
          · have g1I : (s : Int) < (pm : Int) := by omega
            by_cases g2 : pm < en
            · have g2I : (pm : Int) < (en : Int) := by omega
              have C1 := hid (sRot_any base g n c d s pm en (.func (.func 66) #[] #[]) wo hDr g1 g2 (by omega) hn)
              clear hsr hsrI hmb5 hlo hhi e1 e3
              go_upto_if 185 with (fail)
              go_wp2_with fail
              refine C1.out.mono ?_
              rintro e7 w7 ⟨rfl, hD7, fx7⟩
              replace hD7 : SD base g n c d1 w7 := by rw [hd1.out]; exact hD7
              have fx7' := fx.trans fx7
              clear hDr fx C1 hd1
              by_cases g3 : pa < s
              · have g3I : (pa : Int) < (s : Int) := by omega
                by_cases g4 : s < mid
                · have g4I : (s : Int) < (mid : Int) := by omega
                  have C2 := hid (ih.out (mid - pa) (by omega) d1 pa s mid w7 hD7 g3 g4 (by omega) (Nat.le_refl _) M.out.xz1 M.out.xz2)
                  go_wp2_with fail
                  refine C2.out.mono ?_
                  rintro e8 w8 ⟨rfl, ⟨d8, hD8, r8, s8⟩, fx8⟩
                  have HQ := hid (mg_rest M.out r8 b6)
                  have HZ := hid (fun d3 (h : St.Re mid pb d8 d3) (k : St.So ltS mid pb d3) => mg_all M.out hR.out (by omega) (by omega) r8 s8 h k)
                  have fx8' := (fx7').trans fx8
                  by_cases g5 : mid < en
                  · have g5I : (mid : Int) < (en : Int) := by omega
                    by_cases g6 : en < pb
                    · have g6I : (en : Int) < (pb : Int) := by omega
                      have C3 := hid (ih.out (pb - mid) (by omega) d8 mid en pb w8 hD8 g5 g6 h3 (Nat.le_refl _) (HQ).out.1 (HQ).out.2)
                      go_wp2_with fail
                      refine C3.out.mono ?_
                      rintro e9 w9 ⟨rfl, ⟨d9, hD9, r9, s9⟩, fx9⟩
                      have Z := (HZ).out d9 r9 s9
                      go_wp2
                      go_end0
                      exact ⟨rfl, ⟨d9, hD9, Z.1, Z.2⟩, (fx8').trans fx9⟩
                    · have g6I : ¬ (en : Int) < (pb : Int) := by omega
                      have Z := (HZ).out d8 (St.Re.refl _ _ _) ((HQ).out.1.sub (Nat.le_refl _) (by omega))
                      go_wp2
                      go_end0
                      exact ⟨rfl, ⟨_, hD8, Z.1, Z.2⟩, fx8'⟩
                  · have g5I : ¬ (mid : Int) < (en : Int) := by omega
                    have Z := (HZ).out d8 (St.Re.refl _ _ _) ((HQ).out.2.sub (by omega) (Nat.le_refl _))
                    go_wp2
                    go_end0
                    exact ⟨rfl, ⟨_, hD8, Z.1, Z.2⟩, fx8'⟩
                · have g4I : ¬ (s : Int) < (mid : Int) := by omega
                  have HQ := hid (mg_rest M.out (St.Re.refl _ _ _) b6)
                  have HZ := hid (fun d3 (h : St.Re mid pb d1 d3) (k : St.So ltS mid pb d3) => mg_all M.out hR.out (by omega) (by omega) (St.Re.refl _ _ _) (M.out.xz1.sub (Nat.le_refl _) (by omega)) h k)
                  by_cases g5 : mid < en
                  · have g5I : (mid : Int) < (en : Int) := by omega
                    by_cases g6 : en < pb
                    · have g6I : (en : Int) < (pb : Int) := by omega
                      have C3 := hid (ih.out (pb - mid) (by omega) d1 mid en pb w7 hD7 g5 g6 h3 (Nat.le_refl _) (HQ).out.1 (HQ).out.2)
                      go_wp2_with fail
                      refine C3.out.mono ?_
                      rintro e9 w9 ⟨rfl, ⟨d9, hD9, r9, s9⟩, fx9⟩
                      have Z := (HZ).out d9 r9 s9
                      go_wp2
                      go_end0
                      exact ⟨rfl, ⟨d9, hD9, Z.1, Z.2⟩, (fx7').trans fx9⟩
                    · have g6I : ¬ (en : Int) < (pb : Int) := by omega
                      have Z := (HZ).out d1 (St.Re.refl _ _ _) ((HQ).out.1.sub (Nat.le_refl _) (by omega))
                      go_wp2
                      go_end0
                      exact ⟨rfl, ⟨_, hD7, Z.1, Z.2⟩, fx7'⟩
                  · have g5I : ¬ (mid : Int) < (en : Int) := by omega
                    have Z := (HZ).out d1 (St.Re.refl _ _ _) ((HQ).out.2.sub (by omega) (Nat.le_refl _))
                    go_wp2
                    go_end0
                    exact ⟨rfl, ⟨_, hD7, Z.1, Z.2⟩, fx7'⟩
              · have g3I : ¬ (pa : Int) < (s : Int) := by omega
                have HQ := hid (mg_rest M.out (St.Re.refl _ _ _) b6)
                have HZ := hid (fun d3 (h : St.Re mid pb d1 d3) (k : St.So ltS mid pb d3) => mg_all M.out hR.out (by omega) (by omega) (St.Re.refl _ _ _) (M.out.xz2.sub (by omega) (Nat.le_refl _)) h k)
                by_cases g5 : mid < en
                · have g5I : (mid : Int) < (en : Int) := by omega
                  by_cases g6 : en < pb
                  · have g6I : (en : Int) < (pb : Int) := by omega
                    have C3 := hid (ih.out (pb - mid) (by omega) d1 mid en pb w7 hD7 g5 g6 h3 (Nat.le_refl _) (HQ).out.1 (HQ).out.2)
                    go_wp2_with fail
                    refine C3.out.mono ?_
                    rintro e9 w9 ⟨rfl, ⟨d9, hD9, r9, s9⟩, fx9⟩
                    have Z := (HZ).out d9 r9 s9
                    go_wp2
                    go_end0
                    exact ⟨rfl, ⟨d9, hD9, Z.1, Z.2⟩, (fx7').trans fx9⟩
                  · have g6I : ¬ (en : Int) < (pb : Int) := by omega
                    have Z := (HZ).out d1 (St.Re.refl _ _ _) ((HQ).out.1.sub (Nat.le_refl _) (by omega))
                    go_wp2
                    go_end0
                    exact ⟨rfl, ⟨_, hD7, Z.1, Z.2⟩, fx7'⟩
                · have g5I : ¬ (mid : Int) < (en : Int) := by omega
                  have Z := (HZ).out d1 (St.Re.refl _ _ _) ((HQ).out.2.sub (by omega) (Nat.le_refl _))
                  go_wp2
                  go_end0
                  exact ⟨rfl, ⟨_, hD7, Z.1, Z.2⟩, fx7'⟩
            · have g2I : ¬ (pm : Int) < (en : Int) := by omega
              have hD7 : SD base g n c d1 wo := by rw [hd1.out, ro_id d b1 b3 (.inr (by omega))]; exact hDr
              clear hDr hd1
              clear hsr hsrI hmb5 hlo hhi e1 e3
              go_upto_if 185 with (fail)
              by_cases g3 : pa < s
              · have g3I : (pa : Int) < (s : Int) := by omega
                by_cases g4 : s < mid
                · have g4I : (s : Int) < (mid : Int) := by omega
                  have C2 := hid (ih.out (mid - pa) (by omega) d1 pa s mid wo hD7 g3 g4 (by omega) (Nat.le_refl _) M.out.xz1 M.out.xz2)
                  go_wp2_with fail
                  refine C2.out.mono ?_
                  rintro e8 w8 ⟨rfl, ⟨d8, hD8, r8, s8⟩, fx8⟩
                  have HQ := hid (mg_rest M.out r8 b6)
                  have HZ := hid (fun d3 (h : St.Re mid pb d8 d3) (k : St.So ltS mid pb d3) => mg_all M.out hR.out (by omega) (by omega) r8 s8 h k)
                  have fx8' := (fx).trans fx8
                  by_cases g5 : mid < en
                  · have g5I : (mid : Int) < (en : Int) := by omega
                    by_cases g6 : en < pb
                    · have g6I : (en : Int) < (pb : Int) := by omega
                      have C3 := hid (ih.out (pb - mid) (by omega) d8 mid en pb w8 hD8 g5 g6 h3 (Nat.le_refl _) (HQ).out.1 (HQ).out.2)
                      go_wp2_with fail
                      refine C3.out.mono ?_
                      rintro e9 w9 ⟨rfl, ⟨d9, hD9, r9, s9⟩, fx9⟩
                      have Z := (HZ).out d9 r9 s9
                      go_wp2
                      go_end0
                      exact ⟨rfl, ⟨d9, hD9, Z.1, Z.2⟩, (fx8').trans fx9⟩
                    · have g6I : ¬ (en : Int) < (pb : Int) := by omega
                      have Z := (HZ).out d8 (St.Re.refl _ _ _) ((HQ).out.1.sub (Nat.le_refl _) (by omega))
                      go_wp2
                      go_end0
                      exact ⟨rfl, ⟨_, hD8, Z.1, Z.2⟩, fx8'⟩
                  · have g5I : ¬ (mid : Int) < (en : Int) := by omega
                    have Z := (HZ).out d8 (St.Re.refl _ _ _) ((HQ).out.2.sub (by omega) (Nat.le_refl _))
                    go_wp2
                    go_end0
                    exact ⟨rfl, ⟨_, hD8, Z.1, Z.2⟩, fx8'⟩
                · have g4I : ¬ (s : Int) < (mid : Int) := by omega
                  have HQ := hid (mg_rest M.out (St.Re.refl _ _ _) b6)
                  have HZ := hid (fun d3 (h : St.Re mid pb d1 d3) (k : St.So ltS mid pb d3) => mg_all M.out hR.out (by omega) (by omega) (St.Re.refl _ _ _) (M.out.xz1.sub (Nat.le_refl _) (by omega)) h k)
                  by_cases g5 : mid < en
                  · have g5I : (mid : Int) < (en : Int) := by omega
                    by_cases g6 : en < pb
                    · have g6I : (en : Int) < (pb : Int) := by omega
                      have C3 := hid (ih.out (pb - mid) (by omega) d1 mid en pb wo hD7 g5 g6 h3 (Nat.le_refl _) (HQ).out.1 (HQ).out.2)
                      go_wp2_with fail
                      refine C3.out.mono ?_
                      rintro e9 w9 ⟨rfl, ⟨d9, hD9, r9, s9⟩, fx9⟩
                      have Z := (HZ).out d9 r9 s9
                      go_wp2
                      go_end0
                      exact ⟨rfl, ⟨d9, hD9, Z.1, Z.2⟩, (fx).trans fx9⟩
                    · have g6I : ¬ (en : Int) < (pb : Int) := by omega
                      have Z := (HZ).out d1 (St.Re.refl _ _ _) ((HQ).out.1.sub (Nat.le_refl _) (by omega))
                      go_wp2
                      go_end0
                      exact ⟨rfl, ⟨_, hD7, Z.1, Z.2⟩, fx⟩
                  · have g5I : ¬ (mid : Int) < (en : Int) := by omega
                    have Z := (HZ).out d1 (St.Re.refl _ _ _) ((HQ).out.2.sub (by omega) (Nat.le_refl _))
                    go_wp2
                    go_end0
                    exact ⟨rfl, ⟨_, hD7, Z.1, Z.2⟩, fx⟩
              · have g3I : ¬ (pa : Int) < (s : Int) := by omega
                have HQ := hid (mg_rest M.out (St.Re.refl _ _ _) b6)
                have HZ := hid (fun d3 (h : St.Re mid pb d1 d3) (k : St.So ltS mid pb d3) => mg_all M.out hR.out (by omega) (by omega) (St.Re.refl _ _ _) (M.out.xz2.sub (by omega) (Nat.le_refl _)) h k)
                by_cases g5 : mid < en
                · have g5I : (mid : Int) < (en : Int) := by omega
                  by_cases g6 : en < pb
                  · have g6I : (en : Int) < (pb : Int) := by omega
                    have C3 := hid (ih.out (pb - mid) (by omega) d1 mid en pb wo hD7 g5 g6 h3 (Nat.le_refl _) (HQ).out.1 (HQ).out.2)
                    go_wp2_with fail
                    refine C3.out.mono ?_
                    rintro e9 w9 ⟨rfl, ⟨d9, hD9, r9, s9⟩, fx9⟩
                    have Z := (HZ).out d9 r9 s9
                    go_wp2
                    go_end0
                    exact ⟨rfl, ⟨d9, hD9, Z.1, Z.2⟩, (fx).trans fx9⟩
                  · have g6I : ¬ (en : Int) < (pb : Int) := by omega
                    have Z := (HZ).out d1 (St.Re.refl _ _ _) ((HQ).out.1.sub (Nat.le_refl _) (by omega))
                    go_wp2
                    go_end0
                    exact ⟨rfl, ⟨_, hD7, Z.1, Z.2⟩, fx⟩
                · have g5I : ¬ (mid : Int) < (en : Int) := by omega
                  have Z := (HZ).out d1 (St.Re.refl _ _ _) ((HQ).out.2.sub (by omega) (Nat.le_refl _))
                  go_wp2
                  go_end0
                  exact ⟨rfl, ⟨_, hD7, Z.1, Z.2⟩, fx⟩
          · have g1I : ¬ (s : Int) < (pm : Int) := by omega
            have hD7 : SD base g n c d1 wo := by rw [hd1.out, ro_id d b1 b3 (.inl (by omega))]; exact hDr
            clear hDr hd1
            clear hsr hsrI hmb5 hlo hhi e1 e3
            go_upto_if 185 with (fail)
            by_cases g3 : pa < s
            · have g3I : (pa : Int) < (s : Int) := by omega
              by_cases g4 : s < mid
              · have g4I : (s : Int) < (mid : Int) := by omega
                have C2 := hid (ih.out (mid - pa) (by omega) d1 pa s mid wo hD7 g3 g4 (by omega) (Nat.le_refl _) M.out.xz1 M.out.xz2)
                go_wp2_with fail
                refine C2.out.mono ?_
                rintro e8 w8 ⟨rfl, ⟨d8, hD8, r8, s8⟩, fx8⟩
                have HQ := hid (mg_rest M.out r8 b6)
                have HZ := hid (fun d3 (h : St.Re mid pb d8 d3) (k : St.So ltS mid pb d3) => mg_all M.out hR.out (by omega) (by omega) r8 s8 h k)
                have fx8' := (fx).trans fx8
                by_cases g5 : mid < en
                · have g5I : (mid : Int) < (en : Int) := by omega
                  by_cases g6 : en < pb
                  · have g6I : (en : Int) < (pb : Int) := by omega
                    have C3 := hid (ih.out (pb - mid) (by omega) d8 mid en pb w8 hD8 g5 g6 h3 (Nat.le_refl _) (HQ).out.1 (HQ).out.2)
                    go_wp2_with fail
                    refine C3.out.mono ?_
                    rintro e9 w9 ⟨rfl, ⟨d9, hD9, r9, s9⟩, fx9⟩
                    have Z := (HZ).out d9 r9 s9
                    go_wp2
                    go_end0
                    exact ⟨rfl, ⟨d9, hD9, Z.1, Z.2⟩, (fx8').trans fx9⟩
                  · have g6I : ¬ (en : Int) < (pb : Int) := by omega
                    have Z := (HZ).out d8 (St.Re.refl _ _ _) ((HQ).out.1.sub (Nat.le_refl _) (by omega))
                    go_wp2
                    go_end0
                    exact ⟨rfl, ⟨_, hD8, Z.1, Z.2⟩, fx8'⟩
                · have g5I : ¬ (mid : Int) < (en : Int) := by omega
                  have Z := (HZ).out d8 (St.Re.refl _ _ _) ((HQ).out.2.sub (by omega) (Nat.le_refl _))
                  go_wp2
                  go_end0
                  exact ⟨rfl, ⟨_, hD8, Z.1, Z.2⟩, fx8'⟩
              · have g4I : ¬ (s : Int) < (mid : Int) := by omega
                have HQ := hid (mg_rest M.out (St.Re.refl _ _ _) b6)
                have HZ := hid (fun d3 (h : St.Re mid pb d1 d3) (k : St.So ltS mid pb d3) => mg_all M.out hR.out (by omega) (by omega) (St.Re.refl _ _ _) (M.out.xz1.sub (Nat.le_refl _) (by omega)) h k)
                by_cases g5 : mid < en
                · have g5I : (mid : Int) < (en : Int) := by omega
                  by_cases g6 : en < pb
                  · have g6I : (en : Int) < (pb : Int) := by omega
                    have C3 := hid (ih.out (pb - mid) (by omega) d1 mid en pb wo hD7 g5 g6 h3 (Nat.le_refl _) (HQ).out.1 (HQ).out.2)
                    go_wp2_with fail
                    refine C3.out.mono ?_
                    rintro e9 w9 ⟨rfl, ⟨d9, hD9, r9, s9⟩, fx9⟩
                    have Z := (HZ).out d9 r9 s9
                    go_wp2
                    go_end0
                    exact ⟨rfl, ⟨d9, hD9, Z.1, Z.2⟩, (fx).trans fx9⟩
                  · have g6I : ¬ (en : Int) < (pb : Int) := by omega
                    have Z := (HZ).out d1 (St.Re.refl _ _ _) ((HQ).out.1.sub (Nat.le_refl _) (by omega))
                    go_wp2
                    go_end0
                    exact ⟨rfl, ⟨_, hD7, Z.1, Z.2⟩, fx⟩
                · have g5I : ¬ (mid : Int) < (en : Int) := by omega
                  have Z := (HZ).out d1 (St.Re.refl _ _ _) ((HQ).out.2.sub (by omega) (Nat.le_refl _))
                  go_wp2
                  go_end0
                  exact ⟨rfl, ⟨_, hD7, Z.1, Z.2⟩, fx⟩
            · have g3I : ¬ (pa : Int) < (s : Int) := by omega
              have HQ := hid (mg_rest M.out (St.Re.refl _ _ _) b6)
              have HZ := hid (fun d3 (h : St.Re mid pb d1 d3) (k : St.So ltS mid pb d3) => mg_all M.out hR.out (by omega) (by omega) (St.Re.refl _ _ _) (M.out.xz2.sub (by omega) (Nat.le_refl _)) h k)
              by_cases g5 : mid < en
              · have g5I : (mid : Int) < (en : Int) := by omega
                by_cases g6 : en < pb
                · have g6I : (en : Int) < (pb : Int) := by omega
                  have C3 := hid (ih.out (pb - mid) (by omega) d1 mid en pb wo hD7 g5 g6 h3 (Nat.le_refl _) (HQ).out.1 (HQ).out.2)
                  go_wp2_with fail
                  refine C3.out.mono ?_
                  rintro e9 w9 ⟨rfl, ⟨d9, hD9, r9, s9⟩, fx9⟩
                  have Z := (HZ).out d9 r9 s9
                  go_wp2
                  go_end0
                  exact ⟨rfl, ⟨d9, hD9, Z.1, Z.2⟩, (fx).trans fx9⟩
                · have g6I : ¬ (en : Int) < (pb : Int) := by omega
                  have Z := (HZ).out d1 (St.Re.refl _ _ _) ((HQ).out.1.sub (Nat.le_refl _) (by omega))
                  go_wp2
                  go_end0
                  exact ⟨rfl, ⟨_, hD7, Z.1, Z.2⟩, fx⟩
              · have g5I : ¬ (mid : Int) < (en : Int) := by omega
                have Z := (HZ).out d1 (St.Re.refl _ _ _) ((HQ).out.2.sub (by omega) (Nat.le_refl _))
                go_wp2
                go_end0
                exact ⟨rfl, ⟨_, hD7, Z.1, Z.2⟩, fx⟩
    · have hmmI : ¬ (mid : Int) < (pm : Int) := by omega
      rw [if_neg hmm] at hlo hhi
      go_wp2_with fail
      rw [hpe.out]
      go_loopw [20, 21] (fun vs vr wr => ∃ s r : Nat, vs = .int .i64 (s : Int) ∧ vr = .int .i64 (r : Int) ∧ Hid (St.Sy ltS d p lo hi s r) ∧ SD base g n c d wr ∧ Fx (fun q => q = g) w wr) (fun vs vr _ => (intOf vr).toNat - (intOf vs).toNat)
      case atStart => exact ⟨lo, hi, by first | rfl | (congr 1; omega), by first | rfl | (congr 1; omega), hid (St.Sy.start A.out.x.2.2), hD, Fx.refl _ _⟩
      case round =>
        obtain ⟨s, r, rfl, rfl, HF, hDr, fx⟩ := hrel
        obtain ⟨wo, rfl⟩ : ∃ wo : World, wo = wr := ⟨_, rfl⟩
        have hle := HF.out.le
        have hAx := A.out.x
        by_cases hsr : s < r
        · have hsrI : (s : Int) < (r : Int) := by omega
          obtain ⟨cc, hce0⟩ : ∃ cc, cc = (s + r) / 2 := ⟨_, rfl⟩
          have hc1 : s ≤ cc := by omega
          have hc2 : cc < r := by omega
          have hAy := A.out.y cc (by omega) (by omega)
          obtain ⟨q, hq⟩ : ∃ q, q = p - cc := ⟨_, rfl⟩
          rw [← hq] at hAy
          have hhd := hid (show ((s : Int) + (r : Int)) / 2 = (cc : Int) by omega)
          have hrn : r ≤ n := by omega
          have hcn : cc < n := by omega
          have hqn : q < n := by omega
          have hcp : cc ≤ p := by have := A.out.z; omega
          have wq := hid (show IntKind.i64.wrap ((p : Int) - (cc : Int)) = (q : Int) by rw [IntWalk.i64_in _ (by omega)]; omega)
          have hcI0 : (0 : Int) ≤ (cc : Int) := by omega
          have hcI : (cc : Int) < (n : Int) := by omega
          have hqI0 : (0 : Int) ≤ (q : Int) := by omega
          have hqI : (q : Int) < (n : Int) := by omega
          obtain ⟨bl, hbl⟩ : ∃ bl, ltS (d q) (d cc) = bl := ⟨_, rfl⟩
          have hce : decide (cmpE (d q).e (d cc).e < 0) = bl := by rw [cmpE_ltS, hbl]
          rw [hq] at hbl
          replace hbl := hid hbl
          have HC := hid (ord_at (d q) (d cc))
          obtain ⟨z, hz⟩ : ∃ z, z = cmpE (d q).e (d cc).e := ⟨_, rfl⟩
          rw [← hz] at hce HC
          replace hz := hid hz
          replace hce := hid hce
          replace hq := hid hq
          clear hce0 hAy hAx
          replace hle := hid hle
          go_upto_region 35 with (fail)
          rw [hhd.out]
          clear hsrI
          refine G2.wp_region_growT Kp [] 12 220 (G2.pvL [G2.eqv (.func (.func 66) #[] #[]), G2.eqv (.slice (some ⟨g, 0, none⟩) n c), G2.eqv (.int .i64 (p : Int)), G2.eqv (.int .i64 (cc : Int)), G2.eqv (.int .i64 (q : Int)), G2.eqv (.pointer (some ⟨g, q * 13, none⟩)), G2.eqv (.agg (encEs (d q)).toArray), G2.eqv (.slice (some ⟨g, 0, none⟩) n c), G2.eqv (.int .i64 (cc : Int)), G2.eqv (.pointer (some ⟨g, cc * 13, none⟩)), G2.eqv (.agg (encEs (d cc)).toArray), G2.eqv (.int .i64 z)]) (by kernel_rfl) (by kernel_rfl) rfl (fun x => Kp.refl x) (fun _ _ _ h k => h.trans k) (Kp.refl _).drew (by intro _ _ _ _ _ h; exact h) (G2.pvL_keep (G2.stabL_cons (G2.stab_eq _) (G2.stabL_cons (G2.stab_eq _) (G2.stabL_cons (G2.stab_eq _) (G2.stabL_cons (G2.stab_eq _) (G2.stabL_cons (G2.stab_eq _) (G2.stabL_cons (G2.stab_eq _) (G2.stabL_cons (G2.stab_eq _) (G2.stabL_cons (G2.stab_eq _) (G2.stabL_cons (G2.stab_eq _) (G2.stabL_cons (G2.stab_eq _) (G2.stabL_cons (G2.stab_eq _) (G2.stabL_cons (G2.stab_eq _) (G2.stabL_nil)))))))))))))) (G2.stepsT_cons 0 ?_ (G2.stepsT_cons 1 ?_ (G2.stepsT_cons 2 ?_ (G2.stepsT_cons 3 ?_ (G2.stepsT_cons 4 ?_ (G2.stepsT_cons 5 ?_ (G2.stepsT_cons 6 ?_ (G2.stepsT_cons 7 ?_ (G2.stepsT_cons 8 ?_ (G2.stepsT_cons 9 ?_ (G2.stepsT_cons 10 ?_ (G2.stepsT_cons 11 ?_ (G2.stepsT_nil _ _ _))))))))))))) ?_ ?_
          · intro a w' hk hF hD K hK
            have h4 : a.tmps[4]?.getD undef = .func (.func 66) #[] #[] := hF 4 (by kernel_rfl)
            clear hF hD
            go_simp
            exact hK.out _ _ (Kp.refl _) rfl
          · intro a w' hk hF hD K hK
            have h0 : a.tmps[0]?.getD undef = .slice (some ⟨g, 0, none⟩) n c := hF 0 (by kernel_rfl)
            clear hF hD
            go_simp
            exact hK.out _ _ (Kp.refl _) rfl
          · intro a w' hk hF hD K hK
            have h22 : a.tmps[22]?.getD undef = .int .i64 (p : Int) := hF 22 (by kernel_rfl)
            clear hF hD
            go_simp
            exact hK.out _ _ (Kp.refl _) rfl
          · intro a w' hk hF hD K hK
            have h23 : a.tmps[23]?.getD undef = .int .i64 (cc : Int) := hF 23 (by kernel_rfl)
            clear hF hD
            go_simp
            exact hK.out _ _ (Kp.refl _) rfl
          · intro a w' hk hF hD K hK
            have h160 : a.tmps[160]?.getD undef = .int .i64 (p : Int) := hD 2 (by kernel_rfl)
            have h161 : a.tmps[161]?.getD undef = .int .i64 (cc : Int) := hD 3 (by kernel_rfl)
            clear hF hD
            have q1 := wq.out
            go_simp
            exact hK.out _ _ (Kp.refl _) rfl
          · intro a w' hk hF hD K hK
            have h159 : a.tmps[159]?.getD undef = .slice (some ⟨g, 0, none⟩) n c := hD 1 (by kernel_rfl)
            have h162 : a.tmps[162]?.getD undef = .int .i64 (q : Int) := hD 4 (by kernel_rfl)
            clear hF hD
            go_simp
            exact hK.out _ _ (Kp.refl _) rfl
          · intro a w' hk hF hD K hK
            have h163 : a.tmps[163]?.getD undef = .pointer (some ⟨g, q * 13, none⟩) := hD 5 (by kernel_rfl)
            clear hF hD
            rw [if_pos (by simp [Region.wanted])]
            refine wp_load_mid 33 (.tmp 163) rfl g (q * 13) ((eval_tmp _ _).trans h163) (encEs (d q)) _ (SD.range (Own.kp hDr hk) hqn) Try.underlying33 rfl (hiEv _) ?_
            exact hK.out _ _ (Kp.refl _) rfl
          · intro a w' hk hF hD K hK
            have h0 : a.tmps[0]?.getD undef = .slice (some ⟨g, 0, none⟩) n c := hF 0 (by kernel_rfl)
            clear hF hD
            go_simp
            exact hK.out _ _ (Kp.refl _) rfl
          · intro a w' hk hF hD K hK
            have h23 : a.tmps[23]?.getD undef = .int .i64 (cc : Int) := hF 23 (by kernel_rfl)
            clear hF hD
            go_simp
            exact hK.out _ _ (Kp.refl _) rfl
          · intro a w' hk hF hD K hK
            have h165 : a.tmps[165]?.getD undef = .slice (some ⟨g, 0, none⟩) n c := hD 7 (by kernel_rfl)
            have h166 : a.tmps[166]?.getD undef = .int .i64 (cc : Int) := hD 8 (by kernel_rfl)
            clear hF hD
            go_simp
            exact hK.out _ _ (Kp.refl _) rfl
          · intro a w' hk hF hD K hK
            have h167 : a.tmps[167]?.getD undef = .pointer (some ⟨g, cc * 13, none⟩) := hD 9 (by kernel_rfl)
            clear hF hD
            rw [if_pos (by simp [Region.wanted])]
            refine wp_load_mid 33 (.tmp 167) rfl g (cc * 13) ((eval_tmp _ _).trans h167) (encEs (d cc)) _ (SD.range (Own.kp hDr hk) hcn) Try.underlying33 rfl (hiEv _) ?_
            exact hK.out _ _ (Kp.refl _) rfl
          · intro a w' hk hF hD K hK
            have h158 : a.tmps[158]?.getD undef = .func (.func 66) #[] #[] := hD 0 (by kernel_rfl)
            have h164 : a.tmps[164]?.getD undef = .agg (encEs (d q)).toArray := hD 6 (by kernel_rfl)
            have h168 : a.tmps[168]?.getD undef = .agg (encEs (d cc)).toArray := hD 10 (by kernel_rfl)
            clear hF hD
            go_simp
            refine (HC.out _).mono ?_
            rintro e w9 ⟨rfl, hk9⟩
            exact hK.out _ _ hk9 rfl
          · exact fun i0 hi0 => by simp at hi0
          intro v w9 k9 hv
          have v11 : v 11 = .int .i64 z := hv 11 (by omega)
          clear hv
          simp only [G2.growPut, G2.gSlot, List.getElem?_toArray, List.getElem?_cons_zero, List.getElem?_cons_succ, Option.bind_some, List.setIfInBounds_toArray, List.set_cons_zero, List.set_cons_succ, List.drop_succ_cons, List.drop_zero, v11]
          have hD9 : SD base g n c d w9 := Own.kp hDr k9
          have fx9 := fx.trans (k9.fx _)
          clear HC
          replace hce := hce.out
          cases bl with
          | false =>
            have HF2 := hid (HF.out.lower ltS_od A.out hS1 hS2 hc1 hc2 hbl.out)
            go_wp2_with fail
            go_roundw
            case rel => exact ⟨cc + 1, r, by go_num, rfl, HF2, hD9, fx9⟩
            case measure => simp [intOf]; omega
          | true =>
            have HF2 := hid (HF.out.upper ltS_od A.out hS1 hS2 hc1 hc2 hbl.out)
            go_wp2_with fail
            go_roundw
            case rel => exact ⟨s, cc, rfl, by first | rfl | go_num, HF2, hD9, fx9⟩
            case measure => simp [intOf]; omega
        · have hsrI : ¬ (s : Int) < (r : Int) := by omega
          obtain rfl : r = s := by omega
          obtain ⟨en, hen⟩ : ∃ en, en = mid + pm - r := ⟨_, rfl⟩
          have MM := MG.out r HF.out
          rw [← hen] at MM
          obtain ⟨b1, b2, b3, b4, b5, M0⟩ := MM
          have b6 : mid ≤ en := by omega
          have hee := hid (show (mid : Int) + (pm : Int) - (r : Int) = (en : Int) by omega)
          have hR : St.Re pa pb d (fun k => d (St.ro r pm en k)) := (re_ro d b1 b3).wide b2 b4
          have M := hid M0
          clear M0 MG A HF hle hAx
          obtain ⟨d1, hd1⟩ : ∃ d1, d1 = (fun k => d (St.ro r pm en k)) := ⟨_, rfl⟩
          rw [← hd1] at hR M
          replace hR := hid hR
          replace hd1 := hid hd1
          obtain ⟨s, hse⟩ : ∃ s, s = r := ⟨_, rfl⟩
          subst hse
          have b8 : s = pm ∨ s < pm := by omega
          have b9 : s < pm → en = pm → s = mid := fun _ h => by omega
          replace b9 := hid b9
          clear hen
          go_upto_region 39 with (fail)
          rw [hee.out]
          by_cases g1 : s < pm
          · have g1I : (s : Int) < (pm : Int) := by omega
            by_cases g2 : pm < en
            · have g2I : (pm : Int) < (en : Int) := by omega
              have C1 := hid (sRot_any base g n c d s pm en (.func (.func 66) #[] #[]) wo hDr g1 g2 (by omega) hn)
              clear hsr hsrI hmb5 hlo hhi e1 e3
              go_upto_if 185 with (fail)
              go_wp2_with fail
              refine C1.out.mono ?_
              rintro e7 w7 ⟨rfl, hD7, fx7⟩
              replace hD7 : SD base g n c d1 w7 := by rw [hd1.out]; exact hD7
              have fx7' := fx.trans fx7
              clear hDr fx C1 hd1
              by_cases g3 : pa < s
              · have g3I : (pa : Int) < (s : Int) := by omega
                by_cases g4 : s < mid
                · have g4I : (s : Int) < (mid : Int) := by omega
                  have C2 := hid (ih.out (mid - pa) (by omega) d1 pa s mid w7 hD7 g3 g4 (by omega) (Nat.le_refl _) M.out.xz1 M.out.xz2)
                  go_wp2_with fail
                  refine C2.out.mono ?_
                  rintro e8 w8 ⟨rfl, ⟨d8, hD8, r8, s8⟩, fx8⟩
                  have HQ := hid (mg_rest M.out r8 b6)
                  have HZ := hid (fun d3 (h : St.Re mid pb d8 d3) (k : St.So ltS mid pb d3) => mg_all M.out hR.out (by omega) (by omega) r8 s8 h k)
                  have fx8' := (fx7').trans fx8
                  by_cases g5 : mid < en
                  · have g5I : (mid : Int) < (en : Int) := by omega
                    by_cases g6 : en < pb
                    · have g6I : (en : Int) < (pb : Int) := by omega
                      have C3 := hid (ih.out (pb - mid) (by omega) d8 mid en pb w8 hD8 g5 g6 h3 (Nat.le_refl _) (HQ).out.1 (HQ).out.2)
                      go_wp2_with fail
                      refine C3.out.mono ?_
                      rintro e9 w9 ⟨rfl, ⟨d9, hD9, r9, s9⟩, fx9⟩
                      have Z := (HZ).out d9 r9 s9
                      go_wp2
                      go_end0
                      exact ⟨rfl, ⟨d9, hD9, Z.1, Z.2⟩, (fx8').trans fx9⟩
                    · have g6I : ¬ (en : Int) < (pb : Int) := by omega
                      have Z := (HZ).out d8 (St.Re.refl _ _ _) ((HQ).out.1.sub (Nat.le_refl _) (by omega))
                      go_wp2
                      go_end0
                      exact ⟨rfl, ⟨_, hD8, Z.1, Z.2⟩, fx8'⟩
                  · have g5I : ¬ (mid : Int) < (en : Int) := by omega
                    have Z := (HZ).out d8 (St.Re.refl _ _ _) ((HQ).out.2.sub (by omega) (Nat.le_refl _))
                    go_wp2
                    go_end0
                    exact ⟨rfl, ⟨_, hD8, Z.1, Z.2⟩, fx8'⟩
                · have g4I : ¬ (s : Int) < (mid : Int) := by omega
                  have HQ := hid (mg_rest M.out (St.Re.refl _ _ _) b6)
                  have HZ := hid (fun d3 (h : St.Re mid pb d1 d3) (k : St.So ltS mid pb d3) => mg_all M.out hR.out (by omega) (by omega) (St.Re.refl _ _ _) (M.out.xz1.sub (Nat.le_refl _) (by omega)) h k)
                  by_cases g5 : mid < en
                  · have g5I : (mid : Int) < (en : Int) := by omega
                    by_cases g6 : en < pb
                    · have g6I : (en : Int) < (pb : Int) := by omega
                      have C3 := hid (ih.out (pb - mid) (by omega) d1 mid en pb w7 hD7 g5 g6 h3 (Nat.le_refl _) (HQ).out.1 (HQ).out.2)
                      go_wp2_with fail
                      refine C3.out.mono ?_
                      rintro e9 w9 ⟨rfl, ⟨d9, hD9, r9, s9⟩, fx9⟩
                      have Z := (HZ).out d9 r9 s9
                      go_wp2
                      go_end0
                      exact ⟨rfl, ⟨d9, hD9, Z.1, Z.2⟩, (fx7').trans fx9⟩
                    · have g6I : ¬ (en : Int) < (pb : Int) := by omega
                      have Z := (HZ).out d1 (St.Re.refl _ _ _) ((HQ).out.1.sub (Nat.le_refl _) (by omega))
                      go_wp2
                      go_end0
                      exact ⟨rfl, ⟨_, hD7, Z.1, Z.2⟩, fx7'⟩
                  · have g5I : ¬ (mid : Int) < (en : Int) := by omega
                    have Z := (HZ).out d1 (St.Re.refl _ _ _) ((HQ).out.2.sub (by omega) (Nat.le_refl _))
                    go_wp2
                    go_end0
                    exact ⟨rfl, ⟨_, hD7, Z.1, Z.2⟩, fx7'⟩
              · have g3I : ¬ (pa : Int) < (s : Int) := by omega
                have HQ := hid (mg_rest M.out (St.Re.refl _ _ _) b6)
                have HZ := hid (fun d3 (h : St.Re mid pb d1 d3) (k : St.So ltS mid pb d3) => mg_all M.out hR.out (by omega) (by omega) (St.Re.refl _ _ _) (M.out.xz2.sub (by omega) (Nat.le_refl _)) h k)
                by_cases g5 : mid < en
                · have g5I : (mid : Int) < (en : Int) := by omega
                  by_cases g6 : en < pb
                  · have g6I : (en : Int) < (pb : Int) := by omega
                    have C3 := hid (ih.out (pb - mid) (by omega) d1 mid en pb w7 hD7 g5 g6 h3 (Nat.le_refl _) (HQ).out.1 (HQ).out.2)
                    go_wp2_with fail
                    refine C3.out.mono ?_
                    rintro e9 w9 ⟨rfl, ⟨d9, hD9, r9, s9⟩, fx9⟩
                    have Z := (HZ).out d9 r9 s9
                    go_wp2
                    go_end0
                    exact ⟨rfl, ⟨d9, hD9, Z.1, Z.2⟩, (fx7').trans fx9⟩
                  · have g6I : ¬ (en : Int) < (pb : Int) := by omega
                    have Z := (HZ).out d1 (St.Re.refl _ _ _) ((HQ).out.1.sub (Nat.le_refl _) (by omega))
                    go_wp2
                    go_end0
                    exact ⟨rfl, ⟨_, hD7, Z.1, Z.2⟩, fx7'⟩
                · have g5I : ¬ (mid : Int) < (en : Int) := by omega
                  have Z := (HZ).out d1 (St.Re.refl _ _ _) ((HQ).out.2.sub (by omega) (Nat.le_refl _))
                  go_wp2
                  go_end0
                  exact ⟨rfl, ⟨_, hD7, Z.1, Z.2⟩, fx7'⟩
            · have g2I : ¬ (pm : Int) < (en : Int) := by omega
              have hD7 : SD base g n c d1 wo := by rw [hd1.out, ro_id d b1 b3 (.inr (by omega))]; exact hDr
              clear hDr hd1
              clear hsr hsrI hmb5 hlo hhi e1 e3
              go_upto_if 185 with (fail)
              by_cases g3 : pa < s
              · have g3I : (pa : Int) < (s : Int) := by omega
                by_cases g4 : s < mid
                · have g4I : (s : Int) < (mid : Int) := by omega
                  have C2 := hid (ih.out (mid - pa) (by omega) d1 pa s mid wo hD7 g3 g4 (by omega) (Nat.le_refl _) M.out.xz1 M.out.xz2)
                  go_wp2_with fail
                  refine C2.out.mono ?_
                  rintro e8 w8 ⟨rfl, ⟨d8, hD8, r8, s8⟩, fx8⟩
                  have HQ := hid (mg_rest M.out r8 b6)
                  have HZ := hid (fun d3 (h : St.Re mid pb d8 d3) (k : St.So ltS mid pb d3) => mg_all M.out hR.out (by omega) (by omega) r8 s8 h k)
                  have fx8' := (fx).trans fx8
                  by_cases g5 : mid < en
                  · have g5I : (mid : Int) < (en : Int) := by omega
                    by_cases g6 : en < pb
                    · have g6I : (en : Int) < (pb : Int) := by omega
                      have C3 := hid (ih.out (pb - mid) (by omega) d8 mid en pb w8 hD8 g5 g6 h3 (Nat.le_refl _) (HQ).out.1 (HQ).out.2)
                      go_wp2_with fail
                      refine C3.out.mono ?_
                      rintro e9 w9 ⟨rfl, ⟨d9, hD9, r9, s9⟩, fx9⟩
                      have Z := (HZ).out d9 r9 s9
                      go_wp2
                      go_end0
                      exact ⟨rfl, ⟨d9, hD9, Z.1, Z.2⟩, (fx8').trans fx9⟩
                    · have g6I : ¬ (en : Int) < (pb : Int) := by omega
                      have Z := (HZ).out d8 (St.Re.refl _ _ _) ((HQ).out.1.sub (Nat.le_refl _) (by omega))
                      go_wp2
                      go_end0
                      exact ⟨rfl, ⟨_, hD8, Z.1, Z.2⟩, fx8'⟩
                  · have g5I : ¬ (mid : Int) < (en : Int) := by omega
                    have Z := (HZ).out d8 (St.Re.refl _ _ _) ((HQ).out.2.sub (by omega) (Nat.le_refl _))
                    go_wp2
                    go_end0
                    exact ⟨rfl, ⟨_, hD8, Z.1, Z.2⟩, fx8'⟩
                · have g4I : ¬ (s : Int) < (mid : Int) := by omega
                  have HQ := hid (mg_rest M.out (St.Re.refl _ _ _) b6)
                  have HZ := hid (fun d3 (h : St.Re mid pb d1 d3) (k : St.So ltS mid pb d3) => mg_all M.out hR.out (by omega) (by omega) (St.Re.refl _ _ _) (M.out.xz1.sub (Nat.le_refl _) (by omega)) h k)
                  by_cases g5 : mid < en
                  · have g5I : (mid : Int) < (en : Int) := by omega
                    by_cases g6 : en < pb
                    · have g6I : (en : Int) < (pb : Int) := by omega
                      have C3 := hid (ih.out (pb - mid) (by omega) d1 mid en pb wo hD7 g5 g6 h3 (Nat.le_refl _) (HQ).out.1 (HQ).out.2)
                      go_wp2_with fail
                      refine C3.out.mono ?_
                      rintro e9 w9 ⟨rfl, ⟨d9, hD9, r9, s9⟩, fx9⟩
                      have Z := (HZ).out d9 r9 s9
                      go_wp2
                      go_end0
                      exact ⟨rfl, ⟨d9, hD9, Z.1, Z.2⟩, (fx).trans fx9⟩
                    · have g6I : ¬ (en : Int) < (pb : Int) := by omega
                      have Z := (HZ).out d1 (St.Re.refl _ _ _) ((HQ).out.1.sub (Nat.le_refl _) (by omega))
                      go_wp2
                      go_end0
                      exact ⟨rfl, ⟨_, hD7, Z.1, Z.2⟩, fx⟩
                  · have g5I : ¬ (mid : Int) < (en : Int) := by omega
                    have Z := (HZ).out d1 (St.Re.refl _ _ _) ((HQ).out.2.sub (by omega) (Nat.le_refl _))
                    go_wp2
                    go_end0
                    exact ⟨rfl, ⟨_, hD7, Z.1, Z.2⟩, fx⟩
              · have g3I : ¬ (pa : Int) < (s : Int) := by omega
                have HQ := hid (mg_rest M.out (St.Re.refl _ _ _) b6)
                have HZ := hid (fun d3 (h : St.Re mid pb d1 d3) (k : St.So ltS mid pb d3) => mg_all M.out hR.out (by omega) (by omega) (St.Re.refl _ _ _) (M.out.xz2.sub (by omega) (Nat.le_refl _)) h k)
                by_cases g5 : mid < en
                · have g5I : (mid : Int) < (en : Int) := by omega
                  by_cases g6 : en < pb
                  · have g6I : (en : Int) < (pb : Int) := by omega
                    have C3 := hid (ih.out (pb - mid) (by omega) d1 mid en pb wo hD7 g5 g6 h3 (Nat.le_refl _) (HQ).out.1 (HQ).out.2)
                    go_wp2_with fail
                    refine C3.out.mono ?_
                    rintro e9 w9 ⟨rfl, ⟨d9, hD9, r9, s9⟩, fx9⟩
                    have Z := (HZ).out d9 r9 s9
                    go_wp2
                    go_end0
                    exact ⟨rfl, ⟨d9, hD9, Z.1, Z.2⟩, (fx).trans fx9⟩
                  · have g6I : ¬ (en : Int) < (pb : Int) := by omega
                    have Z := (HZ).out d1 (St.Re.refl _ _ _) ((HQ).out.1.sub (Nat.le_refl _) (by omega))
                    go_wp2
                    go_end0
                    exact ⟨rfl, ⟨_, hD7, Z.1, Z.2⟩, fx⟩
                · have g5I : ¬ (mid : Int) < (en : Int) := by omega
                  have Z := (HZ).out d1 (St.Re.refl _ _ _) ((HQ).out.2.sub (by omega) (Nat.le_refl _))
                  go_wp2
                  go_end0
                  exact ⟨rfl, ⟨_, hD7, Z.1, Z.2⟩, fx⟩
          · have g1I : ¬ (s : Int) < (pm : Int) := by omega
            have hD7 : SD base g n c d1 wo := by rw [hd1.out, ro_id d b1 b3 (.inl (by omega))]; exact hDr
            clear hDr hd1
            clear hsr hsrI hmb5 hlo hhi e1 e3
            go_upto_if 185 with (fail)
            by_cases g3 : pa < s
            · have g3I : (pa : Int) < (s : Int) := by omega
              by_cases g4 : s < mid
              · have g4I : (s : Int) < (mid : Int) := by omega
                have C2 := hid (ih.out (mid - pa) (by omega) d1 pa s mid wo hD7 g3 g4 (by omega) (Nat.le_refl _) M.out.xz1 M.out.xz2)
                go_wp2_with fail
                refine C2.out.mono ?_
                rintro e8 w8 ⟨rfl, ⟨d8, hD8, r8, s8⟩, fx8⟩
                have HQ := hid (mg_rest M.out r8 b6)
                have HZ := hid (fun d3 (h : St.Re mid pb d8 d3) (k : St.So ltS mid pb d3) => mg_all M.out hR.out (by omega) (by omega) r8 s8 h k)
                have fx8' := (fx).trans fx8
                by_cases g5 : mid < en
                · have g5I : (mid : Int) < (en : Int) := by omega
                  by_cases g6 : en < pb
                  · have g6I : (en : Int) < (pb : Int) := by omega
                    have C3 := hid (ih.out (pb - mid) (by omega) d8 mid en pb w8 hD8 g5 g6 h3 (Nat.le_refl _) (HQ).out.1 (HQ).out.2)
                    go_wp2_with fail
                    refine C3.out.mono ?_
                    rintro e9 w9 ⟨rfl, ⟨d9, hD9, r9, s9⟩, fx9⟩
                    have Z := (HZ).out d9 r9 s9
                    go_wp2
                    go_end0
                    exact ⟨rfl, ⟨d9, hD9, Z.1, Z.2⟩, (fx8').trans fx9⟩
                  · have g6I : ¬ (en : Int) < (pb : Int) := by omega
                    have Z := (HZ).out d8 (St.Re.refl _ _ _) ((HQ).out.1.sub (Nat.le_refl _) (by omega))
                    go_wp2
                    go_end0
                    exact ⟨rfl, ⟨_, hD8, Z.1, Z.2⟩, fx8'⟩
                · have g5I : ¬ (mid : Int) < (en : Int) := by omega
                  have Z := (HZ).out d8 (St.Re.refl _ _ _) ((HQ).out.2.sub (by omega) (Nat.le_refl _))
                  go_wp2
                  go_end0
                  exact ⟨rfl, ⟨_, hD8, Z.1, Z.2⟩, fx8'⟩
              · have g4I : ¬ (s : Int) < (mid : Int) := by omega
                have HQ := hid (mg_rest M.out (St.Re.refl _ _ _) b6)
                have HZ := hid (fun d3 (h : St.Re mid pb d1 d3) (k : St.So ltS mid pb d3) => mg_all M.out hR.out (by omega) (by omega) (St.Re.refl _ _ _) (M.out.xz1.sub (Nat.le_refl _) (by omega)) h k)
                by_cases g5 : mid < en
                · have g5I : (mid : Int) < (en : Int) := by omega
                  by_cases g6 : en < pb
                  · have g6I : (en : Int) < (pb : Int) := by omega
                    have C3 := hid (ih.out (pb - mid) (by omega) d1 mid en pb wo hD7 g5 g6 h3 (Nat.le_refl _) (HQ).out.1 (HQ).out.2)
                    go_wp2_with fail
                    refine C3.out.mono ?_
                    rintro e9 w9 ⟨rfl, ⟨d9, hD9, r9, s9⟩, fx9⟩
                    have Z := (HZ).out d9 r9 s9
                    go_wp2
                    go_end0
                    exact ⟨rfl, ⟨d9, hD9, Z.1, Z.2⟩, (fx).trans fx9⟩
                  · have g6I : ¬ (en : Int) < (pb : Int) := by omega
                    have Z := (HZ).out d1 (St.Re.refl _ _ _) ((HQ).out.1.sub (Nat.le_refl _) (by omega))
                    go_wp2
                    go_end0
                    exact ⟨rfl, ⟨_, hD7, Z.1, Z.2⟩, fx⟩
                · have g5I : ¬ (mid : Int) < (en : Int) := by omega
                  have Z := (HZ).out d1 (St.Re.refl _ _ _) ((HQ).out.2.sub (by omega) (Nat.le_refl _))
                  go_wp2
                  go_end0
                  exact ⟨rfl, ⟨_, hD7, Z.1, Z.2⟩, fx⟩
            · have g3I : ¬ (pa : Int) < (s : Int) := by omega
              have HQ := hid (mg_rest M.out (St.Re.refl _ _ _) b6)
              have HZ := hid (fun d3 (h : St.Re mid pb d1 d3) (k : St.So ltS mid pb d3) => mg_all M.out hR.out (by omega) (by omega) (St.Re.refl _ _ _) (M.out.xz2.sub (by omega) (Nat.le_refl _)) h k)
              by_cases g5 : mid < en
              · have g5I : (mid : Int) < (en : Int) := by omega
                by_cases g6 : en < pb
                · have g6I : (en : Int) < (pb : Int) := by omega
                  have C3 := hid (ih.out (pb - mid) (by omega) d1 mid en pb wo hD7 g5 g6 h3 (Nat.le_refl _) (HQ).out.1 (HQ).out.2)
                  go_wp2_with fail
                  refine C3.out.mono ?_
                  rintro e9 w9 ⟨rfl, ⟨d9, hD9, r9, s9⟩, fx9⟩
                  have Z := (HZ).out d9 r9 s9
                  go_wp2
                  go_end0
                  exact ⟨rfl, ⟨d9, hD9, Z.1, Z.2⟩, (fx).trans fx9⟩
                · have g6I : ¬ (en : Int) < (pb : Int) := by omega
                  have Z := (HZ).out d1 (St.Re.refl _ _ _) ((HQ).out.1.sub (Nat.le_refl _) (by omega))
                  go_wp2
                  go_end0
                  exact ⟨rfl, ⟨_, hD7, Z.1, Z.2⟩, fx⟩
              · have g5I : ¬ (mid : Int) < (en : Int) := by omega
                have Z := (HZ).out d1 (St.Re.refl _ _ _) ((HQ).out.2.sub (by omega) (Nat.le_refl _))
                go_wp2
                go_end0
                exact ⟨rfl, ⟨_, hD7, Z.1, Z.2⟩, fx⟩
end Go.Proofs.Ytcddllaljgfjbaa
