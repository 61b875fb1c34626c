
/-
The reference's network: Cut: the walk.
-/
import Derived.Test.YtmokpnkpfodppaaOpC
namespace Go.Proofs.Ytmokpnkpfodppaa
set_option linter.unusedSimpArgs false
set_option linter.unusedVariables false
open Go.RowKit

def keepC (l : List (Int × Int)) (a b : Int) : List (Int × Int) := l.filter fun p => !decide (p = (min a b, max a b))
def cutR (s : RSt) (a b : Int) (c : Bool) : RSt × Int :=
  if pairB s.reps a b then ({ s with cuts := keepC s.cuts a b ++ if c then [(min a b, max a b)] else [] }, 0) else (s, 1)
set_option maxRecDepth 8000 in
set_option maxHeartbeats 3200000 in
theorem qCutR_any (wE : World) (T : Nat → Prop) (vs : Value) (s : RSt) (p q : Int) (c : Bool) (w : World) (kE : Kp wE w) (hX : StX wE T w vs s) (hcb : s.cuts.length ≤ 1000000) : Calls Try.prog 50 #[vs, .int .i64 p, .int .i64 q, .bool c] w fun e w' => ∃ v, e = .returned (.tuple #[v, .int .i64 (cutR s p q c).2]) ∧ StX wE (fun i => T i ∨ w.heap.size ≤ i) w' v (cutR s p q c).1 ∧ Kp w w' := by
  have HXX := hid hX
  have HS := hX.stv kE
  obtain ⟨vf, vl, vc, csx, rfl, XF, XL, XR, XO, XC⟩ := hX
  have hF := XF.keep (pl_stable _) kE
  have hL : Cpys w vl s.flight := sl_of XO.here XL fun i i1 i2 => rdCpy_stable _ _ _ _ kE (XR i i1 i2)
  have hC := XC.here
  obtain ⟨Af, cf, rfl, hcf, hmf⟩ := hF.form
  obtain ⟨Al, cl, rfl, hcl, hml⟩ := hL.form
  obtain ⟨Ac, cc, rfl, hcc, hmc⟩ := hC.form
  replace XF := hid XF
  replace XL := hid XL
  replace XR := hid XR
  replace XO := hid XO
  replace XC := hid XC
  have KE := hid kE
  clear kE
  have hA := Bx.new w #[.int .i64 s.reps, .int .i64 s.tick, .slice Af s.fates.length cf, .slice Al s.flight.length cl, .slice Ac s.cuts.length cc, .int .i64 s.sent, .int .i64 s.delivered, .int .i64 s.lost, .int .i64 s.made] 66
  have k0 := (Kp.refl w).alloc (.cells #[.int .i64 s.reps, .int .i64 s.tick, .slice Af s.fates.length cf, .slice Al s.flight.length cl, .slice Ac s.cuts.length cc, .int .i64 s.sent, .int .i64 s.delivered, .int .i64 s.lost, .int .i64 s.made] 66)
  have la := alloc_lt w (.cells #[.int .i64 s.reps, .int .i64 s.tick, .slice Af s.fates.length cf, .slice Al s.flight.length cl, .slice Ac s.cuts.length cc, .int .i64 s.sent, .int .i64 s.delivered, .int .i64 s.lost, .int .i64 s.made] 66)
  have hz : (w.alloc (.cells #[.int .i64 s.reps, .int .i64 s.tick, .slice Af s.fates.length cf, .slice Al s.flight.length cl, .slice Ac s.cuts.length cc, .int .i64 s.sent, .int .i64 s.delivered, .int .i64 s.lost, .int .i64 s.made] 66)).heap.size = w.heap.size + 1 := by simp
  go_enter Try.func50, Try.ntmps50
  go_upto_region 1 with (fail)
  generalize hw0 : w.alloc (.cells #[.int .i64 s.reps, .int .i64 s.tick, .slice Af s.fates.length cf, .slice Al s.flight.length cl, .slice Ac s.cuts.length cc, .int .i64 s.sent, .int .i64 s.delivered, .int .i64 s.lost, .int .i64 s.made] 66) = w0 at *
  generalize hb0 : w.heap.size = b0 at *
  have hB := Bx.new w0 [.int .i64 0, .int .i64 0, .slice none 0 0, .slice none 0 0, .slice none 0 0, .int .i64 0, .int .i64 0, .int .i64 0, .int .i64 0].toArray 66
  have k1 := k0.alloc (.cells [.int .i64 0, .int .i64 0, .slice none 0 0, .slice none 0 0, .slice none 0 0, .int .i64 0, .int .i64 0, .int .i64 0, .int .i64 0].toArray 66)
  have k1' := (Kp.refl w0).alloc (.cells [.int .i64 0, .int .i64 0, .slice none 0 0, .slice none 0 0, .slice none 0 0, .int .i64 0, .int .i64 0, .int .i64 0, .int .i64 0].toArray 66)
  have lb := alloc_lt w0 (.cells [.int .i64 0, .int .i64 0, .slice none 0 0, .slice none 0 0, .slice none 0 0, .int .i64 0, .int .i64 0, .int .i64 0, .int .i64 0].toArray 66)
  have hb1 : b0 ≤ w0.heap.size := by omega
  rw [hz] at hB lb
  generalize hw1 : w0.alloc (.cells [.int .i64 0, .int .i64 0, .slice none 0 0, .slice none 0 0, .slice none 0 0, .int .i64 0, .int .i64 0, .int .i64 0, .int .i64 0].toArray 66) = w1 at *
  replace hA := hA.kp k1' la
  simp only [List.toList_toArray] at hB hA
  have c0 := (hA).cell (j := 0) rfl
  have c1 := (hA).cell (j := 1) rfl
  have c2 := (hA).cell (j := 2) rfl
  have c3 := (hA).cell (j := 3) rfl
  have c4 := (hA).cell (j := 4) rfl
  have c5 := (hA).cell (j := 5) rfl
  have c6 := (hA).cell (j := 6) rfl
  have c7 := (hA).cell (j := 7) rfl
  have c8 := (hA).cell (j := 8) rfl
  have HS1 := HS.kp k1
  go_wp2_with fail
  refine (qEnds_any _ s p q _ HS1).mono ?_
  rintro e w2 ⟨rfl, k2⟩
  have la1 : b0 < w1.heap.size := by omega
  have lb2 := Nat.lt_of_lt_of_le lb k2.size
  have kk := k1.trans k2
  replace hA := hA.kp k2 la1
  replace hB := hB.kp k2 lb
  clear c0 c1 c2 c3 c4 c5 c6 c7 c8 HS1 k2 k1' k1 k0
  have HC := hid (rfl : cutR s p q c = cutR s p q c)
  cases hp : pairB s.reps p q with
  | false =>
    have HF : Hid (cutR s p q c = (s, 1)) := hid (by rw [cutR, hp]; rfl)
    replace hp := hid hp
    have c0 := (hA).cell (j := 0) rfl
    have c1 := (hA).cell (j := 1) rfl
    have c2 := (hA).cell (j := 2) rfl
    have c3 := (hA).cell (j := 3) rfl
    have c4 := (hA).cell (j := 4) rfl
    have c5 := (hA).cell (j := 5) rfl
    have c6 := (hA).cell (j := 6) rfl
    have c7 := (hA).cell (j := 7) rfl
    have c8 := (hA).cell (j := 8) rfl
    have d0 := (hB).cell (j := 0) rfl
    have d1 := (hB).cell (j := 1) rfl
    have d2 := (hB).cell (j := 2) rfl
    have d3 := (hB).cell (j := 3) rfl
    have d4 := (hB).cell (j := 4) rfl
    have d5 := (hB).cell (j := 5) rfl
    have d6 := (hB).cell (j := 6) rfl
    have d7 := (hB).cell (j := 7) rfl
    have d8 := (hB).cell (j := 8) rfl
    have f0 := (hB).free (j := 0) (by simp)
    have f1 := (hB).free (j := 1) (by simp)
    have f2 := (hB).free (j := 2) (by simp)
    have f3 := (hB).free (j := 3) (by simp)
    have f4 := (hB).free (j := 4) (by simp)
    have f5 := (hB).free (j := 5) (by simp)
    have f6 := (hB).free (j := 6) (by simp)
    have f7 := (hB).free (j := 7) (by simp)
    have f8 := (hB).free (j := 8) (by simp)
    go_wp2
    refine bodyPost_ret (results_cell_bx2 rfl _ _ (b0 + 1) [.int .i64 s.reps, .int .i64 s.tick, .slice Af s.fates.length cf, .slice Al s.flight.length cl, .slice Ac s.cuts.length cc, .int .i64 s.sent, .int .i64 s.delivered, .int .i64 s.lost, .int .i64 s.made] _ rfl (hB.all (cs := [.int .i64 s.reps, .int .i64 s.tick, .slice Af s.fates.length cf, .slice Al s.flight.length cl, .slice Ac s.cuts.length cc, .int .i64 s.sent, .int .i64 s.delivered, .int .i64 s.lost, .int .i64 s.made]) rfl).range Try.underlying66 rfl (by kernel_rfl)) rfl ?_
    have kF := Kp.setCells (by omega : w.heap.size ≤ b0 + 1) [.int .i64 s.reps, .int .i64 s.tick, .slice Af s.fates.length cf, .slice Al s.flight.length cl, .slice Ac s.cuts.length cc, .int .i64 s.sent, .int .i64 s.delivered, .int .i64 s.lost, .int .i64 s.made] 0 _ kk
    exact ⟨_, by rw [HF.out]; rfl, by rw [HF.out]; exact (HXX.out.kp kF).mono fun _ h => .inl h, kF⟩
  | true =>
    have HF : Hid (cutR s p q c = ({ s with cuts := keepC s.cuts p q ++ if c then [(min p q, max p q)] else [] }, 0)) := hid (by rw [cutR, if_pos hp])
    replace hp := hid hp
    have la2 : b0 < w2.heap.size := by omega
    have hbw : w.heap.size ≤ w2.heap.size := kk.size
    have hC2 := hC.keep (pl_stable _) kk
    clear HC
    go_wp2_with fail
    go_loopw [10, 11] (fun v i wr => ∃ (k : Nat) (L : List (Int × Int)), k ≤ s.cuts.length ∧ i = .int .i64 (k : Int) ∧ L.length ≤ k ∧ Own encP2 117 2 w2.heap.size wr v L ∧ Hid (keepC s.cuts p q = L ++ keepC (s.cuts.drop k) p q) ∧ Kp w2 wr) (fun _ i _ => s.cuts.length - (intOf i).toNat)
    case atStart => exact ⟨0, [], Nat.zero_le _, rfl, by simp, Own.lit (base := w2.heap.size) encP2 w2 #[] [] (Nat.le_refl _) (by simp) rfl rfl, hid rfl, (Kp.refl _).alloc _⟩
    case round =>
      obtain ⟨k, L, hk, rfl, hLk, hown, HD, kr⟩ := hrel
      have hAr := hA.kp kr la2
      have c4 := hAr.cell (j := 4) rfl
      obtain ⟨AL, cL, rfl, hcL, hmL⟩ := hown.form
      by_cases hlt : k < s.cuts.length
      · have hlk : (k : Int) < (s.cuts.length : Int) := by omega
        obtain ⟨g, o, rfl, hg, hr⟩ := (hC2.keep (pl_stable _) kr).pair2 hlt
        have HX := hid (List.drop_eq_getElem_cons hlt)
        generalize s.cuts[k] = x at *
        obtain ⟨x1, x2⟩ := x
        dsimp only at hr
        have hi : Hid ((Try.prog.info? 117).map (·.size) = some 2) := hid (by kernel_rfl)
        have hkn : (k : Int).toNat = k := by simp
        clear hC2 hA hB
        go_upto_region 7 with (fail)
        refine G2.wp_region_growG Kp [] 8 53 (G2.pvL [G2.eqv (.pointer (some ⟨b0, 4, none⟩)), G2.eqv (.slice (some ⟨g, o, none⟩) s.cuts.length cc), G2.eqv (.int .i64 (k : Int)), G2.eqv (.pointer (some ⟨g, o + k * 2, none⟩)), G2.eqv (pairV x1 x2), G2.eqv (.int .i64 p), G2.eqv (.int .i64 q), G2.eqv (pairV (min p q) (max p q))]) (by kernel_rfl) (by kernel_rfl) rfl (fun x => Kp.refl x) (fun _ _ _ h k => h.trans k) (Kp.refl _).drew (fun _ _ _ _ _ h => h) (G2.pvL_keep (G2.stabL_cons (G2.stab_eq _) (G2.stabL_cons (G2.stab_eq _) (G2.stabL_cons (G2.stab_eq _) (G2.stabL_cons (G2.stab_eq _) (G2.stabL_cons (G2.stab_eq _) (G2.stabL_cons (G2.stab_eq _) (G2.stabL_cons (G2.stab_eq _) (G2.stabL_cons (G2.stab_eq _) (G2.stabL_nil)))))))))) ?_ ?_ ?_
        · intro i0 hi0
          have hi' : i0 = 0 ∨ i0 = 1 ∨ i0 = 2 ∨ i0 = 3 ∨ i0 = 4 ∨ i0 = 5 ∨ i0 = 6 ∨ i0 = 7 := by omega
          rcases hi' with rfl | rfl | rfl | rfl | rfl | rfl | rfl | rfl
          · intro a w' hk hF hD K hK
            simp only [List.getElem?_toArray, List.getElem?_cons_zero, List.getElem?_cons_succ, Option.map_some, Option.getD_some]
            have h4 : a.tmps[4]?.getD undef = .pointer (some ⟨b0, 0, none⟩) := hF 4 (by kernel_rfl)
            clear hF hD
            go_simp
            exact hK.out _ _ (Kp.refl _) rfl
          · intro a w' hk hF hD K hK
            simp only [List.getElem?_toArray, List.getElem?_cons_zero, List.getElem?_cons_succ, Option.map_some, Option.getD_some]
            have h26 : a.tmps[26]?.getD undef = .pointer (some ⟨b0, 4, none⟩) := hD 0 (by kernel_rfl)
            clear hF hD
            have z1 := hk.cellS c4
            go_simp
            exact hK.out _ _ (Kp.refl _) rfl
          · intro a w' hk hF hD K hK
            simp only [List.getElem?_toArray, List.getElem?_cons_zero, List.getElem?_cons_succ, Option.map_some, Option.getD_some]
            have h11 : a.tmps[11]?.getD undef = .int .i64 (k : Int) := hF 11 (by kernel_rfl)
            clear hF hD
            go_simp
            exact hK.out _ _ (Kp.refl _) rfl
          · intro a w' hk hF hD K hK
            simp only [List.getElem?_toArray, List.getElem?_cons_zero, List.getElem?_cons_succ, Option.map_some, Option.getD_some]
            have h27 : a.tmps[27]?.getD undef = .slice (some ⟨g, o, none⟩) s.cuts.length cc := hD 1 (by kernel_rfl)
            have h28 : a.tmps[28]?.getD undef = .int .i64 (k : Int) := hD 2 (by kernel_rfl)
            clear hF hD
            go_simp
            exact hK.out _ _ (Kp.refl _) rfl
          · intro a w' hk hF hD K hK
            simp only [List.getElem?_toArray, List.getElem?_cons_zero, List.getElem?_cons_succ, Option.map_some, Option.getD_some]
            have h29 : a.tmps[29]?.getD undef = .pointer (some ⟨g, o + k * 2, none⟩) := hD 3 (by kernel_rfl)
            clear hF hD
            rw [if_pos (show Region.wanted _ _ = true from rfl)]
            refine wp_load_mid 117 (.tmp 29) rfl g (o + k * 2) (by simpa [Act.eval] using h29) _ _ (hk.range hr) Try.underlying117 rfl hi.out ?_
            exact hK.out _ _ (Kp.refl _) rfl
          · intro a w' hk hF hD K hK
            simp only [List.getElem?_toArray, List.getElem?_cons_zero, List.getElem?_cons_succ, Option.map_some, Option.getD_some]
            have h1 : a.tmps[1]?.getD undef = .int .i64 p := hF 1 (by kernel_rfl)
            clear hF hD
            go_simp
            exact hK.out _ _ (Kp.refl _) rfl
          · intro a w' hk hF hD K hK
            simp only [List.getElem?_toArray, List.getElem?_cons_zero, List.getElem?_cons_succ, Option.map_some, Option.getD_some]
            have h2 : a.tmps[2]?.getD undef = .int .i64 q := hF 2 (by kernel_rfl)
            clear hF hD
            go_simp
            exact hK.out _ _ (Kp.refl _) rfl
          · intro a w' hk hF hD K hK
            simp only [List.getElem?_toArray, List.getElem?_cons_zero, List.getElem?_cons_succ, Option.map_some, Option.getD_some]
            have h31 : a.tmps[31]?.getD undef = .int .i64 p := hD 5 (by kernel_rfl)
            have h32 : a.tmps[32]?.getD undef = .int .i64 q := hD 6 (by kernel_rfl)
            clear hF hD
            go_simp
            refine (qPairR_any p q _).mono ?_
            rintro e w9 ⟨rfl, hk9⟩
            exact hK.out _ _ hk9 rfl
        · exact fun i0 hi0 => by simp at hi0
        intro v w9 k9 hv
        have v4 : v 4 = pairV x1 x2 := hv 4 (by omega)
        have v7 : v 7 = pairV (min p q) (max p q) := hv 7 (by omega)
        clear hv
        have kr9 := kr.trans k9
        simp only [G2.growPut, G2.gSlot, List.getElem?_toArray, List.getElem?_cons_zero, List.getElem?_cons_succ, Option.bind_some, List.setIfInBounds_toArray, List.set_cons_zero, List.set_cons_succ, List.drop_succ_cons, List.drop_zero, v4, v7]
        have hown9 := hown.kp k9
        have hAr9 := hAr.kp k9 (Nat.lt_of_lt_of_le la2 kr.size)
        have c49 := hAr9.cell (j := 4) rfl
        have hr9 := k9.range hr
        clear c4 hr hAr hown kr k9
        by_cases hx : x1 = min p q ∧ x2 = max p q
        · have HD2 : Hid (keepC s.cuts p q = L ++ keepC (s.cuts.drop (k + 1)) p q) := hid (by
            rw [HD.out, HX.out, keepC, List.filter_cons, decide_eq_true (by rw [hx.1, hx.2])]
            rfl)
          have e1 : Sem.run Try.prog (Op.equalIn 10000 117 (pairV x1 x2) (pairV (min p q) (max p q))) w9 = .ok true w9 := (eqPair x1 x2 (min p q) (max p q) w9).trans (by simp [hx])
          replace hx := hid hx
          go_wp2_with fail
          go_roundw
          case rel => exact ⟨k + 1, L, by omega, by go_num, by omega, hown9, HD2, kr9⟩
          case measure => simp [intOf]; omega
        · have HD2 : Hid (keepC s.cuts p q = (L ++ [(x1, x2)]) ++ keepC (s.cuts.drop (k + 1)) p q) := hid (by
            have h1 : ¬ (x1, x2) = (min p q, max p q) := fun h => hx (by injection h with h1 h2; exact ⟨h1, h2⟩)
            rw [HD.out, HX.out, keepC, List.filter_cons, decide_eq_false h1]
            simp [keepC])
          have e1 : Sem.run Try.prog (Op.equalIn 10000 117 (pairV x1 x2) (pairV (min p q) (max p q))) w9 = .ok false w9 := (eqPair x1 x2 (min p q) (max p q) w9).trans (by
            have : (x1 == min p q && x2 == max p q) = false := Bool.eq_false_iff.2 fun h => hx (by simpa using h)
            rw [this])
          replace hx := hid hx
          go_wp2_with (first | (refine wpList_load_mid rfl 117 (.tmp 39) rfl g (o + k * 2) rfl _ _ hr9 Try.underlying117 rfl hi.out ?_) | (at_builtin; refine wpl_append_flat rfl (.tmp 35) (.tmp 41) rfl stP2M encP2_len encP2_one rfl (hown9.alloc _) rfl ((Own.lit (base := w9.heap.size) encP2 w9 _ [(x1, x2)] (Nat.le_refl _) (by simp) rfl rfl).sl encP2_len) (by first | omega | (simp; omega)) (by first | omega | (simp; omega)) (by have := kr9.size; simp; omega) ?_; intro v1 w10 hown1 hgrow1 hat1 hnil1))
          go_roundw
          case rel => exact ⟨k + 1, L ++ [(x1, x2)], by omega, by go_num, by simp; omega, hown1, HD2, (kr9.alloc _).grown hgrow1 hown9.ge⟩
          case measure => simp [intOf]; omega
      · have hlk : ¬ (k : Int) < (s.cuts.length : Int) := by omega
        have HK : Hid (keepC s.cuts p q = L) := hid (by rw [HD.out, List.drop_of_length_le (by omega)]; simp [keepC])
        have hBr := hB.kp kr lb2
        have kkr := kk.trans kr
        have hsz := kr.size
        have hb0w : b0 < wr.heap.size := by omega
        have hb1w : b0 + 1 < wr.heap.size := by omega
        clear HD hC2 HS
        cases c with
        | false =>
          have HF2 : Hid (cutR s p q false = ({ s with cuts := L }, 0)) := hid (by rw [HF.out, HK.out]; simp)
          have c4 := hAr.cell (j := 4) rfl
          have f4 := hAr.free (j := 4) (by simp)
          go_upto_region 12 with (fail)
          have kS := kkr.set (p := ⟨b0, 4, none⟩) (by show w.heap.size ≤ b0; omega) (Value.slice AL L.length cL)
          have kg := (Kg.refl wr b0).set (p := ⟨b0, 4, none⟩) (.inl rfl) (Value.slice AL L.length cL)
          have hA5 := hAr.set (j := 4) (by simp) (Value.slice AL L.length cL)
          have hB5 := hBr.kg kg hb1w (by omega)
          have own5 := (hown).kg kg la2
          generalize (wr).setCell ⟨b0, 4, none⟩ (Value.slice AL L.length cL) = w5 at *
          clear hAr hBr c4 f4 kg
          have c0 := (hA5).cell (j := 0) rfl
          have c1 := (hA5).cell (j := 1) rfl
          have c2 := (hA5).cell (j := 2) rfl
          have c3 := (hA5).cell (j := 3) rfl
          have c4 := (hA5).cell (j := 4) rfl
          have c5 := (hA5).cell (j := 5) rfl
          have c6 := (hA5).cell (j := 6) rfl
          have c7 := (hA5).cell (j := 7) rfl
          have c8 := (hA5).cell (j := 8) rfl
          have d0 := (hB5).cell (j := 0) rfl
          have d1 := (hB5).cell (j := 1) rfl
          have d2 := (hB5).cell (j := 2) rfl
          have d3 := (hB5).cell (j := 3) rfl
          have d4 := (hB5).cell (j := 4) rfl
          have d5 := (hB5).cell (j := 5) rfl
          have d6 := (hB5).cell (j := 6) rfl
          have d7 := (hB5).cell (j := 7) rfl
          have d8 := (hB5).cell (j := 8) rfl
          have f0 := (hB5).free (j := 0) (by simp)
          have f1 := (hB5).free (j := 1) (by simp)
          have f2 := (hB5).free (j := 2) (by simp)
          have f3 := (hB5).free (j := 3) (by simp)
          have f4 := (hB5).free (j := 4) (by simp)
          have f5 := (hB5).free (j := 5) (by simp)
          have f6 := (hB5).free (j := 6) (by simp)
          have f7 := (hB5).free (j := 7) (by simp)
          have f8 := (hB5).free (j := 8) (by simp)
          go_wp2
          refine bodyPost_ret (results_cell_bx2 rfl _ _ (b0 + 1) [.int .i64 s.reps, .int .i64 s.tick, .slice Af s.fates.length cf, .slice Al s.flight.length cl, Value.slice AL L.length cL, .int .i64 s.sent, .int .i64 s.delivered, .int .i64 s.lost, .int .i64 s.made] _ rfl (hB5.all (cs := [.int .i64 s.reps, .int .i64 s.tick, .slice Af s.fates.length cf, .slice Al s.flight.length cl, Value.slice AL L.length cL, .int .i64 s.sent, .int .i64 s.delivered, .int .i64 s.lost, .int .i64 s.made]) rfl).range Try.underlying66 rfl (by kernel_rfl)) rfl ?_
          have kF := Kp.setCells (by omega : w.heap.size ≤ b0 + 1) [.int .i64 s.reps, .int .i64 s.tick, .slice Af s.fates.length cf, .slice Al s.flight.length cl, Value.slice AL L.length cL, .int .i64 s.sent, .int .i64 s.delivered, .int .i64 s.lost, .int .i64 s.made] 0 _ kS
          have kg6 := Kg.setCells (g := b0 + 1) [.int .i64 s.reps, .int .i64 s.tick, .slice Af s.fates.length cf, .slice Al s.flight.length cl, Value.slice AL L.length cL, .int .i64 s.sent, .int .i64 s.delivered, .int .i64 s.lost, .int .i64 s.made] 0 _ (Kg.refl w5 (b0 + 1))
          have own6 := own5.kg kg6 lb2
          exact ⟨_, by rw [HF2.out]; rfl, by rw [HF2.out]; exact ⟨_, _, _, _, rfl, XF.out, XL.out, XR.out, (XO.out.kp kF).mono fun _ h => .inl h, (own6.owS.imp fun _ h => h.sl encP2_len).mono fun i hi => .inr (by have := own6.ge i hi; omega)⟩, kF⟩
        | true =>
          have HF2 : Hid (cutR s p q true = ({ s with cuts := L ++ [(min p q, max p q)] }, 0)) := hid (by rw [HF.out, HK.out]; rfl)
          go_wp2_with fail
          refine (qPairR_any p q _).mono ?_
          rintro e w3 ⟨rfl, k3⟩
          have kr3 := kr.trans k3
          have hown3 := hown.kp k3
          go_upto_region 11 with (at_builtin; refine wpl_append_flat rfl (.tmp 44) (.tmp 48) rfl stP2M encP2_len encP2_one rfl (hown3.alloc _) rfl ((Own.lit (base := w3.heap.size) encP2 w3 _ [(min p q, max p q)] (Nat.le_refl _) (by simp) rfl rfl).sl encP2_len) (by first | omega | (simp; omega)) (by first | omega | (simp; omega)) (by have := kr3.size; simp; omega) ?_; intro v1 w10 hown1 hgrow1 hat1 hnil1)
          have k10 := (kr3.alloc _).grown hgrow1 hown3.ge
          have hAr := hA.kp k10 la2
          have hBr := hB.kp k10 lb2
          have kkr := kk.trans k10
          have hsz := k10.size
          have hb0w : b0 < w10.heap.size := by omega
          have hb1w : b0 + 1 < w10.heap.size := by omega
          obtain ⟨A1, cN, e9, hc1, hm1⟩ := hown1.form
          simp only [List.length_append, List.length_cons, List.length_nil, Nat.zero_add] at e9
          subst e9
          clear k3 kr3 hown3 hgrow1 hat1 hnil1
          have c4 := hAr.cell (j := 4) rfl
          have f4 := hAr.free (j := 4) (by simp)
          go_upto_region 12 with (fail)
          have kS := kkr.set (p := ⟨b0, 4, none⟩) (by show w.heap.size ≤ b0; omega) (Value.slice A1 (L.length + 1) cN)
          have kg := (Kg.refl w10 b0).set (p := ⟨b0, 4, none⟩) (.inl rfl) (Value.slice A1 (L.length + 1) cN)
          have hA5 := hAr.set (j := 4) (by simp) (Value.slice A1 (L.length + 1) cN)
          have hB5 := hBr.kg kg hb1w (by omega)
          have own5 := (hown1).kg kg la2
          generalize (w10).setCell ⟨b0, 4, none⟩ (Value.slice A1 (L.length + 1) cN) = w5 at *
          clear hAr hBr c4 f4 kg
          have c0 := (hA5).cell (j := 0) rfl
          have c1 := (hA5).cell (j := 1) rfl
          have c2 := (hA5).cell (j := 2) rfl
          have c3 := (hA5).cell (j := 3) rfl
          have c4 := (hA5).cell (j := 4) rfl
          have c5 := (hA5).cell (j := 5) rfl
          have c6 := (hA5).cell (j := 6) rfl
          have c7 := (hA5).cell (j := 7) rfl
          have c8 := (hA5).cell (j := 8) rfl
          have d0 := (hB5).cell (j := 0) rfl
          have d1 := (hB5).cell (j := 1) rfl
          have d2 := (hB5).cell (j := 2) rfl
          have d3 := (hB5).cell (j := 3) rfl
          have d4 := (hB5).cell (j := 4) rfl
          have d5 := (hB5).cell (j := 5) rfl
          have d6 := (hB5).cell (j := 6) rfl
          have d7 := (hB5).cell (j := 7) rfl
          have d8 := (hB5).cell (j := 8) rfl
          have f0 := (hB5).free (j := 0) (by simp)
          have f1 := (hB5).free (j := 1) (by simp)
          have f2 := (hB5).free (j := 2) (by simp)
          have f3 := (hB5).free (j := 3) (by simp)
          have f4 := (hB5).free (j := 4) (by simp)
          have f5 := (hB5).free (j := 5) (by simp)
          have f6 := (hB5).free (j := 6) (by simp)
          have f7 := (hB5).free (j := 7) (by simp)
          have f8 := (hB5).free (j := 8) (by simp)
          go_wp2
          refine bodyPost_ret (results_cell_bx2 rfl _ _ (b0 + 1) [.int .i64 s.reps, .int .i64 s.tick, .slice Af s.fates.length cf, .slice Al s.flight.length cl, Value.slice A1 (L.length + 1) cN, .int .i64 s.sent, .int .i64 s.delivered, .int .i64 s.lost, .int .i64 s.made] _ rfl (hB5.all (cs := [.int .i64 s.reps, .int .i64 s.tick, .slice Af s.fates.length cf, .slice Al s.flight.length cl, Value.slice A1 (L.length + 1) cN, .int .i64 s.sent, .int .i64 s.delivered, .int .i64 s.lost, .int .i64 s.made]) rfl).range Try.underlying66 rfl (by kernel_rfl)) rfl ?_
          have kF := Kp.setCells (by omega : w.heap.size ≤ b0 + 1) [.int .i64 s.reps, .int .i64 s.tick, .slice Af s.fates.length cf, .slice Al s.flight.length cl, Value.slice A1 (L.length + 1) cN, .int .i64 s.sent, .int .i64 s.delivered, .int .i64 s.lost, .int .i64 s.made] 0 _ kS
          have kg6 := Kg.setCells (g := b0 + 1) [.int .i64 s.reps, .int .i64 s.tick, .slice Af s.fates.length cf, .slice Al s.flight.length cl, Value.slice A1 (L.length + 1) cN, .int .i64 s.sent, .int .i64 s.delivered, .int .i64 s.lost, .int .i64 s.made] 0 _ (Kg.refl w5 (b0 + 1))
          have own6 := own5.kg kg6 lb2
          exact ⟨_, by rw [HF2.out]; rfl, by rw [HF2.out]; exact ⟨_, _, _, _, rfl, XF.out, XL.out, XR.out, (XO.out.kp kF).mono fun _ h => .inl h, (own6.owS.imp fun _ h => h.sl encP2_len).mono fun i hi => .inr (by have := own6.ge i hi; omega)⟩, kF⟩
end Go.Proofs.Ytmokpnkpfodppaa
