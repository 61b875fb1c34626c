
/-
The reference's network: links, fates, the first copy: the walks.
-/
import Derived.Test.YtmokpnkpfodppaaOpA
namespace Go.Proofs.Ytmokpnkpfodppaa
set_option linter.unusedSimpArgs false
set_option linter.unusedVariables false
open Go.RowKit

def cutIn (l : List (Int × Int)) (a b : Int) : Bool := l.any fun p => decide (p = (min a b, max a b))
def linkR (s : RSt) (a b : Int) : Bool := pairB s.reps a b && !cutIn s.cuts a b
theorem Sl.pair2 {w : World} {A : Option Addr} {n c : Nat} {l : List (Int × Int)} (h : Cuts2 w (.slice A n c) l) {k : Nat} (hk : k < l.length) :
    ∃ b o, A = some ⟨b, o, none⟩ ∧ b < w.heap.size ∧ w.rangeAt b (o + k * 2) [.int .i64 l[k].1, .int .i64 l[k].2] := by
  obtain ⟨b, o, cs, hA, hb, hcs, hc, hr⟩ := h.at_ hk
  unfold Pl encP2 at hr
  subst hr
  exact ⟨b, o, hA, hb, fun j v hj => hc j v hj⟩
set_option maxRecDepth 8000 in
set_option maxHeartbeats 1600000 in
theorem qLinked_any (vs : Value) (s : RSt) (p q : Int) (w : World) (hs : StV w vs s) : Calls Try.prog 27 #[vs, .int .i64 p, .int .i64 q] w fun e w' => e = .returned (.bool (linkR s p q)) ∧ Kp w w' := by
  have HS := hs
  obtain ⟨vf, vl, vc, rfl, hF, hL, hC⟩ := hs
  obtain ⟨Af, cf, rfl, hcf, hmf⟩ := hF.form
  obtain ⟨Al, cl, rfl, hcl, hml⟩ := hL.form
  obtain ⟨Ac, cc, rfl, hcc, hmc⟩ := hC.form
  have hB := Bx.new w #[.int .i64 s.reps, .int .i64 s.tick, .slice Af s.fates.length cf, .slice Al s.flight.length cl, .slice Ac s.cuts.length cc, .int .i64 s.sent, .int .i64 s.delivered, .int .i64 s.lost, .int .i64 s.made] 66
  have k0 := (Kp.refl w).alloc (.cells #[.int .i64 s.reps, .int .i64 s.tick, .slice Af s.fates.length cf, .slice Al s.flight.length cl, .slice Ac s.cuts.length cc, .int .i64 s.sent, .int .i64 s.delivered, .int .i64 s.lost, .int .i64 s.made] 66)
  have c4 := hB.cell (j := 4) rfl
  have HS0 := HS.kp k0
  have hC0 := hC.keep (pl_stable _) k0
  generalize hR : linkR s p q = R
  have HR : Hid (R = linkR s p q) := hid hR.symm
  clear hR HS hF hL hC
  go_enter Try.func27, Try.ntmps27
  go_wp2_with fail
  refine (qEnds_any _ s p q _ HS0).mono ?_
  rintro e w1 ⟨rfl, k1⟩
  generalize w.alloc (.cells #[.int .i64 s.reps, .int .i64 s.tick, .slice Af s.fates.length cf, .slice Al s.flight.length cl, .slice Ac s.cuts.length cc, .int .i64 s.sent, .int .i64 s.delivered, .int .i64 s.lost, .int .i64 s.made] 66) = w0 at *
  replace c4 := k1.cellS c4
  have hC1 := hC0.keep (pl_stable _) k1
  have k01 := k0.trans k1
  clear HS0 hC0 k0 k1 hB
  cases hp : pairB s.reps p q with
  | false =>
    have HF : Hid (R = false) := hid (by rw [HR.out, linkR, hp]; rfl)
    clear HR hp
    go_wp2
    go_ret
    exact ⟨by rw [HF.out]; rfl, k01⟩
  | true =>
    replace hp := hid hp
    go_wp2_with fail
    go_loopw [7] (fun i wr => ∃ k : Nat, k ≤ s.cuts.length ∧ i = .int .i64 (k : Int) ∧ Hid (cutIn s.cuts p q = cutIn (s.cuts.drop k) p q) ∧ Kp w1 wr) (fun i _ => s.cuts.length - (intOf i).toNat)
    case atStart => exact ⟨0, Nat.zero_le _, rfl, hid rfl, Kp.refl _⟩
    case round =>
      obtain ⟨k, hk, rfl, HD, kr⟩ := hrel
      have c4r := kr.cellS c4
      by_cases hlt : k < s.cuts.length
      · have hlk : (k : Int) < (s.cuts.length : Int) := by omega
        obtain ⟨g, o, rfl, hg, hr⟩ := (hC1.keep (pl_stable _) kr).pair2 hlt
        have HX := hid (List.drop_eq_getElem_cons hlt)
        generalize s.cuts[k] = x at *
        obtain ⟨x1, x2⟩ := x
        dsimp only at hr
        have hi : Hid ((Try.prog.info? 117).map (·.size) = some 2) := hid (by kernel_rfl)
        have hkn : (k : Int).toNat = k := by simp
        clear hC1
        go_upto_region 6 with (fail)
        refine G2.wp_region_growG Kp [] 8 29 (G2.pvL [G2.eqv (.pointer (some ⟨w.heap.size, 4, none⟩)), G2.eqv (.slice (some ⟨g, o, none⟩) s.cuts.length cc), G2.eqv (.int .i64 (k : Int)), G2.eqv (.pointer (some ⟨g, o + k * 2, none⟩)), G2.eqv (pairV x1 x2), G2.eqv (.int .i64 p), G2.eqv (.int .i64 q), G2.eqv (pairV (min p q) (max p q))]) (by kernel_rfl) (by kernel_rfl) rfl (fun x => Kp.refl x) (fun _ _ _ h k => h.trans k) (Kp.refl _).drew (fun _ _ _ _ _ h => h) (G2.pvL_keep (G2.stabL_cons (G2.stab_eq _) (G2.stabL_cons (G2.stab_eq _) (G2.stabL_cons (G2.stab_eq _) (G2.stabL_cons (G2.stab_eq _) (G2.stabL_cons (G2.stab_eq _) (G2.stabL_cons (G2.stab_eq _) (G2.stabL_cons (G2.stab_eq _) (G2.stabL_cons (G2.stab_eq _) (G2.stabL_nil)))))))))) ?_ ?_ ?_
        · intro i0 hi0
          have hi' : i0 = 0 ∨ i0 = 1 ∨ i0 = 2 ∨ i0 = 3 ∨ i0 = 4 ∨ i0 = 5 ∨ i0 = 6 ∨ i0 = 7 := by omega
          rcases hi' with rfl | rfl | rfl | rfl | rfl | rfl | rfl | rfl
          · intro a w' hk hF hD K hK
            simp only [List.getElem?_toArray, List.getElem?_cons_zero, List.getElem?_cons_succ, Option.map_some, Option.getD_some]
            have h3 : a.tmps[3]?.getD undef = .pointer (some ⟨w.heap.size, 0, none⟩) := hF 3 (by kernel_rfl)
            clear hF hD
            go_simp
            exact hK.out _ _ (Kp.refl _) rfl
          · intro a w' hk hF hD K hK
            simp only [List.getElem?_toArray, List.getElem?_cons_zero, List.getElem?_cons_succ, Option.map_some, Option.getD_some]
            have h20 : a.tmps[20]?.getD undef = .pointer (some ⟨w.heap.size, 4, none⟩) := hD 0 (by kernel_rfl)
            clear hF hD
            have z1 := hk.cellS c4r
            go_simp
            exact hK.out _ _ (Kp.refl _) rfl
          · intro a w' hk hF hD K hK
            simp only [List.getElem?_toArray, List.getElem?_cons_zero, List.getElem?_cons_succ, Option.map_some, Option.getD_some]
            have h7 : a.tmps[7]?.getD undef = .int .i64 (k : Int) := hF 7 (by kernel_rfl)
            clear hF hD
            go_simp
            exact hK.out _ _ (Kp.refl _) rfl
          · intro a w' hk hF hD K hK
            simp only [List.getElem?_toArray, List.getElem?_cons_zero, List.getElem?_cons_succ, Option.map_some, Option.getD_some]
            have h21 : a.tmps[21]?.getD undef = .slice (some ⟨g, o, none⟩) s.cuts.length cc := hD 1 (by kernel_rfl)
            have h22 : a.tmps[22]?.getD undef = .int .i64 (k : Int) := hD 2 (by kernel_rfl)
            clear hF hD
            go_simp
            exact hK.out _ _ (Kp.refl _) rfl
          · intro a w' hk hF hD K hK
            simp only [List.getElem?_toArray, List.getElem?_cons_zero, List.getElem?_cons_succ, Option.map_some, Option.getD_some]
            have h23 : a.tmps[23]?.getD undef = .pointer (some ⟨g, o + k * 2, none⟩) := hD 3 (by kernel_rfl)
            clear hF hD
            rw [if_pos (show Region.wanted _ _ = true from rfl)]
            refine wp_load_mid 117 (.tmp 23) rfl g (o + k * 2) (by simpa [Act.eval] using h23) _ _ (hk.range hr) Try.underlying117 rfl hi.out ?_
            exact hK.out _ _ (Kp.refl _) rfl
          · intro a w' hk hF hD K hK
            simp only [List.getElem?_toArray, List.getElem?_cons_zero, List.getElem?_cons_succ, Option.map_some, Option.getD_some]
            have h1 : a.tmps[1]?.getD undef = .int .i64 p := hF 1 (by kernel_rfl)
            clear hF hD
            go_simp
            exact hK.out _ _ (Kp.refl _) rfl
          · intro a w' hk hF hD K hK
            simp only [List.getElem?_toArray, List.getElem?_cons_zero, List.getElem?_cons_succ, Option.map_some, Option.getD_some]
            have h2 : a.tmps[2]?.getD undef = .int .i64 q := hF 2 (by kernel_rfl)
            clear hF hD
            go_simp
            exact hK.out _ _ (Kp.refl _) rfl
          · intro a w' hk hF hD K hK
            simp only [List.getElem?_toArray, List.getElem?_cons_zero, List.getElem?_cons_succ, Option.map_some, Option.getD_some]
            have h25 : a.tmps[25]?.getD undef = .int .i64 p := hD 5 (by kernel_rfl)
            have h26 : a.tmps[26]?.getD undef = .int .i64 q := hD 6 (by kernel_rfl)
            clear hF hD
            go_simp
            refine (qPairR_any p q _).mono ?_
            rintro e w9 ⟨rfl, hk9⟩
            exact hK.out _ _ hk9 rfl
        · exact fun i0 hi0 => by simp at hi0
        intro v w9 k9 hv
        have v4 : v 4 = pairV x1 x2 := hv 4 (by omega)
        have v7 : v 7 = pairV (min p q) (max p q) := hv 7 (by omega)
        clear hv
        have kr9 := kr.trans k9
        simp only [G2.growPut, G2.gSlot, List.getElem?_toArray, List.getElem?_cons_zero, List.getElem?_cons_succ, Option.bind_some, List.setIfInBounds_toArray, List.set_cons_zero, List.set_cons_succ, List.drop_succ_cons, List.drop_zero, v4, v7]
        by_cases hx : x1 = min p q ∧ x2 = max p q
        · have HF : Hid (R = false) := hid (by
            rw [HR.out, linkR, hp.out, HD.out, HX.out, cutIn, List.any_cons, decide_eq_true (by rw [hx.1, hx.2])]
            rfl)
          have e1 : Sem.run Try.prog (Op.equalIn 10000 117 (pairV x1 x2) (pairV (min p q) (max p q))) w9 = .ok true w9 := (eqPair x1 x2 (min p q) (max p q) w9).trans (by simp [hx])
          replace hx := hid hx
          go_wp2
          go_ret
          exact ⟨by rw [HF.out]; rfl, k01.trans kr9⟩
        · have HD2 : Hid (cutIn s.cuts p q = cutIn (s.cuts.drop (k + 1)) p q) := hid (by
            have h1 : ¬ (x1, x2) = (min p q, max p q) := fun h => hx (by injection h with h1 h2; exact ⟨h1, h2⟩)
            rw [HD.out, HX.out, cutIn, List.any_cons, decide_eq_false h1]
            rfl)
          have e1 : Sem.run Try.prog (Op.equalIn 10000 117 (pairV x1 x2) (pairV (min p q) (max p q))) w9 = .ok false w9 := (eqPair x1 x2 (min p q) (max p q) w9).trans (by
            have : (x1 == min p q && x2 == max p q) = false := Bool.eq_false_iff.2 fun h => hx (by simpa using h)
            rw [this])
          replace hx := hid hx
          go_wp2_with fail
          go_roundw
          case rel => exact ⟨k + 1, by omega, by go_num, HD2, kr9⟩
          case measure => simp [intOf]; omega
      · have hlk : ¬ (k : Int) < (s.cuts.length : Int) := by omega
        have HF : Hid (R = true) := hid (by
          rw [HR.out, linkR, hp.out, HD.out, List.drop_of_length_le (by omega)]
          rfl)
        go_wp2
        go_ret
        exact ⟨by rw [HF.out]; rfl, k01.trans kr⟩
/-- the fate of the next message -/
def fateR (s : RSt) : Fate := if s.fates.length = 0 then ⟨false, 1, 0⟩ else s.fates.getD (s.sent.toNat % s.fates.length) default
set_option maxRecDepth 8000 in
set_option maxHeartbeats 1600000 in
theorem qFateR_any (vs : Value) (s : RSt) (w : World) (hs : StV w vs s) (hsp : 0 ≤ s.sent) : Calls Try.prog 64 #[vs] w fun e w' => e = .returned (.agg #[.bool (fateR s).drop, .int .i64 (fateR s).delay, .int .i64 (fateR s).again]) ∧ Kp w w' := by
  obtain ⟨vf, vl, vc, rfl, hF, hL, hC⟩ := hs
  obtain ⟨Af, cf, rfl, hcf, hmf⟩ := hF.form
  obtain ⟨Al, cl, rfl, hcl, hml⟩ := hL.form
  obtain ⟨Ac, cc, rfl, hcc, hmc⟩ := hC.form
  clear hL hC
  have hB := Bx.new w #[.int .i64 s.reps, .int .i64 s.tick, .slice Af s.fates.length cf, .slice Al s.flight.length cl, .slice Ac s.cuts.length cc, .int .i64 s.sent, .int .i64 s.delivered, .int .i64 s.lost, .int .i64 s.made] 66
  have k0 := (Kp.refl w).alloc (.cells #[.int .i64 s.reps, .int .i64 s.tick, .slice Af s.fates.length cf, .slice Al s.flight.length cl, .slice Ac s.cuts.length cc, .int .i64 s.sent, .int .i64 s.delivered, .int .i64 s.lost, .int .i64 s.made] 66)
  have c2 := hB.cell (j := 2) rfl
  have c5 := hB.cell (j := 5) rfl
  have hS0 := hF.keep (pl_stable _) k0
  clear hF hB
  generalize hw0 : w.alloc (.cells #[.int .i64 s.reps, .int .i64 s.tick, .slice Af s.fates.length cf, .slice Al s.flight.length cl, .slice Ac s.cuts.length cc, .int .i64 s.sent, .int .i64 s.delivered, .int .i64 s.lost, .int .i64 s.made] 66) = w0 at *
  generalize hb0 : w.heap.size = b0 at *
  have hB1 := Bx.new w0 #[.bool false, .int .i64 0, .int .i64 0] 47
  have k1 := (Kp.refl w0).alloc (.cells #[.bool false, .int .i64 0, .int .i64 0] 47)
  have c2' := k1.cellS c2
  have c5' := k1.cellS c5
  have hwb := alloc_lt w0 (.cells #[.bool false, .int .i64 0, .int .i64 0] 47)
  have hbf := hB1.free (j := 0) (by simp)
  have k01 := k0.trans k1
  by_cases hz : s.fates.length = 0
  · have HF : Hid (fateR s = ⟨false, 1, 0⟩) := hid (by rw [fateR, if_pos hz])
    rw [HF.out]
    have hE := Bx.new w0 #[.bool false, .int .i64 1, .int .i64 0] 47
    generalize hn : s.fates.length = n at *
    subst hz
    clear HF hS0
    go_enter Try.func64, Try.ntmps64
    go_wp2
    refine bodyPost_ret (results_cell_bx rfl _ _ w0.heap.size [.bool false, .int .i64 1, .int .i64 0] _ (by subst hw0; rfl) hE.range Try.underlying47 rfl (by kernel_rfl)) rfl ?_
    exact ⟨rfl, k0.alloc _⟩
  · have HF : Hid (fateR s = s.fates.getD (s.sent.toNat % s.fates.length) default) := hid (by rw [fateR, if_neg hz])
    have hk : s.sent.toNat % s.fates.length < s.fates.length := Nat.mod_lt _ (by omega)
    have hr := rem_nat s.fates.length hsp
    generalize hkk : s.sent.toNat % s.fates.length = k at *
    clear hkk
    have HG : Hid (s.fates.getD k default = s.fates[k]) := hid (by simp [List.getD, hk])
    have HF2 := hid (HF.out.trans HG.out)
    rw [HF2.out]
    obtain ⟨b, o, rfl, hb, i0, i1, i2⟩ := hS0.fate hk
    have hne : ((s.fates.length : Int) == 0) = false := beq_false_of_ne (by omega)
    have hne2 : (s.fates.length == 0) = false := beq_false_of_ne hz
    have hkl : (k : Int) < (s.fates.length : Int) := by omega
    have hlp : ¬ (s.fates.length : Int) = 0 := by omega
    clear HF HF2 HG hS0
    generalize s.fates[k] = f at *
    generalize s.fates.length = n at *
    generalize s.sent = se at *
    obtain ⟨d, y, r⟩ := f
    dsimp only at i0 i1 i2 ⊢
    go_enter Try.func64, Try.ntmps64
    go_upto_region 3 with (fail)
    generalize hw1 : w0.alloc (.cells #[.bool false, .int .i64 0, .int .i64 0] 47) = w1 at *
    generalize hb1 : w0.heap.size = b1 at *
    replace i0 := k1.cellS i0
    replace i1 := k1.cellS i1
    replace i2 := k1.cellS i2
    have hb1' : w.heap.size ≤ b1 := by have := k0.size; omega
    refine G2.wp_region_growG Kp [] 10 18 (G2.pvL [G2.eqv (.pointer (some ⟨b0, 2, none⟩)), G2.eqv (.slice (some ⟨b, o, none⟩) n cf), G2.eqv (.pointer (some ⟨b0, 5, none⟩)), G2.eqv (.int .i64 se), G2.eqv (.pointer (some ⟨b0, 2, none⟩)), G2.eqv (.slice (some ⟨b, o, none⟩) n cf), G2.eqv (.int .i64 n), G2.eqv (.int .i64 k), G2.eqv (.pointer (some ⟨b, o + k * 3, none⟩)), G2.eqv (.agg #[.bool d, .int .i64 y, .int .i64 r])]) (by kernel_rfl) (by kernel_rfl) rfl (fun x => Kp.refl x) (fun _ _ _ h k => h.trans k) (Kp.refl _).drew (fun _ _ _ _ _ h => h) (G2.pvL_keep (G2.stabL_cons (G2.stab_eq _) (G2.stabL_cons (G2.stab_eq _) (G2.stabL_cons (G2.stab_eq _) (G2.stabL_cons (G2.stab_eq _) (G2.stabL_cons (G2.stab_eq _) (G2.stabL_cons (G2.stab_eq _) (G2.stabL_cons (G2.stab_eq _) (G2.stabL_cons (G2.stab_eq _) (G2.stabL_cons (G2.stab_eq _) (G2.stabL_cons (G2.stab_eq _) (G2.stabL_nil)))))))))))) ?_ ?_ ?_
    · intro i0 hi0
      have hi' : i0 = 0 ∨ i0 = 1 ∨ i0 = 2 ∨ i0 = 3 ∨ i0 = 4 ∨ i0 = 5 ∨ i0 = 6 ∨ i0 = 7 ∨ i0 = 8 ∨ i0 = 9 := by omega
      rcases hi' with rfl | rfl | rfl | rfl | rfl | rfl | rfl | rfl | rfl | rfl
      · intro a w' hk hF hD K hK
        simp only [List.getElem?_toArray, List.getElem?_cons_zero, List.getElem?_cons_succ, Option.map_some, Option.getD_some]
        have h1 : a.tmps[1]?.getD undef = .pointer (some ⟨b0, 0, none⟩) := hF 1 (by kernel_rfl)
        clear hF hD
        go_simp
        exact hK.out _ _ (Kp.refl _) rfl
      · intro a w' hk hF hD K hK
        simp only [List.getElem?_toArray, List.getElem?_cons_zero, List.getElem?_cons_succ, Option.map_some, Option.getD_some]
        have h8 : a.tmps[8]?.getD undef = .pointer (some ⟨b0, 2, none⟩) := hD 0 (by kernel_rfl)
        clear hF hD
        have z1 := hk.cellS c2'
        go_simp
        exact hK.out _ _ (Kp.refl _) rfl
      · intro a w' hk hF hD K hK
        simp only [List.getElem?_toArray, List.getElem?_cons_zero, List.getElem?_cons_succ, Option.map_some, Option.getD_some]
        have h1 : a.tmps[1]?.getD undef = .pointer (some ⟨b0, 0, none⟩) := hF 1 (by kernel_rfl)
        clear hF hD
        go_simp
        exact hK.out _ _ (Kp.refl _) rfl
      · intro a w' hk hF hD K hK
        simp only [List.getElem?_toArray, List.getElem?_cons_zero, List.getElem?_cons_succ, Option.map_some, Option.getD_some]
        have h10 : a.tmps[10]?.getD undef = .pointer (some ⟨b0, 5, none⟩) := hD 2 (by kernel_rfl)
        clear hF hD
        have z1 := hk.cellS c5'
        go_simp
        exact hK.out _ _ (Kp.refl _) rfl
      · intro a w' hk hF hD K hK
        simp only [List.getElem?_toArray, List.getElem?_cons_zero, List.getElem?_cons_succ, Option.map_some, Option.getD_some]
        have h1 : a.tmps[1]?.getD undef = .pointer (some ⟨b0, 0, none⟩) := hF 1 (by kernel_rfl)
        clear hF hD
        go_simp
        exact hK.out _ _ (Kp.refl _) rfl
      · intro a w' hk hF hD K hK
        simp only [List.getElem?_toArray, List.getElem?_cons_zero, List.getElem?_cons_succ, Option.map_some, Option.getD_some]
        have h12 : a.tmps[12]?.getD undef = .pointer (some ⟨b0, 2, none⟩) := hD 4 (by kernel_rfl)
        clear hF hD
        have z1 := hk.cellS c2'
        go_simp
        exact hK.out _ _ (Kp.refl _) rfl
      · intro a w' hk hF hD K hK
        simp only [List.getElem?_toArray, List.getElem?_cons_zero, List.getElem?_cons_succ, Option.map_some, Option.getD_some]
        have h13 : a.tmps[13]?.getD undef = .slice (some ⟨b, o, none⟩) n cf := hD 5 (by kernel_rfl)
        clear hF hD
        go_simp
        exact hK.out _ _ (Kp.refl _) rfl
      · intro a w' hk hF hD K hK
        simp only [List.getElem?_toArray, List.getElem?_cons_zero, List.getElem?_cons_succ, Option.map_some, Option.getD_some]
        have h11 : a.tmps[11]?.getD undef = .int .i64 se := hD 3 (by kernel_rfl)
        have h14 : a.tmps[14]?.getD undef = .int .i64 n := hD 6 (by kernel_rfl)
        clear hF hD
        go_simp
        exact hK.out _ _ (Kp.refl _) rfl
      · intro a w' hk hF hD K hK
        simp only [List.getElem?_toArray, List.getElem?_cons_zero, List.getElem?_cons_succ, Option.map_some, Option.getD_some]
        have h9 : a.tmps[9]?.getD undef = .slice (some ⟨b, o, none⟩) n cf := hD 1 (by kernel_rfl)
        have h15 : a.tmps[15]?.getD undef = .int .i64 k := hD 7 (by kernel_rfl)
        clear hF hD
        go_simp
        exact hK.out _ _ (Kp.refl _) rfl
      · intro a w' hk hF hD K hK
        simp only [List.getElem?_toArray, List.getElem?_cons_zero, List.getElem?_cons_succ, Option.map_some, Option.getD_some]
        have h16 : a.tmps[16]?.getD undef = .pointer (some ⟨b, o + k * 3, none⟩) := hD 8 (by kernel_rfl)
        clear hF hD
        have z0 := hk.cellS i0
        have z1 := hk.cellS i1
        have z2 := hk.cellS i2
        go_simp
        exact hK.out _ _ (Kp.refl _) rfl
    · exact fun i0 hi0 => by simp at hi0
    intro v w9 k9 hv
    have v9 : v 9 = .agg #[.bool d, .int .i64 y, .int .i64 r] := hv 9 (by omega)
    clear hv
    simp only [G2.growPut, G2.gSlot, List.getElem?_toArray, List.getElem?_cons_zero, List.getElem?_cons_succ, Option.bind_some, List.setIfInBounds_toArray, List.set_cons_zero, List.set_cons_succ, List.drop_succ_cons, List.drop_zero, v9]
    have hB9 := hB1.kp k9 hwb
    have hS := ((hB9.set (j := 0) (by simp) (.bool d)).set (j := 1) (by simp) (.int .i64 y)).set (j := 2) (by simp) (.int .i64 r)
    have d0 := hB9.cell (j := 0) rfl
    have d1 := hB9.cell (j := 1) rfl
    have d2 := hB9.cell (j := 2) rfl
    have f0 := hB9.free (j := 0) (by simp)
    have f1 := hB9.free (j := 1) (by simp)
    have f2 := hB9.free (j := 2) (by simp)
    go_wp2
    refine bodyPost_ret (results_cell_bx rfl _ _ b1 [.bool d, .int .i64 y, .int .i64 r] _ rfl hS.range Try.underlying47 rfl (by kernel_rfl)) rfl ?_
    have k9' := k01.trans k9
    exact ⟨rfl, ((k9'.set (p := ⟨b1, 0, none⟩) hb1' _).set (p := ⟨b1, 1, none⟩) hb1' _).set (p := ⟨b1, 2, none⟩) hb1' _⟩
/-- the place of the copy that comes first -/
def ltC (x y : Cpy) : Bool := decide (x.due < y.due) || (x.due == y.due && decide (x.num < y.num))
def firstFrom (l : List Cpy) : Nat → Int → List Cpy → Int
  | _, best, [] => best
  | i, best, x :: r => firstFrom l (i + 1) (if best < 0 ∨ ltC x (l.getD best.toNat default) = true then (i : Int) else best) r
def firstR (l : List Cpy) : Int := firstFrom l 0 (-1) l
theorem Sl.cpy {w : World} {A : Option Addr} {n c : Nat} {l : List Cpy} (h : Cpys w (.slice A n c) l) {k : Nat} (hk : k < l.length) :
    ∃ b o, A = some ⟨b, o, none⟩ ∧ b < w.heap.size ∧ w.cell? ⟨b, o + k * 20, none⟩ = some (.int .i64 l[k].due) ∧ w.cell? ⟨b, o + k * 20 + 1, none⟩ = some (.int .i64 l[k].num) := by
  obtain ⟨b, o, cs, hA, hb, hcs, hc, ms, hr, hm⟩ := h.at_ hk
  subst hr
  exact ⟨b, o, hA, hb, hc 0 _ rfl, hc 1 _ rfl⟩
set_option maxRecDepth 8000 in
set_option maxHeartbeats 1600000 in
theorem qFirst_any (vl : Value) (l : List Cpy) (w : World) (hl : Cpys w vl l) : Calls Try.prog 51 #[vl] w fun e w' => e = .returned (.int .i64 (firstR l)) ∧ Kp w w' := by
  obtain ⟨A, ca, rfl, hca, hma⟩ := hl.form
  generalize hR : firstR l = R
  have HR : Hid (R = firstR l) := hid hR.symm
  clear hR
  go_enter Try.func51, Try.ntmps51
  go_wp2
  go_loopw [3, 4] (fun a b wr => ∃ (best : Int) (k : Nat), k ≤ l.length ∧ a = .int .i64 best ∧ b = .int .i64 (k : Int) ∧ Hid (firstR l = firstFrom l k best (l.drop k) ∧ -1 ≤ best ∧ best < k) ∧ Kp w wr) (fun _ b _ => l.length - (intOf b).toNat)
  case atStart => exact ⟨-1, 0, Nat.zero_le _, rfl, rfl, hid ⟨rfl, by omega, by omega⟩, Kp.refl _⟩
  case round =>
    obtain ⟨best, k, hk, rfl, rfl, HD, kr⟩ := hrel
    by_cases hlt : k < l.length
    · have hlk : (k : Int) < (l.length : Int) := by omega
      have HX := hid (List.drop_eq_getElem_cons hlt)
      obtain ⟨g, o, rfl, hg, x1, x2⟩ := (hl.keep rdCpy_stable kr).cpy hlt
      by_cases hb : best < 0
      · have e1 : decide (best < 0) = true := decide_eq_true hb
        have HD2 : Hid (firstR l = firstFrom l (k + 1) (k : Int) (l.drop (k + 1)) ∧ -1 ≤ (k : Int) ∧ (k : Int) < (k + 1 : Nat)) := hid ⟨by rw [HD.out.1, HX.out, firstFrom, if_pos (.inl hb)], by omega, by omega⟩
        generalize l[k] = x at *
        replace hb := hid hb
        clear HX
        go_upto_region 5 with (fail)
        go_quiet (fail)
        go_wp2_with fail
        go_roundw
        case rel => exact ⟨(k : Int), k + 1, by omega, rfl, by go_num, HD2, kr.drewN _⟩
        case measure => simp [intOf]; omega
      · have e1 : decide (best < 0) = false := decide_eq_false hb
        obtain ⟨j, rfl⟩ : ∃ j : Nat, best = (j : Int) := ⟨best.toNat, by omega⟩
        have hjk := HD.out.2.2
        have hjl : j < l.length := by omega
        have hjl2 : (j : Int) < (l.length : Int) := by omega
        obtain ⟨g', o', hA', hg', y1, y2⟩ := (hl.keep rdCpy_stable kr).cpy hjl
        injection hA' with hA'
        injection hA' with hg2 ho2
        subst hg2 ho2
        have HY : Hid (l.getD (j : Int).toNat default = l[j]) := hid (by simp [List.getD, hjl])
        have hT : Hid (firstR l = firstFrom l (k + 1) (if ltC l[k] l[j] = true then (k : Int) else (j : Int)) (l.drop (k + 1))) := hid (by
          rw [HD.out.1, HX.out, firstFrom, HY.out]
          by_cases h : ltC l[k] l[j] = true
          · rw [if_pos (.inr h), if_pos h]
          · rw [if_neg (by rintro (h2 | h2); exact hb h2; exact h h2), if_neg h])
        have hj0 : -1 ≤ (j : Int) := by omega
        have hkk : -1 ≤ (k : Int) := by omega
        clear HX HY hb
        generalize l[k] = x at *
        generalize l[j] = y at *
        obtain ⟨x1v, x2v, xm⟩ := x
        obtain ⟨y1v, y2v, ym⟩ := y
        dsimp only at x1 x2 y1 y2
        have hkk2 : (k : Int) < ((k + 1 : Nat) : Int) := by omega
        have hjk2 : (j : Int) < ((k + 1 : Nat) : Int) := by omega
        by_cases c1 : x1v < y1v
        · have e2 : decide (x1v < y1v) = true := decide_eq_true c1
          have HD2 : Hid (firstR l = firstFrom l (k + 1) (k : Int) (l.drop (k + 1)) ∧ -1 ≤ (k : Int) ∧ (k : Int) < (k + 1 : Nat)) := hid ⟨by rw [hT.out, if_pos (by simp [ltC, c1])], hkk, hkk2⟩
          clear hT
          replace c1 := hid c1
          go_upto_region 5 with (fail)
          go_quiet (fail)
          go_wp2_with fail
          go_roundw
          case rel => exact ⟨(k : Int), k + 1, by omega, rfl, by go_num, HD2, kr.drewN _⟩
          case measure => simp [intOf]; omega
        · have e2 : decide (x1v < y1v) = false := decide_eq_false c1
          by_cases c2 : x1v = y1v
          · have e3 : (x1v == y1v) = true := by simpa using c2
            by_cases c3 : x2v < y2v
            · have e4 : decide (x2v < y2v) = true := decide_eq_true c3
              have HD2 : Hid (firstR l = firstFrom l (k + 1) (k : Int) (l.drop (k + 1)) ∧ -1 ≤ (k : Int) ∧ (k : Int) < (k + 1 : Nat)) := hid ⟨by rw [hT.out, if_pos (by simp [ltC, c2, c3])], hkk, hkk2⟩
              clear hT
              replace c1 := hid c1
              replace c2 := hid c2
              replace c3 := hid c3
              go_upto_region 5 with (fail)
              go_quiet (fail)
              go_wp2_with fail
              go_roundw
              case rel => exact ⟨(k : Int), k + 1, by omega, rfl, by go_num, HD2, kr.drewN _⟩
              case measure => simp [intOf]; omega
            · have e4 : decide (x2v < y2v) = false := decide_eq_false c3
              have HD2 : Hid (firstR l = firstFrom l (k + 1) (j : Int) (l.drop (k + 1)) ∧ -1 ≤ (j : Int) ∧ (j : Int) < (k + 1 : Nat)) := hid ⟨by rw [hT.out, if_neg (by simp [ltC, c2, c3])], hj0, hjk2⟩
              clear hT
              replace c1 := hid c1
              replace c2 := hid c2
              replace c3 := hid c3
              go_upto_region 5 with (fail)
              go_quiet (fail)
              go_wp2_with fail
              go_roundw
              case rel => exact ⟨(j : Int), k + 1, by omega, rfl, by go_num, HD2, kr.drewN _⟩
              case measure => simp [intOf]; omega
          · have e3 : (x1v == y1v) = false := by simpa using c2
            have HD2 : Hid (firstR l = firstFrom l (k + 1) (j : Int) (l.drop (k + 1)) ∧ -1 ≤ (j : Int) ∧ (j : Int) < (k + 1 : Nat)) := hid ⟨by rw [hT.out, if_neg (by simp [ltC, c1, c2])], hj0, hjk2⟩
            clear hT
            replace c1 := hid c1
            replace c2 := hid c2
            go_upto_region 5 with (fail)
            go_quiet (fail)
            go_wp2_with fail
            go_roundw
            case rel => exact ⟨(j : Int), k + 1, by omega, rfl, by go_num, HD2, kr.drewN _⟩
            case measure => simp [intOf]; omega
    · have hlk : ¬ (k : Int) < (l.length : Int) := by omega
      have HF : Hid (R = best) := hid (by
        rw [HR.out, HD.out.1, List.drop_of_length_le (by omega)]
        rfl)
      go_wp2
      go_ret
      exact ⟨by rw [HF.out]; rfl, kr⟩
end Go.Proofs.Ytmokpnkpfodppaa
