
/-
The order of events: the closure that compares: the walk.
-/
import Derived.Test.YtcddllaljgfjbaaEvA
import Derived.Test.YtcddllaljgfjbaaStP
namespace Go.Proofs.Ytcddllaljgfjbaa
set_option linter.unusedSimpArgs false
set_option linter.unusedVariables false
open Go.RowKit

theorem isNaN_at (x : Int) (w : World) : Calls Try.prog 85 #[.int .i64 x] w fun e w' => e = .returned (.bool false) ∧ w' = w := by
  go_enter Try.func85, Try.ntmps85
  go_wp2
  go_ret
  exact ⟨by simp, rfl⟩
def cmpI (x y : Int) : Int := if x < y then -1 else if y < x then 1 else 0
set_option maxHeartbeats 400000 in
theorem cmpCompare_at (x y : Int) (w : World) : Calls Try.prog 68 #[.int .i64 x, .int .i64 y] w fun e w' => e = .returned (.int .i64 (cmpI x y)) ∧ w' = w := by
  go_enter Try.func68, Try.ntmps68
  go_wp2_with fail
  refine (isNaN_at x w).mono ?_
  rintro e w1 ⟨rfl, rfl⟩
  go_wp2_with fail
  refine (isNaN_at y w1).mono ?_
  rintro e w2 ⟨rfl, rfl⟩
  by_cases h1 : x < y
  · have HF : Hid (cmpI x y = -1) := hid (by unfold cmpI; rw [if_pos h1])
    go_wp2
    go_ret
    exact ⟨ret_int HF.out.symm, rfl⟩
  · by_cases h2 : y < x
    · have HF : Hid (cmpI x y = 1) := hid (by unfold cmpI; rw [if_neg h1, if_pos h2])
      go_wp2
      go_ret
      exact ⟨ret_int HF.out.symm, rfl⟩
    · have HF : Hid (cmpI x y = 0) := hid (by unfold cmpI; rw [if_neg h1, if_neg h2])
      go_wp2
      go_ret
      exact ⟨ret_int HF.out.symm, rfl⟩
/-- the first that is not zero -/
def orL : List Int → Int
  | [] => 0
  | x :: l => if x ≠ 0 then x else orL l
set_option maxHeartbeats 800000 in
theorem cmpOr_at (va : Value) (xs : List Int) (w : World) (ha : Ints w va xs) : Calls Try.prog 67 #[va] w fun e w' => e = .returned (.int .i64 (orL xs)) ∧ w' = w := by
  obtain ⟨A, c, rfl, hc, hm⟩ := ha.form
  go_enter Try.func67, Try.ntmps67
  go_wp2
  go_loopw [8] (fun i wr => ∃ k : Nat, k ≤ xs.length ∧ i = .int .i64 k ∧ Hid (orL xs = orL (xs.drop k)) ∧ wr = w) (fun i _ => xs.length - (intOf i).toNat)
  case atStart => exact ⟨0, Nat.zero_le _, rfl, hid rfl, rfl⟩
  case round =>
    obtain ⟨k, hk, rfl, HB, rfl⟩ := hrel
    by_cases hlt : k < xs.length
    · obtain ⟨g, o, rfl, hg, y1⟩ := ha.ints hlt
      have HD := hid (List.drop_eq_getElem_cons hlt)
      clear ha
      generalize xs[k] = x at *
      by_cases hz : x = 0
      · subst hz
        have HF : Hid (orL xs = orL (xs.drop (k + 1))) := hid (by rw [HB.out, HD.out, orL, if_neg (by simp)])
        go_wp2
        go_roundw
        case rel => exact ⟨k + 1, by omega, by go_num, HF, trivial⟩
        case measure => simp [intOf]; omega
      · have HF : Hid (orL xs = x) := hid (by rw [HB.out, HD.out, orL, if_pos hz])
        have e1 : (x != 0) = true := by simpa using hz
        have e2 : (x == 0) = false := by simpa using hz
        clear hz
        go_wp2
        go_ret
        exact ⟨ret_int HF.out.symm, rfl⟩
    · have HF : Hid (orL xs = 0) := hid (by rw [HB.out, List.drop_of_length_le (by omega)]; rfl)
      go_wp2
      go_ret
      exact ⟨ret_int HF.out.symm, rfl⟩
/-- the order of events -/
def ltE (a b : Ev) : Bool := if a.t = b.t then (if a.r = b.r then decide (a.n < b.n) else decide (a.r < b.r)) else decide (a.t < b.t)
def cmpE (a b : Ev) : Int := orL [cmpI a.t b.t, cmpI a.r b.r, cmpI a.n b.n]
theorem cmpI_neg (x y : Int) : cmpI x y < 0 ↔ x < y := by
  unfold cmpI
  split
  · simp; assumption
  · split <;> simp <;> omega
theorem cmpI_zero (x y : Int) : cmpI x y = 0 ↔ x = y := by
  unfold cmpI
  split
  · simp; omega
  · split
    · simp; omega
    · simp; omega
theorem cmpE_neg (a b : Ev) : decide (cmpE a b < 0) = ltE a b := by
  unfold cmpE ltE orL orL orL orL
  by_cases h1 : a.t = b.t
  · rw [if_pos h1, if_neg (by rw [Decidable.not_not, cmpI_zero]; exact h1)]
    by_cases h2 : a.r = b.r
    · rw [if_pos h2, if_neg (by rw [Decidable.not_not, cmpI_zero]; exact h2)]
      by_cases h3 : a.n = b.n
      · rw [if_neg (by rw [Decidable.not_not, cmpI_zero]; exact h3), h3]
        simp
      · rw [if_pos (fun e => h3 ((cmpI_zero _ _).1 e)), Bool.eq_iff_iff, decide_eq_true_iff, decide_eq_true_iff, cmpI_neg]
    · rw [if_neg h2, if_pos (fun e => h2 ((cmpI_zero _ _).1 e)), Bool.eq_iff_iff, decide_eq_true_iff, decide_eq_true_iff, cmpI_neg]
  · rw [if_neg h1, if_pos (fun e => h1 ((cmpI_zero _ _).1 e)), Bool.eq_iff_iff, decide_eq_true_iff, decide_eq_true_iff, cmpI_neg]
theorem ltE_iff (a b : Ev) : ltE a b = true ↔ a.t < b.t ∨ a.t = b.t ∧ (a.r < b.r ∨ a.r = b.r ∧ a.n < b.n) := by
  unfold ltE
  split
  · split
    · rw [decide_eq_true_iff]; omega
    · rw [decide_eq_true_iff]; omega
  · rw [decide_eq_true_iff]; omega
theorem ltE_no (a b : Ev) : ltE a b = false ↔ ¬ (a.t < b.t ∨ a.t = b.t ∧ (a.r < b.r ∨ a.r = b.r ∧ a.n < b.n)) := by
  rw [← ltE_iff, Bool.not_eq_true]
theorem ltE_od : St.Od ltE := ⟨fun x y z h1 h2 => by rw [ltE_no] at h1 h2 ⊢; omega, fun x y h => by rw [ltE_iff] at h; rw [ltE_no]; omega⟩
/-- three integers in a new slice -/
def three (x y z : Int) (v : Value) (w : World) : Prop := ∃ p : Nat, v = .slice (some ⟨p, 0, none⟩) 3 3 ∧ Ints w (.slice (some ⟨p, 0, none⟩) 3 3) [x, y, z]
theorem stab_three (x y z : Int) : G2.Stab (three x y z) := fun _ _ _ ⟨p, e, h⟩ k => ⟨p, e, h.keep (pl_stable _) k⟩
set_option maxRecDepth 8000 in
set_option maxHeartbeats 4000000 in
theorem eOrd1_any (a b : Ev) (va vb : Value) (w : World) : Calls Try.prog 66 #[evV a va, evV b vb] w fun e w' => e = .returned (.int .i64 (cmpE a b)) ∧ Kp w w' := by
  obtain ⟨ra, na, ta, pa, ka, aa, ⟨⟨g1, g2, g3⟩, g4⟩, da, la, sa⟩ := a
  obtain ⟨rb, nb, tb, pb, kb, ab, ⟨⟨h1, h2, h3⟩, h4⟩, db, lb, sb⟩ := b
  dsimp only [evV, evL]
  have HC : Hid (cmpE ⟨ra, na, ta, pa, ka, aa, ((g1, g2, g3), g4), da, la, sa⟩ ⟨rb, nb, tb, pb, kb, ab, ((h1, h2, h3), h4), db, lb, sb⟩ = orL [cmpI ta tb, cmpI ra rb, cmpI na nb]) := hid rfl
  generalize cmpE ⟨ra, na, ta, pa, ka, aa, ((g1, g2, g3), g4), da, la, sa⟩ ⟨rb, nb, tb, pb, kb, ab, ((h1, h2, h3), h4), db, lb, sb⟩ = R at *
  have k1 := (Kp.refl w).alloc (.cells #[.int .i64 ra, .int .i64 na, .int .i64 ta, va, .int .i64 ka, .int .i64 aa, .int .i64 g1, .int .i64 g2, .int .i64 g3, .int .i64 g4, .int .i64 da, .int .i64 la, .int .i64 sa] 33)
  have BA := Bx.new w #[.int .i64 ra, .int .i64 na, .int .i64 ta, va, .int .i64 ka, .int .i64 aa, .int .i64 g1, .int .i64 g2, .int .i64 g3, .int .i64 g4, .int .i64 da, .int .i64 la, .int .i64 sa] 33
  have z1 := World.size_alloc w (.cells #[.int .i64 ra, .int .i64 na, .int .i64 ta, va, .int .i64 ka, .int .i64 aa, .int .i64 g1, .int .i64 g2, .int .i64 g3, .int .i64 g4, .int .i64 da, .int .i64 la, .int .i64 sa] 33)
  go_enter Try.func66, Try.ntmps66
  go_upto_region 1 with (fail)
  generalize w.alloc (.cells #[.int .i64 ra, .int .i64 na, .int .i64 ta, va, .int .i64 ka, .int .i64 aa, .int .i64 g1, .int .i64 g2, .int .i64 g3, .int .i64 g4, .int .i64 da, .int .i64 la, .int .i64 sa] 33) = wa at *
  have k2 := (Kp.refl wa).alloc (.cells #[.int .i64 rb, .int .i64 nb, .int .i64 tb, vb, .int .i64 kb, .int .i64 ab, .int .i64 h1, .int .i64 h2, .int .i64 h3, .int .i64 h4, .int .i64 db, .int .i64 lb, .int .i64 sb] 33)
  have BB := Bx.new wa #[.int .i64 rb, .int .i64 nb, .int .i64 tb, vb, .int .i64 kb, .int .i64 ab, .int .i64 h1, .int .i64 h2, .int .i64 h3, .int .i64 h4, .int .i64 db, .int .i64 lb, .int .i64 sb] 33
  have BA2 := BA.kp k2 (BA.lt (by simp))
  generalize wa.alloc (.cells #[.int .i64 rb, .int .i64 nb, .int .i64 tb, vb, .int .i64 kb, .int .i64 ab, .int .i64 h1, .int .i64 h2, .int .i64 h3, .int .i64 h4, .int .i64 db, .int .i64 lb, .int .i64 sb] 33) = wb at *
  have k02 := k1.trans k2
  obtain ⟨xa, hxa⟩ : ∃ xa, xa = w.heap.size := ⟨_, rfl⟩
  obtain ⟨xb, hxb⟩ : ∃ xb, xb = xa + 1 := ⟨_, rfl⟩
  rw [← hxa] at BA2 z1 ⊢
  rw [← hxb] at z1 ⊢
  rw [z1] at BB
  replace hxa := hid hxa
  replace hxb := hid hxb
  replace z1 := hid z1
  clear BA k1 k2
  have a0 := BA2.cell (j := 0) rfl
  have a1 := BA2.cell (j := 1) rfl
  have a2 := BA2.cell (j := 2) rfl
  have b0 := BB.cell (j := 0) rfl
  have b1 := BB.cell (j := 1) rfl
  have b2 := BB.cell (j := 2) rfl
  have HC1 := hid (cmpCompare_at ta tb)
  have HC2 := hid (cmpCompare_at ra rb)
  have HC3 := hid (cmpCompare_at na nb)
  generalize cmpI ta tb = c1 at *
  generalize cmpI ra rb = c2 at *
  generalize cmpI na nb = c3 at *
  have HO := hid (fun (v : Value) (W : World) (h : Ints W v [c1, c2, c3]) => cmpOr_at v [c1, c2, c3] W h)
  generalize orL [c1, c2, c3] = oR at *
  refine G2.wp_region_growT Kp [] 17 22 (G2.pvL [G2.eqv (.pointer (some ⟨xa, 2, none⟩)), G2.eqv (.int .i64 ta), G2.eqv (.pointer (some ⟨xb, 2, none⟩)), G2.eqv (.int .i64 tb), G2.eqv (.int .i64 c1), G2.eqv (.pointer (some ⟨xa, 0, none⟩)), G2.eqv (.int .i64 ra), G2.eqv (.pointer (some ⟨xb, 0, none⟩)), G2.eqv (.int .i64 rb), G2.eqv (.int .i64 c2), G2.eqv (.pointer (some ⟨xa, 1, none⟩)), G2.eqv (.int .i64 na), G2.eqv (.pointer (some ⟨xb, 1, none⟩)), G2.eqv (.int .i64 nb), G2.eqv (.int .i64 c3), (three c1 c2 c3), G2.eqv (.int .i64 oR)]) (by kernel_rfl) (by kernel_rfl) rfl (fun x => Kp.refl x) (fun _ _ _ h k => h.trans k) (Kp.refl _).drew (by intro _ _ _ _ _ h; exact h) (G2.pvL_keep (G2.stabL_cons (G2.stab_eq _) (G2.stabL_cons (G2.stab_eq _) (G2.stabL_cons (G2.stab_eq _) (G2.stabL_cons (G2.stab_eq _) (G2.stabL_cons (G2.stab_eq _) (G2.stabL_cons (G2.stab_eq _) (G2.stabL_cons (G2.stab_eq _) (G2.stabL_cons (G2.stab_eq _) (G2.stabL_cons (G2.stab_eq _) (G2.stabL_cons (G2.stab_eq _) (G2.stabL_cons (G2.stab_eq _) (G2.stabL_cons (G2.stab_eq _) (G2.stabL_cons (G2.stab_eq _) (G2.stabL_cons (G2.stab_eq _) (G2.stabL_cons (G2.stab_eq _) (G2.stabL_cons (stab_three _ _ _) (G2.stabL_cons (G2.stab_eq _) (G2.stabL_nil))))))))))))))))))) (G2.stepsT_cons 0 ?_ (G2.stepsT_cons 1 ?_ (G2.stepsT_cons 2 ?_ (G2.stepsT_cons 3 ?_ (G2.stepsT_cons 4 ?_ (G2.stepsT_cons 5 ?_ (G2.stepsT_cons 6 ?_ (G2.stepsT_cons 7 ?_ (G2.stepsT_cons 8 ?_ (G2.stepsT_cons 9 ?_ (G2.stepsT_cons 10 ?_ (G2.stepsT_cons 11 ?_ (G2.stepsT_cons 12 ?_ (G2.stepsT_cons 13 ?_ (G2.stepsT_cons 14 ?_ (G2.stepsT_cons 15 ?_ (G2.stepsT_cons 16 ?_ (G2.stepsT_nil _ _ _)))))))))))))))))) ?_ ?_
  · intro a w' hk hF hD K hK
    have h2 : a.tmps[2]?.getD undef = .pointer (some ⟨xa, 0, none⟩) := hF 2 (by kernel_rfl)
    clear hF hD
    go_simp
    exact hK.out _ _ (Kp.refl _) rfl
  · intro a w' hk hF hD K hK
    have h5 : a.tmps[5]?.getD undef = .pointer (some ⟨xa, 2, none⟩) := hD 0 (by kernel_rfl)
    clear hF hD
    have z0 := hk.cellS a2
    go_simp
    exact hK.out _ _ (Kp.refl _) rfl
  · intro a w' hk hF hD K hK
    have h3 : a.tmps[3]?.getD undef = .pointer (some ⟨xb, 0, none⟩) := hF 3 (by kernel_rfl)
    clear hF hD
    go_simp
    exact hK.out _ _ (Kp.refl _) rfl
  · intro a w' hk hF hD K hK
    have h7 : a.tmps[7]?.getD undef = .pointer (some ⟨xb, 2, none⟩) := hD 2 (by kernel_rfl)
    clear hF hD
    have z0 := hk.cellS b2
    go_simp
    exact hK.out _ _ (Kp.refl _) rfl
  · intro a w' hk hF hD K hK
    have h6 : a.tmps[6]?.getD undef = .int .i64 ta := hD 1 (by kernel_rfl)
    have h8 : a.tmps[8]?.getD undef = .int .i64 tb := hD 3 (by kernel_rfl)
    clear hF hD
    go_simp
    refine (HC1.out _).mono ?_
    rintro e w9 ⟨rfl, rfl⟩
    exact hK.out _ _ (Kp.refl _) rfl
  · intro a w' hk hF hD K hK
    have h2 : a.tmps[2]?.getD undef = .pointer (some ⟨xa, 0, none⟩) := hF 2 (by kernel_rfl)
    clear hF hD
    go_simp
    exact hK.out _ _ (Kp.refl _) rfl
  · intro a w' hk hF hD K hK
    have h10 : a.tmps[10]?.getD undef = .pointer (some ⟨xa, 0, none⟩) := hD 5 (by kernel_rfl)
    clear hF hD
    have z0 := hk.cellS a0
    go_simp
    exact hK.out _ _ (Kp.refl _) rfl
  · intro a w' hk hF hD K hK
    have h3 : a.tmps[3]?.getD undef = .pointer (some ⟨xb, 0, none⟩) := hF 3 (by kernel_rfl)
    clear hF hD
    go_simp
    exact hK.out _ _ (Kp.refl _) rfl
  · intro a w' hk hF hD K hK
    have h12 : a.tmps[12]?.getD undef = .pointer (some ⟨xb, 0, none⟩) := hD 7 (by kernel_rfl)
    clear hF hD
    have z0 := hk.cellS b0
    go_simp
    exact hK.out _ _ (Kp.refl _) rfl
  · intro a w' hk hF hD K hK
    have h11 : a.tmps[11]?.getD undef = .int .i64 ra := hD 6 (by kernel_rfl)
    have h13 : a.tmps[13]?.getD undef = .int .i64 rb := hD 8 (by kernel_rfl)
    clear hF hD
    go_simp
    refine (HC2.out _).mono ?_
    rintro e w9 ⟨rfl, rfl⟩
    exact hK.out _ _ (Kp.refl _) rfl
  · intro a w' hk hF hD K hK
    have h2 : a.tmps[2]?.getD undef = .pointer (some ⟨xa, 0, none⟩) := hF 2 (by kernel_rfl)
    clear hF hD
    go_simp
    exact hK.out _ _ (Kp.refl _) rfl
  · intro a w' hk hF hD K hK
    have h15 : a.tmps[15]?.getD undef = .pointer (some ⟨xa, 1, none⟩) := hD 10 (by kernel_rfl)
    clear hF hD
    have z0 := hk.cellS a1
    go_simp
    exact hK.out _ _ (Kp.refl _) rfl
  · intro a w' hk hF hD K hK
    have h3 : a.tmps[3]?.getD undef = .pointer (some ⟨xb, 0, none⟩) := hF 3 (by kernel_rfl)
    clear hF hD
    go_simp
    exact hK.out _ _ (Kp.refl _) rfl
  · intro a w' hk hF hD K hK
    have h17 : a.tmps[17]?.getD undef = .pointer (some ⟨xb, 1, none⟩) := hD 12 (by kernel_rfl)
    clear hF hD
    have z0 := hk.cellS b1
    go_simp
    exact hK.out _ _ (Kp.refl _) rfl
  · intro a w' hk hF hD K hK
    have h16 : a.tmps[16]?.getD undef = .int .i64 na := hD 11 (by kernel_rfl)
    have h18 : a.tmps[18]?.getD undef = .int .i64 nb := hD 13 (by kernel_rfl)
    clear hF hD
    go_simp
    refine (HC3.out _).mono ?_
    rintro e w9 ⟨rfl, rfl⟩
    exact hK.out _ _ (Kp.refl _) rfl
  · intro a w' hk hF hD K hK
    have h9 : a.tmps[9]?.getD undef = .int .i64 c1 := hD 4 (by kernel_rfl)
    have h14 : a.tmps[14]?.getD undef = .int .i64 c2 := hD 9 (by kernel_rfl)
    have h19 : a.tmps[19]?.getD undef = .int .i64 c3 := hD 14 (by kernel_rfl)
    clear hF hD
    go_simp
    exact hK.out _ _ ((Kp.refl _).alloc _) ⟨_, rfl, (Own.lit (base := 0) (e := 3) (size := 1) encInt w' #[.int .i64 c1, .int .i64 c2, .int .i64 c3] [c1, c2, c3] (Nat.zero_le _) (by simp) rfl rfl).sl encInt_len⟩
  · intro a w' hk hF hD K hK
    have h20 : (three c1 c2 c3) (a.tmps[20]?.getD undef) w' := hD 15 (by kernel_rfl)
    clear hF hD
    obtain ⟨p20, e20, h20i⟩ := h20
    go_simp
    refine (HO.out _ _ h20i).mono ?_
    rintro e w9 ⟨rfl, rfl⟩
    exact hK.out _ _ (Kp.refl _) rfl
  · exact fun i0 hi0 => by simp at hi0
  intro v w9 k9 hv
  have v16 : v 16 = .int .i64 oR := hv 16 (by omega)
  clear hv
  simp only [G2.growPut, G2.gSlot, List.getElem?_toArray, List.getElem?_cons_zero, List.getElem?_cons_succ, Option.bind_some, List.setIfInBounds_toArray, List.set_cons_zero, List.set_cons_succ, List.drop_succ_cons, List.drop_zero, v16]
  have kf := k02.trans k9
  clear a0 a1 a2 b0 b1 b2
  go_wp2
  go_ret
  exact ⟨ret_int HC.out.symm, kf⟩
end Go.Proofs.Ytcddllaljgfjbaa
