
/-
Priorities and needs in memory; comparisons of priorities: the walks.
-/
import Derived.Test.YtbcekihjcgnhkaaMapA
import Derived.Test.YtbcekihjcgnhkaaBkP
import Derived.Deep.Cut
import Derived.Sort.Grow
namespace Go.Proofs.Ytbcekihjcgnhkaa
set_option linter.unusedSimpArgs false
set_option linter.unusedVariables false
open Go.RowKit

theorem guard_get {T : Array Value} {i : Nat} {b : Bool} (h : T[i]?.getD undef = .bool b) : T[i]? = some (.bool b) := by
  cases hT : T[i]? with
  | none => rw [hT] at h; cases h
  | some v => rw [hT] at h; exact congrArg some h
theorem ret_int {a b : Int} (h : a = b) : Ending.returned (.int .i64 a) = .returned (.int .i64 b) := by rw [h]
theorem ret_bool {a b : Bool} (h : a = b) : Ending.returned (.bool a) = .returned (.bool b) := by rw [h]
/-! new blocks and draws alone -/
structure KpD (w w' : World) : Prop where
  kp : Kp w w'
  dr : w.drawn ≤ w'.drawn
theorem KpD.refl (w : World) : KpD w w := ⟨Kp.refl w, Nat.le_refl _⟩
theorem KpD.trans {a b c : World} (h : KpD a b) (k : KpD b c) : KpD a c := ⟨h.kp.trans k.kp, Nat.le_trans h.dr k.dr⟩
theorem KpD.drew {a w : World} (h : KpD a w) : KpD a w.drew := ⟨h.kp.drew, Nat.le_trans h.dr (Nat.le_succ _)⟩
theorem KpD.drewN {a w : World} (h : KpD a w) (n : Nat) : KpD a (w.drewN n) := ⟨h.kp.drewN n, Nat.le_trans h.dr (Nat.le_add_right _ _)⟩
theorem KpD.alloc {a w : World} (h : KpD a w) (o : Obj) : KpD a (w.alloc o) := ⟨h.kp.alloc o, h.dr⟩
theorem KpD.cellS {w w' : World} (h : KpD w w') {p : Addr} {v : Value} (hp : w.cell? p = some v) : w'.cell? p = some v := h.kp.cellS hp
theorem KpD.ex {w w' : World} (h : KpD w w') : ∃ q os, w' = Go.Sort.grow (w.drewN q) os := by
  refine ⟨w'.drawn - w.drawn, w'.heap.extract w.heap.size w'.heap.size, ?_⟩
  have h1 := h.kp.os
  have h2 := h.kp.tape
  have h3 := h.kp.output
  have h4 := h.kp.size
  have h5 : w'.heap = w.heap ++ w'.heap.extract w.heap.size w'.heap.size := by
    apply Array.ext_getElem?
    intro i
    by_cases hi : i < w.heap.size
    · rw [Array.getElem?_append_left hi]
      exact h.kp.block hi
    · rw [Array.getElem?_append_right (by omega), Array.getElem?_extract]
      by_cases h6 : i < w'.heap.size
      · rw [if_pos (by omega)]
        congr 1
        omega
      · rw [if_neg (by omega), Array.getElem?_eq_none (by omega)]
  have h6 := h.dr
  obtain ⟨a1, a2, a3, a4, a5⟩ := w'
  obtain ⟨b1, b2, b3, b4, b5⟩ := w
  simp only at h1 h2 h3 h5 h6
  subst h1 h2 h3
  simp only [Go.Sort.grow, World.drewN]
  rw [← h5]
  congr 1
  omega
/-! comparisons of integers -/
theorem isNaN_at (x : Int) (w : World) : Calls Try.prog 54 #[.int .i64 x] w fun e w' => e = .returned (.bool false) ∧ w' = w := by
  go_enter Try.func54, Try.ntmps54
  go_wp2
  go_ret
  exact ⟨by simp, rfl⟩
def cmpI (x y : Int) : Int := if x < y then -1 else if y < x then 1 else 0
set_option maxHeartbeats 400000 in
theorem cmpCompare_at (x y : Int) (w : World) : Calls Try.prog 41 #[.int .i64 x, .int .i64 y] w fun e w' => e = .returned (.int .i64 (cmpI x y)) ∧ w' = w := by
  go_enter Try.func41, Try.ntmps41
  go_wp2_with fail
  refine (isNaN_at x w).mono ?_
  rintro e w1 ⟨rfl, rfl⟩
  go_wp2_with fail
  refine (isNaN_at y w1).mono ?_
  rintro e w2 ⟨rfl, rfl⟩
  by_cases h1 : x < y
  · have HF : Hid (cmpI x y = -1) := hid (by unfold cmpI; rw [if_pos h1])
    go_wp2
    go_ret
    exact ⟨ret_int HF.out.symm, rfl⟩
  · by_cases h2 : y < x
    · have HF : Hid (cmpI x y = 1) := hid (by unfold cmpI; rw [if_neg h1, if_pos h2])
      go_wp2
      go_ret
      exact ⟨ret_int HF.out.symm, rfl⟩
    · have HF : Hid (cmpI x y = 0) := hid (by unfold cmpI; rw [if_neg h1, if_neg h2])
      go_wp2
      go_ret
      exact ⟨ret_int HF.out.symm, rfl⟩
/-- the first that is not zero -/
def orL : List Int → Int
  | [] => 0
  | x :: l => if x ≠ 0 then x else orL l
set_option maxHeartbeats 800000 in
theorem cmpOr_at (va : Value) (xs : List Int) (w : World) (ha : Ints w va xs) : Calls Try.prog 40 #[va] w fun e w' => e = .returned (.int .i64 (orL xs)) ∧ w' = w := by
  obtain ⟨A, c, rfl, hc, hm⟩ := ha.form
  go_enter Try.func40, Try.ntmps40
  go_wp2
  go_loopw [8] (fun i wr => ∃ k : Nat, k ≤ xs.length ∧ i = .int .i64 k ∧ Hid (orL xs = orL (xs.drop k)) ∧ wr = w) (fun i _ => xs.length - (intOf i).toNat)
  case atStart => exact ⟨0, Nat.zero_le _, rfl, hid rfl, rfl⟩
  case round =>
    obtain ⟨k, hk, rfl, HB, rfl⟩ := hrel
    by_cases hlt : k < xs.length
    · obtain ⟨g, o, rfl, hg, y1⟩ := ha.ints hlt
      have HD := hid (List.drop_eq_getElem_cons hlt)
      clear ha
      generalize xs[k] = x at *
      by_cases hz : x = 0
      · subst hz
        have HF : Hid (orL xs = orL (xs.drop (k + 1))) := hid (by rw [HB.out, HD.out, orL, if_neg (by simp)])
        go_wp2
        go_roundw
        case rel => exact ⟨k + 1, by omega, by go_num, HF, trivial⟩
        case measure => simp [intOf]; omega
      · have HF : Hid (orL xs = x) := hid (by rw [HB.out, HD.out, orL, if_pos hz])
        have e1 : (x != 0) = true := by simpa using hz
        have e2 : (x == 0) = false := by simpa using hz
        clear hz
        go_wp2
        go_ret
        exact ⟨ret_int HF.out.symm, rfl⟩
    · have HF : Hid (orL xs = 0) := hid (by rw [HB.out, List.drop_of_length_le (by omega)]; rfl)
      go_wp2
      go_ret
      exact ⟨ret_int HF.out.symm, rfl⟩
/-! priorities -/
def prL (p : Pr) : List Value := [.int .i64 p.1, .int .i64 p.2.1, .int .i64 p.2.2.1, .int .i64 p.2.2.2]
abbrev prV (p : Pr) : Value := .agg #[.int .i64 p.1, .int .i64 p.2.1, .int .i64 p.2.2.1, .int .i64 p.2.2.2]
def plP (x : Int) : Int × Int := if x = 0 then (1, 0) else (0, x)
theorem bLess1_at (p1 p2 p3 p4 : Int) (w : World) : Calls Try.prog 39 #[prV (p1, p2, p3, p4)] w fun e w' => e = .returned (.tuple #[.int .i64 (plP p1).1, .int .i64 (plP p1).2]) ∧ KpD w w' := by
  by_cases h : p1 = 0
  · subst h
    go_enter Try.func39, Try.ntmps39
    go_wp2
    go_ret2
    exact ⟨rfl, (KpD.refl w).alloc _⟩
  · have HF : Hid (plP p1 = (0, p1)) := hid (by unfold plP; rw [if_neg h])
    have e1 : (p1 == 0) = false := by simpa using h
    clear h
    go_enter Try.func39, Try.ntmps39
    go_wp2
    go_quiet (fail)
    go_wp2
    go_ret2
    exact ⟨by rw [HF.out]; rfl, ((KpD.refl w).alloc _).drewN _⟩
def cmpP (a1 a2 a3 a4 b1 b2 b3 b4 : Int) : List Int := [cmpI (plP a1).1 (plP b1).1, cmpI (plP a1).2 (plP b1).2, cmpI a2 b2, cmpI a3 b3, cmpI a4 b4]
theorem cmpI_lt (x y : Int) : (cmpI x y < 0 ↔ x < y) ∧ (cmpI x y = 0 ↔ x = y) := by
  unfold cmpI
  split
  · omega
  · split <;> omega
theorem cmpP_lt (a1 a2 a3 a4 b1 b2 b3 b4 : Int) : decide (orL (cmpP a1 a2 a3 a4 b1 b2 b3 b4) < 0) = lessB (a1, a2, a3, a4) (b1, b2, b3, b4) := by
  unfold lessB
  congr 1
  apply propext
  unfold cmpP lessP
  obtain ⟨h1, h1'⟩ := cmpI_lt (plP a1).1 (plP b1).1
  obtain ⟨h2, h2'⟩ := cmpI_lt (plP a1).2 (plP b1).2
  obtain ⟨h3, h3'⟩ := cmpI_lt a2 b2
  obtain ⟨h4, h4'⟩ := cmpI_lt a3 b3
  obtain ⟨h5, h5'⟩ := cmpI_lt a4 b4
  have ha : (a1 = 0 ∧ (plP a1).1 = 1 ∧ (plP a1).2 = 0) ∨ (a1 ≠ 0 ∧ (plP a1).1 = 0 ∧ (plP a1).2 = a1) := by
    unfold plP
    by_cases h : a1 = 0
    · simp [h]
    · simp [h]
  have hb : (b1 = 0 ∧ (plP b1).1 = 1 ∧ (plP b1).2 = 0) ∨ (b1 ≠ 0 ∧ (plP b1).1 = 0 ∧ (plP b1).2 = b1) := by
    unfold plP
    by_cases h : b1 = 0
    · simp [h]
    · simp [h]
  generalize cmpI (plP a1).1 (plP b1).1 = c1 at *
  generalize cmpI (plP a1).2 (plP b1).2 = c2 at *
  generalize cmpI a2 b2 = c3 at *
  generalize cmpI a3 b3 = c4 at *
  generalize cmpI a4 b4 = c5 at *
  generalize (plP a1).1 = x1 at *
  generalize (plP a1).2 = x2 at *
  generalize (plP b1).1 = y1 at *
  generalize (plP b1).2 = y2 at *
  dsimp only
  simp only [orL]
  by_cases e1 : c1 = 0
  · by_cases e2 : c2 = 0
    · by_cases e3 : c3 = 0
      · by_cases e4 : c4 = 0
        · by_cases e5 : c5 = 0
          · simp [e1, e2, e3, e4, e5]; omega
          · simp [e1, e2, e3, e4, e5]; omega
        · simp [e1, e2, e3, e4]; omega
      · simp [e1, e2, e3]; omega
    · simp [e1, e2]; omega
  · simp [e1]; omega
set_option maxRecDepth 8000 in
set_option maxHeartbeats 4000000 in
theorem bLess_at (a b : Pr) (w : World) : Calls Try.prog 9 #[prV a, prV b] w fun e w' => e = .returned (.bool (lessB a b)) ∧ KpD w w' := by
  obtain ⟨a1, a2, a3, a4⟩ := a
  obtain ⟨b1, b2, b3, b4⟩ := b
  have HF := hid (cmpP_lt a1 a2 a3 a4 b1 b2 b3 b4)
  generalize lessB (a1, a2, a3, a4) (b1, b2, b3, b4) = r at *
  have k0 := ((KpD.refl w).alloc (.cells #[.int .i64 a1, .int .i64 a2, .int .i64 a3, .int .i64 a4] 23)).alloc (.cells #[.int .i64 b1, .int .i64 b2, .int .i64 b3, .int .i64 b4] 23)
  have B1 := (Bx.new w #[.int .i64 a1, .int .i64 a2, .int .i64 a3, .int .i64 a4] 23)
  have B2 := (Bx.new (w.alloc (.cells #[.int .i64 a1, .int .i64 a2, .int .i64 a3, .int .i64 a4] 23)) #[.int .i64 b1, .int .i64 b2, .int .i64 b3, .int .i64 b4] 23)
  replace B1 := B1.keep (heap_alloc_old _ (.cells #[.int .i64 b1, .int .i64 b2, .int .i64 b3, .int .i64 b4] 23) (B1.lt (by simp)))
  rw [World.size_alloc] at B2
  go_enter Try.func9, Try.ntmps9
  go_wp2_with fail
  generalize ((w.alloc (.cells #[.int .i64 a1, .int .i64 a2, .int .i64 a3, .int .i64 a4] 23)).alloc (.cells #[.int .i64 b1, .int .i64 b2, .int .i64 b3, .int .i64 b4] 23)) = w0 at *
  generalize w.heap.size = b0 at *
  refine (bLess1_at a1 a2 a3 a4 w0).mono ?_
  rintro e w1 ⟨rfl, k1⟩
  replace B1 := B1.keep (k1.kp.block (B1.lt (by simp)))
  replace B2 := B2.keep (k1.kp.block (B2.lt (by simp)))
  replace k1 := k0.trans k1
  have c4 := B2.cell (j := 0) rfl
  have c5 := B2.cell (j := 1) rfl
  have c6 := B2.cell (j := 2) rfl
  have c7 := B2.cell (j := 3) rfl
  go_wp2_with fail
  refine (bLess1_at b1 b2 b3 b4 w1).mono ?_
  rintro e w2 ⟨rfl, k2⟩
  replace B1 := B1.keep (k2.kp.block (B1.lt (by simp)))
  replace B2 := B2.keep (k2.kp.block (B2.lt (by simp)))
  replace k2 := k1.trans k2
  clear c4 c5 c6 c7 k0 k1
  have c0 := B1.cell (j := 0) rfl
  have c1 := B1.cell (j := 1) rfl
  have c2 := B1.cell (j := 2) rfl
  have c3 := B1.cell (j := 3) rfl
  have c4 := B2.cell (j := 0) rfl
  have c5 := B2.cell (j := 1) rfl
  have c6 := B2.cell (j := 2) rfl
  have c7 := B2.cell (j := 3) rfl
  have HC : Hid (cmpP a1 a2 a3 a4 b1 b2 b3 b4 = [cmpI (plP a1).1 (plP b1).1, cmpI (plP a1).2 (plP b1).2, cmpI a2 b2, cmpI a3 b3, cmpI a4 b4]) := hid rfl
  generalize (plP a1).1 = x1 at *
  generalize (plP a1).2 = x2 at *
  generalize (plP b1).1 = y1 at *
  generalize (plP b1).2 = y2 at *
  go_upto_region 4 with (fail)
  refine G2.wp_region_growT KpD [] 24 46 (G2.pvL [G2.eqv (.int .i64 x1), G2.eqv (.int .i64 y1), G2.eqv (.int .i64 (cmpI x1 y1)), G2.eqv (.int .i64 x2), G2.eqv (.int .i64 y2), G2.eqv (.int .i64 (cmpI x2 y2)), G2.eqv (.pointer (some ⟨b0, 1, none⟩)), G2.eqv (.int .i64 a2), G2.eqv (.pointer (some ⟨b0 + 1, 1, none⟩)), G2.eqv (.int .i64 b2), G2.eqv (.int .i64 (cmpI a2 b2)), G2.eqv (.pointer (some ⟨b0, 2, none⟩)), G2.eqv (.int .i64 a3), G2.eqv (.pointer (some ⟨b0 + 1, 2, none⟩)), G2.eqv (.int .i64 b3), G2.eqv (.int .i64 (cmpI a3 b3)), G2.eqv (.pointer (some ⟨b0, 3, none⟩)), G2.eqv (.int .i64 a4), G2.eqv (.pointer (some ⟨b0 + 1, 3, none⟩)), G2.eqv (.int .i64 b4), G2.eqv (.int .i64 (cmpI a4 b4)), (G2.newSl encInt 1 [cmpI x1 y1, cmpI x2 y2, cmpI a2 b2, cmpI a3 b3, cmpI a4 b4]), G2.eqv (.int .i64 (orL [cmpI x1 y1, cmpI x2 y2, cmpI a2 b2, cmpI a3 b3, cmpI a4 b4])), G2.eqv (.bool r)]) (by kernel_rfl) (by kernel_rfl) rfl (fun x => KpD.refl x) (fun _ _ _ h k => h.trans k) (KpD.refl _).drew (fun _ _ _ _ _ h => h) (fun j v w1 w2 h k => G2.pvL_keep (G2.stabL_cons (G2.stab_eq _) (G2.stabL_cons (G2.stab_eq _) (G2.stabL_cons (G2.stab_eq _) (G2.stabL_cons (G2.stab_eq _) (G2.stabL_cons (G2.stab_eq _) (G2.stabL_cons (G2.stab_eq _) (G2.stabL_cons (G2.stab_eq _) (G2.stabL_cons (G2.stab_eq _) (G2.stabL_cons (G2.stab_eq _) (G2.stabL_cons (G2.stab_eq _) (G2.stabL_cons (G2.stab_eq _) (G2.stabL_cons (G2.stab_eq _) (G2.stabL_cons (G2.stab_eq _) (G2.stabL_cons (G2.stab_eq _) (G2.stabL_cons (G2.stab_eq _) (G2.stabL_cons (G2.stab_eq _) (G2.stabL_cons (G2.stab_eq _) (G2.stabL_cons (G2.stab_eq _) (G2.stabL_cons (G2.stab_eq _) (G2.stabL_cons (G2.stab_eq _) (G2.stabL_cons (G2.stab_eq _) (G2.stabL_cons (G2.stab_newSl _ _ _) (G2.stabL_cons (G2.stab_eq _) (G2.stabL_cons (G2.stab_eq _) (G2.stabL_nil))))))))))))))))))))))))) j v w1 w2 h k.kp) (G2.stepsT_cons 0 ?_ (G2.stepsT_cons 1 ?_ (G2.stepsT_cons 2 ?_ (G2.stepsT_cons 3 ?_ (G2.stepsT_cons 4 ?_ (G2.stepsT_cons 5 ?_ (G2.stepsT_cons 6 ?_ (G2.stepsT_cons 7 ?_ (G2.stepsT_cons 8 ?_ (G2.stepsT_cons 9 ?_ (G2.stepsT_cons 10 ?_ (G2.stepsT_cons 11 ?_ (G2.stepsT_cons 12 ?_ (G2.stepsT_cons 13 ?_ (G2.stepsT_cons 14 ?_ (G2.stepsT_cons 15 ?_ (G2.stepsT_cons 16 ?_ (G2.stepsT_cons 17 ?_ (G2.stepsT_cons 18 ?_ (G2.stepsT_cons 19 ?_ (G2.stepsT_cons 20 ?_ (G2.stepsT_cons 21 ?_ (G2.stepsT_cons 22 ?_ (G2.stepsT_cons 23 ?_ (G2.stepsT_nil _ _ _))))))))))))))))))))))))) ?_ ?_
  · intro a w' hk hF hD K hK
    have h6 : a.tmps[6]?.getD undef = .int .i64 x1 := hF 6 (by kernel_rfl)
    clear hF hD
    go_simp
    exact hK.out _ _ (KpD.refl _) rfl
  · intro a w' hk hF hD K hK
    have h8 : a.tmps[8]?.getD undef = .int .i64 y1 := hF 8 (by kernel_rfl)
    clear hF hD
    go_simp
    exact hK.out _ _ (KpD.refl _) rfl
  · intro a w' hk hF hD K hK
    have h22 : a.tmps[22]?.getD undef = .int .i64 x1 := hD 0 (by kernel_rfl)
    have h23 : a.tmps[23]?.getD undef = .int .i64 y1 := hD 1 (by kernel_rfl)
    clear hF hD
    go_simp
    refine (cmpCompare_at x1 y1 _).mono ?_
    rintro e w9 ⟨rfl, rfl⟩
    exact hK.out _ _ (KpD.refl _) rfl
  · intro a w' hk hF hD K hK
    have h7 : a.tmps[7]?.getD undef = .int .i64 x2 := hF 7 (by kernel_rfl)
    clear hF hD
    go_simp
    exact hK.out _ _ (KpD.refl _) rfl
  · intro a w' hk hF hD K hK
    have h9 : a.tmps[9]?.getD undef = .int .i64 y2 := hF 9 (by kernel_rfl)
    clear hF hD
    go_simp
    exact hK.out _ _ (KpD.refl _) rfl
  · intro a w' hk hF hD K hK
    have h25 : a.tmps[25]?.getD undef = .int .i64 x2 := hD 3 (by kernel_rfl)
    have h26 : a.tmps[26]?.getD undef = .int .i64 y2 := hD 4 (by kernel_rfl)
    clear hF hD
    go_simp
    refine (cmpCompare_at x2 y2 _).mono ?_
    rintro e w9 ⟨rfl, rfl⟩
    exact hK.out _ _ (KpD.refl _) rfl
  · intro a w' hk hF hD K hK
    have h2 : a.tmps[2]?.getD undef = .pointer (some ⟨b0, 0, none⟩) := hF 2 (by kernel_rfl)
    clear hF hD
    go_simp
    exact hK.out _ _ (KpD.refl _) rfl
  · intro a w' hk hF hD K hK
    have h28 : a.tmps[28]?.getD undef = .pointer (some ⟨b0, 1, none⟩) := hD 6 (by kernel_rfl)
    clear hF hD
    have z1 := hk.cellS c1
    go_simp
    exact hK.out _ _ (KpD.refl _) rfl
  · intro a w' hk hF hD K hK
    have h3 : a.tmps[3]?.getD undef = .pointer (some ⟨b0 + 1, 0, none⟩) := hF 3 (by kernel_rfl)
    clear hF hD
    go_simp
    exact hK.out _ _ (KpD.refl _) rfl
  · intro a w' hk hF hD K hK
    have h30 : a.tmps[30]?.getD undef = .pointer (some ⟨b0 + 1, 1, none⟩) := hD 8 (by kernel_rfl)
    clear hF hD
    have z1 := hk.cellS c5
    go_simp
    exact hK.out _ _ (KpD.refl _) rfl
  · intro a w' hk hF hD K hK
    have h29 : a.tmps[29]?.getD undef = .int .i64 a2 := hD 7 (by kernel_rfl)
    have h31 : a.tmps[31]?.getD undef = .int .i64 b2 := hD 9 (by kernel_rfl)
    clear hF hD
    go_simp
    refine (cmpCompare_at a2 b2 _).mono ?_
    rintro e w9 ⟨rfl, rfl⟩
    exact hK.out _ _ (KpD.refl _) rfl
  · intro a w' hk hF hD K hK
    have h2 : a.tmps[2]?.getD undef = .pointer (some ⟨b0, 0, none⟩) := hF 2 (by kernel_rfl)
    clear hF hD
    go_simp
    exact hK.out _ _ (KpD.refl _) rfl
  · intro a w' hk hF hD K hK
    have h33 : a.tmps[33]?.getD undef = .pointer (some ⟨b0, 2, none⟩) := hD 11 (by kernel_rfl)
    clear hF hD
    have z1 := hk.cellS c2
    go_simp
    exact hK.out _ _ (KpD.refl _) rfl
  · intro a w' hk hF hD K hK
    have h3 : a.tmps[3]?.getD undef = .pointer (some ⟨b0 + 1, 0, none⟩) := hF 3 (by kernel_rfl)
    clear hF hD
    go_simp
    exact hK.out _ _ (KpD.refl _) rfl
  · intro a w' hk hF hD K hK
    have h35 : a.tmps[35]?.getD undef = .pointer (some ⟨b0 + 1, 2, none⟩) := hD 13 (by kernel_rfl)
    clear hF hD
    have z1 := hk.cellS c6
    go_simp
    exact hK.out _ _ (KpD.refl _) rfl
  · intro a w' hk hF hD K hK
    have h34 : a.tmps[34]?.getD undef = .int .i64 a3 := hD 12 (by kernel_rfl)
    have h36 : a.tmps[36]?.getD undef = .int .i64 b3 := hD 14 (by kernel_rfl)
    clear hF hD
    go_simp
    refine (cmpCompare_at a3 b3 _).mono ?_
    rintro e w9 ⟨rfl, rfl⟩
    exact hK.out _ _ (KpD.refl _) rfl
  · intro a w' hk hF hD K hK
    have h2 : a.tmps[2]?.getD undef = .pointer (some ⟨b0, 0, none⟩) := hF 2 (by kernel_rfl)
    clear hF hD
    go_simp
    exact hK.out _ _ (KpD.refl _) rfl
  · intro a w' hk hF hD K hK
    have h38 : a.tmps[38]?.getD undef = .pointer (some ⟨b0, 3, none⟩) := hD 16 (by kernel_rfl)
    clear hF hD
    have z1 := hk.cellS c3
    go_simp
    exact hK.out _ _ (KpD.refl _) rfl
  · intro a w' hk hF hD K hK
    have h3 : a.tmps[3]?.getD undef = .pointer (some ⟨b0 + 1, 0, none⟩) := hF 3 (by kernel_rfl)
    clear hF hD
    go_simp
    exact hK.out _ _ (KpD.refl _) rfl
  · intro a w' hk hF hD K hK
    have h40 : a.tmps[40]?.getD undef = .pointer (some ⟨b0 + 1, 3, none⟩) := hD 18 (by kernel_rfl)
    clear hF hD
    have z1 := hk.cellS c7
    go_simp
    exact hK.out _ _ (KpD.refl _) rfl
  · intro a w' hk hF hD K hK
    have h39 : a.tmps[39]?.getD undef = .int .i64 a4 := hD 17 (by kernel_rfl)
    have h41 : a.tmps[41]?.getD undef = .int .i64 b4 := hD 19 (by kernel_rfl)
    clear hF hD
    go_simp
    refine (cmpCompare_at a4 b4 _).mono ?_
    rintro e w9 ⟨rfl, rfl⟩
    exact hK.out _ _ (KpD.refl _) rfl
  · intro a w' hk hF hD K hK
    have h24 : a.tmps[24]?.getD undef = .int .i64 (cmpI x1 y1) := hD 2 (by kernel_rfl)
    have h27 : a.tmps[27]?.getD undef = .int .i64 (cmpI x2 y2) := hD 5 (by kernel_rfl)
    have h32 : a.tmps[32]?.getD undef = .int .i64 (cmpI a2 b2) := hD 10 (by kernel_rfl)
    have h37 : a.tmps[37]?.getD undef = .int .i64 (cmpI a3 b3) := hD 15 (by kernel_rfl)
    have h42 : a.tmps[42]?.getD undef = .int .i64 (cmpI a4 b4) := hD 20 (by kernel_rfl)
    clear hF hD
    go_simp
    exact hK.out _ _ ((KpD.refl w').alloc (.cells #[.int .i64 (cmpI x1 y1), .int .i64 (cmpI x2 y2), .int .i64 (cmpI a2 b2), .int .i64 (cmpI a3 b3), .int .i64 (cmpI a4 b4)] 3)) (G2.newSl_lit (enc := encInt) (size := 1) (l := [cmpI x1 y1, cmpI x2 y2, cmpI a2 b2, cmpI a3 b3, cmpI a4 b4]) w' #[.int .i64 (cmpI x1 y1), .int .i64 (cmpI x2 y2), .int .i64 (cmpI a2 b2), .int .i64 (cmpI a3 b3), .int .i64 (cmpI a4 b4)] 3 rfl rfl)
  · intro a w' hk hF hD K hK
    have h43 : (G2.newSl encInt 1 [cmpI x1 y1, cmpI x2 y2, cmpI a2 b2, cmpI a3 b3, cmpI a4 b4]) (a.tmps[43]?.getD undef) w' := hD 21 (by kernel_rfl)
    clear hF hD
    obtain ⟨p, h43', hp⟩ := h43
    go_simp
    refine (cmpOr_at _ _ _ hp).mono ?_
    rintro e w9 ⟨rfl, rfl⟩
    exact hK.out _ _ (KpD.refl _) rfl
  · intro a w' hk hF hD K hK
    have h44 : a.tmps[44]?.getD undef = .int .i64 (orL [cmpI x1 y1, cmpI x2 y2, cmpI a2 b2, cmpI a3 b3, cmpI a4 b4]) := hD 22 (by kernel_rfl)
    clear hF hD
    go_simp
    rw [← HC.out, HF.out]
    exact hK.out _ _ (KpD.refl _) rfl
  · exact fun i0 hi0 => by simp at hi0
  intro v w9 k9 hv
  have v23 : v 23 = .bool r := hv 23 (by omega)
  clear hv
  simp only [G2.growPut, G2.gSlot, List.getElem?_toArray, List.getElem?_cons_zero, List.getElem?_cons_succ, Option.bind_some, List.setIfInBounds_toArray, List.set_cons_zero, List.set_cons_succ, List.drop_succ_cons, List.drop_zero, v23]
  go_wp2
  go_ret
  exact ⟨rfl, k2.trans k9⟩
theorem bBetween_at (n lo hi : Int) (w : World) : Calls Try.prog 43 #[.int .i64 n, .int .i64 lo, .int .i64 hi] w fun e w' => e = .returned (.bool (btw n lo hi)) ∧ w' = w := by
  have HF : Hid (btw n lo hi = (decide (lo ≤ n) && decide (n ≤ hi))) := hid rfl
  generalize btw n lo hi = r at *
  by_cases h1 : lo ≤ n
  · have e1 : decide (lo ≤ n) = true := decide_eq_true h1
    by_cases h2 : n ≤ hi
    · have e2 : decide (n ≤ hi) = true := decide_eq_true h2
      have HR : Hid (r = true) := hid (by rw [HF.out, e1, e2]; rfl)
      go_enter Try.func43, Try.ntmps43
      go_wp2
      go_ret
      exact ⟨ret_bool HR.out.symm, rfl⟩
    · have e2 : decide (n ≤ hi) = false := decide_eq_false h2
      have HR : Hid (r = false) := hid (by rw [HF.out, e1, e2]; rfl)
      go_enter Try.func43, Try.ntmps43
      go_wp2
      go_ret
      exact ⟨ret_bool HR.out.symm, rfl⟩
  · have e1 : decide (lo ≤ n) = false := decide_eq_false h1
    have HR : Hid (r = false) := hid (by rw [HF.out, e1]; rfl)
    go_enter Try.func43, Try.ntmps43
    go_wp2
    go_ret
    exact ⟨ret_bool HR.out.symm, rfl⟩
end Go.Proofs.Ytbcekihjcgnhkaa
