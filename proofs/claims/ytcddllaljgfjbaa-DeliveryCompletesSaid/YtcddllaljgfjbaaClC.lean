
/-
Join, inside, Compare, Missing of clocks: the walks.
-/
import Derived.Test.YtcddllaljgfjbaaClB
namespace Go.Proofs.Ytcddllaljgfjbaa
set_option linter.unusedSimpArgs false
set_option linter.unusedVariables false
open Go.RowKit

theorem cJoin_any (a b : List Int) (g c : Nat) (w : World) (hS : IsL w (.slice (some ⟨g, 0, none⟩) 2 c) [a, b]) : Calls Try.prog 26 #[.slice (some ⟨g, 0, none⟩) 2 c] w fun e w' => ∃ v, e = .returned v ∧ Own encInt 3 1 w.heap.size w' v (joinC a b) ∧ Kp w w' := by
  go_enter Try.func26, Try.ntmps26
  go_wp2_with fail
  refine (cFold_any a b g c w hS).mono ?_
  rintro e w1 ⟨v, rfl, own, k1⟩
  go_wp2
  go_ret
  exact ⟨_, rfl, own, k1⟩
/-! inside -/
def insideC (a b : List Int) : Bool := (List.range a.length).all fun k => decide (a.getD k 0 ≤ b.getD k 0)
theorem getD_i {l : List Int} {k : Nat} (h : k < l.length) : l.getD k 0 = l[k] := by simp [List.getD_eq_getElem?_getD, h]
theorem insideC_iff {a b : List Int} : insideC a b = true ↔ ∀ k, k < a.length → a.getD k 0 ≤ b.getD k 0 := by
  unfold insideC
  simp only [List.all_eq_true, List.mem_range, decide_eq_true_eq]
set_option maxHeartbeats 1600000 in
theorem cInside_any (a b : List Int) (va vb : Value) (w : World) (ha : Ints w va a) (hb : Ints w vb b) (hl : b.length = a.length) : Calls Try.prog 58 #[va, vb] w fun e w' => e = .returned (.bool (insideC a b)) ∧ Kp w w' := by
  obtain ⟨A, ca, rfl, hca, hma⟩ := ha.form
  obtain ⟨B, cb, rfl, hcb, hmb⟩ := hb.form
  have HL := hid hl
  clear hl
  go_enter Try.func58, Try.ntmps58
  go_wp2
  go_loopw [8] (fun i wr => ∃ k : Nat, k ≤ a.length ∧ i = .int .i64 k ∧ Hid (∀ j, j < k → a.getD j 0 ≤ b.getD j 0) ∧ Kp w wr) (fun i _ => a.length - (intOf i).toNat)
  case atStart => exact ⟨0, Nat.zero_le _, rfl, hid (fun j hj => by omega), Kp.refl _⟩
  case round =>
    obtain ⟨k, hk, rfl, HF, kr⟩ := hrel
    by_cases hlt : k < a.length
    · have hkl : (k : Int) < (a.length : Int) := by omega
      have hkb : k < b.length := by have := HL.out; omega
      have hkbl : (k : Int) < (b.length : Int) := by omega
      obtain ⟨p, o, rfl, hp, i0⟩ := (ha.keep (pl_stable _) kr).ints hlt
      obtain ⟨q, o', rfl, hq, i1⟩ := (hb.keep (pl_stable _) kr).ints hkb
      have ea := getD_i hlt
      have eb := getD_i hkb
      generalize a[k] = x at *
      generalize b[k] = y at *
      by_cases hxy : y < x
      · have e1 : decide (y < x) = true := decide_eq_true hxy
        have HG : Hid (insideC a b = false) := hid (by
          cases h : insideC a b with
          | false => rfl
          | true =>
            have := insideC_iff.1 h k hlt
            omega)
        replace ea := hid ea
        replace eb := hid eb
        go_upto_region 4 with (fail)
        refine wp_region_kw (by kernel_rfl) (by kernel_rfl) ?_
        repeat (go_big_quiet_step ((fail)))
        refine wpQuiet_nil ?_
        intro _ hw'
        obtain ⟨u, hw''⟩ := hw'
        subst hw''
        go_wp2
        go_ret
        exact ⟨ret_bool HG.out.symm, kr.trans (kw_kp wr u)⟩
      · have e1 : decide (y < x) = false := decide_eq_false hxy
        have HF2 : Hid (∀ j, j < k + 1 → a.getD j 0 ≤ b.getD j 0) := hid fun j hj => by
          by_cases e : j = k
          · subst e; omega
          · exact HF.out j (by omega)
        replace ea := hid ea
        replace eb := hid eb
        clear HF
        go_upto_region 4 with (fail)
        refine wp_region_kw (by kernel_rfl) (by kernel_rfl) ?_
        repeat (go_big_quiet_step ((fail)))
        refine wpQuiet_nil ?_
        intro _ hw'
        obtain ⟨u, hw''⟩ := hw'
        subst hw''
        have ku := kr.trans (kw_kp wr u)
        go_wp2_with fail
        go_roundw
        case rel => exact ⟨k + 1, by omega, by go_num, HF2, ku⟩
        case measure => simp [intOf]; omega
    · have hkl : ¬ (k : Int) < (a.length : Int) := by omega
      have HG : Hid (insideC a b = true) := hid (insideC_iff.2 fun j hj => HF.out j (by omega))
      go_wp2
      go_ret
      exact ⟨ret_bool HG.out.symm, kr⟩
/-! Compare: kind, error -/
def cmpC (a b : List Int) : Int × Int := if alike2 a b then (if insideC a b then (if insideC b a then 0 else 1) else (if insideC b a then 2 else 3), 0) else (0, 1)
set_option maxRecDepth 8000 in
set_option maxHeartbeats 1600000 in
theorem cCompare_any (a b : List Int) (va vb : Value) (w : World) (ha : Ints w va a) (hb : Ints w vb b) : Calls Try.prog 27 #[va, vb] w fun e w' => e = .returned (.tuple #[.int .i64 (cmpC a b).1, .int .i64 (cmpC a b).2]) ∧ Kp w w' := by
  obtain ⟨A, ca, rfl, hca, hma⟩ := ha.form
  obtain ⟨B, cb, rfl, hcb, hmb⟩ := hb.form
  have hL := isL2 w ha hb
  have k0 := (Kp.refl w).alloc (.cells #[.slice A a.length ca, .slice B b.length cb] 27)
  generalize hX : cmpC a b = X
  obtain ⟨X1, X2⟩ := X
  have HX := hid hX
  clear hX
  go_enter Try.func27, Try.ntmps27
  go_wp2_with fail
  refine (cAlike_any [a, b] _ _ hL).mono ?_
  rintro e w1 ⟨rfl, k1⟩
  rw [alikeL_two]
  have k01 := k0.trans k1
  cases hal : alike2 a b with
  | false =>
    obtain ⟨rfl, rfl⟩ : X1 = 0 ∧ X2 = 1 := by have := HX.out; unfold cmpC at this; rw [hal] at this; simp at this; omega
    go_wp2
    go_ret2
    exact ⟨rfl, k01⟩
  | true =>
    have hlen := (alike2_iff.1 hal).2.2
    have ha1 := ha.keep (pl_stable _) k01
    have hb1 := hb.keep (pl_stable _) k01
    have HY : Hid ((if insideC a b then (if insideC b a then (0 : Int) else 1) else (if insideC b a then 2 else 3), (0 : Int)) = (X1, X2)) := hid (by have := HX.out; unfold cmpC at this; rw [hal] at this; exact this)
    replace hal := hid hal
    have HL := hid hlen
    clear hlen HX
    go_wp2_with fail
    refine (cInside_any a b _ _ w1 ha1 hb1 HL.out).mono ?_
    rintro e w2 ⟨rfl, k2⟩
    go_wp2_with fail
    refine (cInside_any b a _ _ w2 (hb1.keep (pl_stable _) k2) (ha1.keep (pl_stable _) k2) HL.out.symm).mono ?_
    rintro e w3 ⟨rfl, k3⟩
    have kf := (k01.trans k2).trans k3
    cases h1 : insideC a b with
    | false =>
      cases h2 : insideC b a with
      | false =>
        obtain ⟨rfl, rfl⟩ : X1 = 3 ∧ X2 = 0 := by have := HY.out; rw [h1, h2] at this; simp at this; omega
        go_wp2
        go_ret2
        exact ⟨rfl, kf⟩
      | true =>
        obtain ⟨rfl, rfl⟩ : X1 = 2 ∧ X2 = 0 := by have := HY.out; rw [h1, h2] at this; simp at this; omega
        go_wp2
        go_ret2
        exact ⟨rfl, kf⟩
    | true =>
      cases h2 : insideC b a with
      | false =>
        obtain ⟨rfl, rfl⟩ : X1 = 1 ∧ X2 = 0 := by have := HY.out; rw [h1, h2] at this; simp at this; omega
        go_wp2
        go_ret2
        exact ⟨rfl, kf⟩
      | true =>
        obtain ⟨rfl, rfl⟩ : X1 = 0 ∧ X2 = 0 := by have := HY.out; rw [h1, h2] at this; simp at this; omega
        go_wp2
        go_ret2
        exact ⟨rfl, kf⟩
/-! Missing: whether there is something -/
/-- replica, from, to -/
abbrev Sn := Int × Int × Int
def encSn (s : Sn) : List Value := [.int .i64 s.1, .int .i64 s.2.1, .int .i64 s.2.2]
theorem encSn_len (s : Sn) : (encSn s).length = 3 := rfl
theorem encSn_one (s : Sn) : ∀ u ∈ encSn s, u.oneCell' = true := by simp [encSn, Value.oneCell']
theorem stSn : SliceT Try.prog 39 83 3 24 := SliceT.mk' Try.underlying39 (z := .agg #[.int .i64 0, .int .i64 0, .int .i64 0]) (by kernel_rfl) rfl (by omega)
def missG (a b : List Int) (k : Nat) : List Sn := if a.getD k 0 < b.getD k 0 then [((k : Int), a.getD k 0 + 1, b.getD k 0)] else []
def missT (a b : List Int) (n : Nat) : List Sn := (List.range n).flatMap (missG a b)
def missC (a b : List Int) : List Sn := if alike2 a b then missT a b a.length else []
theorem missT_snoc (a b : List Int) (n : Nat) : missT a b (n + 1) = missT a b n ++ missG a b n := by
  unfold missT
  rw [List.range_succ, List.flatMap_append]
  simp
theorem missT_len (a b : List Int) : ∀ n, (missT a b n).length ≤ n
  | 0 => by simp [missT]
  | n + 1 => by
    rw [missT_snoc, List.length_append]
    have := missT_len a b n
    have h2 : (missG a b n).length ≤ 1 := by unfold missG; split <;> simp
    omega
set_option maxRecDepth 8000 in
set_option maxHeartbeats 4000000 in
theorem cMissing_any (al bl : List Int) (va vb : Value) (w : World) (ha : Ints w va al) (hb : Ints w vb bl) : Calls Try.prog 72 #[va, vb] w fun e w' => ∃ v, e = .returned v ∧ Own encSn 83 3 w.heap.size w' v (missC al bl) ∧ Kp w w' := by
  obtain ⟨A, ca, rfl, hca, hma⟩ := ha.form
  obtain ⟨B, cb, rfl, hcb, hmb⟩ := hb.form
  have hL := isL2 w ha hb
  have k0 := (Kp.refl w).alloc (.cells #[.slice A al.length ca, .slice B bl.length cb] 27)
  go_enter Try.func72, Try.ntmps72
  go_wp2_with fail
  refine (cAlike_any [al, bl] _ _ hL).mono ?_
  rintro e w1 ⟨rfl, k1⟩
  rw [alikeL_two]
  have k01 := k0.trans k1
  clear k0 k1
  cases hal : alike2 al bl with
  | false =>
    have HX : Hid (missC al bl = []) := hid (by unfold missC; rw [hal]; rfl)
    go_wp2
    go_ret
    exact ⟨_, rfl, by rw [HX.out]; exact Own.nil _ _ _ _ _, k01⟩
  | true =>
    obtain ⟨hva, hvb, hlen⟩ := alike2_iff.1 hal
    have HX : Hid (missC al bl = missT al bl al.length) := hid (by unfold missC; rw [hal]; rfl)
    have hal5 := (validC_iff.1 hva).2
    have HVA := hid (validC_iff.1 hva).1
    have HVB := hid (validC_iff.1 hvb).1
    have HL := hid hlen
    have hz01 := k01.size
    clear hva hvb hal hlen
    go_wp2_with fail
    go_loopw [5, 14] (fun vo i wr => ∃ k : Nat, k ≤ al.length ∧ i = .int .i64 (k : Int) ∧ Kp w wr ∧ Own encSn 83 3 w.heap.size wr vo (missT al bl k)) (fun _ i _ => al.length - (intOf i).toNat)
    case atStart => exact ⟨0, Nat.zero_le _, rfl, k01, Own.nil _ _ _ _ _⟩
    case round =>
      obtain ⟨k, hk, rfl, kr, hO⟩ := hrel
      obtain ⟨wo, hwo⟩ : ∃ wo, wo = wr := ⟨_, rfl⟩
      subst hwo
      obtain ⟨Ao, co, rfl, hco, hcm⟩ := hO.form
      have hml := missT_len al bl k
      by_cases hlt : k < al.length
      · have hkl : (k : Int) < (al.length : Int) := by omega
        have hkb : k < bl.length := by have := HL.out; omega
        have hkbl : (k : Int) < (bl.length : Int) := by omega
        obtain ⟨p, o, rfl, hp, i0⟩ := (ha.keep (pl_stable _) kr).ints hlt
        obtain ⟨q, o', rfl, hq, i1⟩ := (hb.keep (pl_stable _) kr).ints hkb
        have HMS := hid (missT_snoc al bl k)
        have HMG : Hid (missG al bl k = if al[k] < bl[k] then [((k : Int), al[k] + 1, bl[k])] else []) := hid (by unfold missG; rw [getD_i hlt, getD_i hkb])
        have hxb := HVA.out al[k] (List.getElem_mem hlt)
        generalize al[k] = x at *
        generalize bl[k] = y at *
        have HO := hid hO
        clear hO
        generalize hm : missT al bl k = mk at *
        have HM := hid hm
        clear hm
        by_cases hxy : x < y
        · have e1 : decide (x < y) = true := decide_eq_true hxy
          go_upto_region 7 with (fail)
          refine wp_region_kw (by kernel_rfl) (by kernel_rfl) ?_
          repeat (go_big_quiet_step ((fail)))
          refine wpQuiet_nil ?_
          intro _ hw'
          obtain ⟨u, hw''⟩ := hw'
          subst hw''
          have ku := kw_kp wo u
          generalize Kw wo u = w3 at *
          have HO3 := hid (Own.kp HO.out ku)
          replace i0 := ku.cellS i0
          replace i1 := ku.cellS i1
          have hp3 : p < w3.heap.size := block_lt_of_cell i0
          have hq3 : q < w3.heap.size := block_lt_of_cell i1
          have k3 := kr.trans ku
          have HZ := hid (And.intro (IntWalk.i64_in (x + 1) (by omega)) (IntWalk.wrap64_in (x + 1) (by omega)))
          have z1 := HZ.out.1
          have z2 := HZ.out.2
          clear HO
          have hz3 : w.heap.size ≤ w3.heap.size := k3.size
          go_upto_region 8 with (fail)
          refine G2.wp_region_growT Kp [] 13 42 (G2.pvL [G2.eqv (.slice Ao mk.length co), G2.eqv (.int .i64 (k : Int)), G2.eqv (.slice (some ⟨p, o, none⟩) al.length ca), G2.eqv (.int .i64 (k : Int)), G2.eqv (.pointer (some ⟨p, o + k, none⟩)), G2.eqv (.int .i64 x), G2.eqv (.int .i64 (x + 1)), G2.eqv (.slice (some ⟨q, o', none⟩) bl.length cb), G2.eqv (.int .i64 (k : Int)), G2.eqv (.pointer (some ⟨q, o' + k, none⟩)), G2.eqv (.int .i64 y), G2.eqv (.agg #[.int .i64 (k : Int), .int .i64 (x + 1), .int .i64 y]), (G2.newSl encSn 3 [((k : Int), x + 1, y)])]) (by kernel_rfl) (by kernel_rfl) rfl (fun x => Kp.refl x) (fun _ _ _ h k => h.trans k) (Kp.refl _).drew (by intro _ _ _ _ _ h; exact h) (G2.pvL_keep (G2.stabL_cons (G2.stab_eq _) (G2.stabL_cons (G2.stab_eq _) (G2.stabL_cons (G2.stab_eq _) (G2.stabL_cons (G2.stab_eq _) (G2.stabL_cons (G2.stab_eq _) (G2.stabL_cons (G2.stab_eq _) (G2.stabL_cons (G2.stab_eq _) (G2.stabL_cons (G2.stab_eq _) (G2.stabL_cons (G2.stab_eq _) (G2.stabL_cons (G2.stab_eq _) (G2.stabL_cons (G2.stab_eq _) (G2.stabL_cons (G2.stab_eq _) (G2.stabL_cons (G2.stab_newSl _ _ _) (G2.stabL_nil))))))))))))))) (G2.stepsT_cons 0 ?_ (G2.stepsT_cons 1 ?_ (G2.stepsT_cons 2 ?_ (G2.stepsT_cons 3 ?_ (G2.stepsT_cons 4 ?_ (G2.stepsT_cons 5 ?_ (G2.stepsT_cons 6 ?_ (G2.stepsT_cons 7 ?_ (G2.stepsT_cons 8 ?_ (G2.stepsT_cons 9 ?_ (G2.stepsT_cons 10 ?_ (G2.stepsT_cons 11 ?_ (G2.stepsT_cons 12 ?_ (G2.stepsT_nil _ _ _)))))))))))))) ?_ ?_
          · intro a w' hk hF hD K hK
            have h5 : a.tmps[5]?.getD undef = .slice Ao mk.length co := hF 5 (by kernel_rfl)
            clear hF hD
            go_simp
            exact hK.out _ _ (Kp.refl _) rfl
          · intro a w' hk hF hD K hK
            have h6 : a.tmps[6]?.getD undef = .int .i64 (k : Int) := hF 6 (by kernel_rfl)
            clear hF hD
            go_simp
            exact hK.out _ _ (Kp.refl _) rfl
          · intro a w' hk hF hD K hK
            have h0 : a.tmps[0]?.getD undef = .slice (some ⟨p, o, none⟩) al.length ca := hF 0 (by kernel_rfl)
            clear hF hD
            go_simp
            exact hK.out _ _ (Kp.refl _) rfl
          · intro a w' hk hF hD K hK
            have h6 : a.tmps[6]?.getD undef = .int .i64 (k : Int) := hF 6 (by kernel_rfl)
            clear hF hD
            go_simp
            exact hK.out _ _ (Kp.refl _) rfl
          · intro a w' hk hF hD K hK
            have h28 : a.tmps[28]?.getD undef = .slice (some ⟨p, o, none⟩) al.length ca := hD 2 (by kernel_rfl)
            have h29 : a.tmps[29]?.getD undef = .int .i64 (k : Int) := hD 3 (by kernel_rfl)
            clear hF hD
            go_simp
            exact hK.out _ _ (Kp.refl _) rfl
          · intro a w' hk hF hD K hK
            have h30 : a.tmps[30]?.getD undef = .pointer (some ⟨p, o + k, none⟩) := hD 4 (by kernel_rfl)
            clear hF hD
            have z0 := hk.cellS i0
            go_simp
            exact hK.out _ _ (Kp.refl _) rfl
          · intro a w' hk hF hD K hK
            have h31 : a.tmps[31]?.getD undef = .int .i64 x := hD 5 (by kernel_rfl)
            clear hF hD
            go_simp
            exact hK.out _ _ (Kp.refl _) rfl
          · intro a w' hk hF hD K hK
            have h1 : a.tmps[1]?.getD undef = .slice (some ⟨q, o', none⟩) bl.length cb := hF 1 (by kernel_rfl)
            clear hF hD
            go_simp
            exact hK.out _ _ (Kp.refl _) rfl
          · intro a w' hk hF hD K hK
            have h6 : a.tmps[6]?.getD undef = .int .i64 (k : Int) := hF 6 (by kernel_rfl)
            clear hF hD
            go_simp
            exact hK.out _ _ (Kp.refl _) rfl
          · intro a w' hk hF hD K hK
            have h33 : a.tmps[33]?.getD undef = .slice (some ⟨q, o', none⟩) bl.length cb := hD 7 (by kernel_rfl)
            have h34 : a.tmps[34]?.getD undef = .int .i64 (k : Int) := hD 8 (by kernel_rfl)
            clear hF hD
            go_simp
            exact hK.out _ _ (Kp.refl _) rfl
          · intro a w' hk hF hD K hK
            have h35 : a.tmps[35]?.getD undef = .pointer (some ⟨q, o' + k, none⟩) := hD 9 (by kernel_rfl)
            clear hF hD
            have z0 := hk.cellS i1
            go_simp
            exact hK.out _ _ (Kp.refl _) rfl
          · intro a w' hk hF hD K hK
            have h27 : a.tmps[27]?.getD undef = .int .i64 (k : Int) := hD 1 (by kernel_rfl)
            have h32 : a.tmps[32]?.getD undef = .int .i64 (x + 1) := hD 6 (by kernel_rfl)
            have h36 : a.tmps[36]?.getD undef = .int .i64 y := hD 10 (by kernel_rfl)
            clear hF hD
            go_simp
            exact hK.out _ _ (Kp.refl _) rfl
          · intro a w' hk hF hD K hK
            have h37 : a.tmps[37]?.getD undef = .agg #[.int .i64 (k : Int), .int .i64 (x + 1), .int .i64 y] := hD 11 (by kernel_rfl)
            clear hF hD
            go_simp
            exact hK.out _ _ ((Kp.refl w').alloc (.cells #[.int .i64 (k : Int), .int .i64 (x + 1), .int .i64 y] 83)) (G2.newSl_lit (enc := encSn) (size := 3) (l := [((k : Int), x + 1, y)]) w' #[.int .i64 (k : Int), .int .i64 (x + 1), .int .i64 y] 83 rfl rfl)
          · exact fun i0 hi0 => by simp at hi0
          intro v w9 k9 hv
          have v0 : v 0 = .slice Ao mk.length co := hv 0 (by omega)
          have v12 : (G2.newSl encSn 3 [((k : Int), x + 1, y)]) (v 12) w9 := hv 12 (by omega)
          clear hv
          obtain ⟨pn, e12, hsrc⟩ := v12
          simp only [G2.growPut, G2.gSlot, List.getElem?_toArray, List.getElem?_cons_zero, List.getElem?_cons_succ, Option.bind_some, List.setIfInBounds_toArray, List.set_cons_zero, List.set_cons_succ, List.drop_succ_cons, List.drop_zero, v0, e12]
          clear z1 z2 HZ
          have hown9 := Own.kp HO3.out k9
          have hz9 := k9.size
          go_wp2_with (at_builtin; refine wpl_append_flat rfl (.tmp 26) (.tmp 38) rfl stSn encSn_len encSn_one rfl hown9 rfl hsrc (by simp; omega) (by simp; omega) (by omega) ?_; intro v9 w9' hown hgrow hat hnil)
          have kf := (k3.trans k9).grown hgrow (fun i hi => hown9.ge i hi)
          have HON : Hid (Own encSn 83 3 w.heap.size w9' v9 (missT al bl (k + 1))) := hid (by rw [HMS.out, HMG.out, if_pos hxy]; exact hown)
          obtain ⟨A9, c9, rfl, -, -⟩ := hown.form
          clear hown hgrow hat hnil hown9
          go_roundw
          case rel => exact ⟨k + 1, by omega, by go_num, kf, HON.out⟩
          case measure => simp [intOf]; omega
        · have e1 : decide (x < y) = false := decide_eq_false hxy
          have HON : Hid (missT al bl (k + 1) = mk) := hid (by rw [HMS.out, HMG.out, if_neg hxy, List.append_nil])
          go_upto_region 7 with (fail)
          refine wp_region_kw (by kernel_rfl) (by kernel_rfl) ?_
          repeat (go_big_quiet_step ((fail)))
          refine wpQuiet_nil ?_
          intro _ hw'
          obtain ⟨u, hw''⟩ := hw'
          subst hw''
          have ku := kw_kp wo u
          generalize Kw wo u = w3 at *
          have k3 := kr.trans ku
          have HO3 := hid (Own.kp HO.out ku)
          clear HO i0 i1
          go_wp2_with fail
          go_roundw
          case rel => exact ⟨k + 1, by omega, by go_num, k3, by rw [HON.out]; exact HO3.out⟩
          case measure => simp [intOf]; omega
      · have hkl : ¬ (k : Int) < (al.length : Int) := by omega
        have hke : k = al.length := by omega
        have HO := hid hO
        clear hO
        replace hke := hid hke
        go_wp2
        go_ret
        exact ⟨_, rfl, by rw [HX.out, ← hke.out]; exact HO.out, kr⟩
end Go.Proofs.Ytcddllaljgfjbaa
