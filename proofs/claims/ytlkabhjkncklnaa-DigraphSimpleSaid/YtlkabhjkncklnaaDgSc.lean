
/-
Lists of integers that rise: IsSorted, Compact, and clones: the walks.
-/
import Derived.Test.YtlkabhjkncklnaaDgK
import Derived.Test.YtlkabhjkncklnaaDgO
namespace Go.Proofs.Ytlkabhjkncklnaa
set_option linter.unusedSimpArgs false
set_option linter.unusedVariables false
open Go.RowKit

/-- each one is below the next one -/
def Rises (l : List Int) : Prop := ∀ k (h : k + 1 < l.length), l[k] < l[k + 1]
theorem NaNI_at (x : Int) (w : World) : Calls Try.prog 62 #[.int .i64 x] w fun e w' => e = .returned (.bool false) ∧ w' = w := by
  go_enter Try.func62, Try.ntmps62
  go_wp2
  go_ret
  exact ⟨rfl, rfl⟩
theorem LessI_at (x y : Int) (w : World) (h : x < y) : Calls Try.prog 53 #[.int .i64 y, .int .i64 x] w fun e w' => e = .returned (.bool false) ∧ w' = w := by
  have h2 : ¬ y < x := by omega
  go_enter Try.func53, Try.ntmps53
  go_wp2_with fail
  refine (NaNI_at _ w).mono ?_
  rintro e w1 ⟨rfl, rfl⟩
  go_wp2
  go_ret
  exact ⟨by simp [h2], rfl⟩
set_option maxRecDepth 8000 in
set_option maxHeartbeats 4000000 in
theorem SortedI_any (v : Value) (l : List Int) (w : World) (hl : Ints w v l) (hs : Rises l) (hm : l.length ≤ 1000) : Calls Try.prog 33 #[v] w fun e w' => e = .returned (.bool true) ∧ Kp w w' := by
  obtain ⟨A, c, rfl, hc, hcm⟩ := hl.form
  have HL := hid hl
  have HS := hid hs
  clear hl hs
  go_enter Try.func33, Try.ntmps33
  go_wp2_with fail
  go_loopw [3] (fun iv wr => ∃ i : Int, -1 ≤ i ∧ i < l.length ∧ iv = .int .i64 i ∧ Kp w wr) (fun iv _ => (intOf iv).toNat)
  case atStart => exact ⟨(l.length : Int) - 1, by omega, by omega, by go_num, Kp.refl _⟩
  case round =>
    obtain ⟨i, hi0, hi, rfl, kr⟩ := hrel
    by_cases hp : 0 < i
    · obtain ⟨j, hj⟩ : ∃ j : Nat, i = (j : Int) + 1 := ⟨(i - 1).toNat, by omega⟩
      subst hj
      have hjl : j + 1 < l.length := by omega
      obtain ⟨g, o, hA, hg, i1⟩ := (HL.out.keep (pl_stable _) kr).ints hjl
      obtain ⟨g', o', hA', -, i0⟩ := (HL.out.keep (pl_stable _) kr).ints (k := j) (by omega)
      subst hA
      injection hA' with hA'
      injection hA' with c1 c2
      subst c1 c2
      have hlt := HS.out j hjl
      generalize l[j + 1] = y at *
      generalize l[j] = x at *
      have hcast : ((j + 1 : Nat) : Int) = (j : Int) + 1 := by push_cast; rfl
      have HLT := hid hlt
      clear hlt
      have hj0 : 0 ≤ (j : Int) + 1 := by omega
      have hjj : (j : Int) + 1 < (l.length : Int) := by omega
      have hjk : (j : Int) < (l.length : Int) := by omega
      go_upto_region 4 with (fail)
      refine G2.wp_region_growT Kp [] 9 21 (G2.pvL [G2.eqv (.slice (some ⟨g, o, none⟩) l.length c), G2.eqv (.int .i64 ((j : Int) + 1)), G2.eqv (.pointer (some ⟨g, o + (j + 1), none⟩)), G2.eqv (.int .i64 y), G2.eqv (.slice (some ⟨g, o, none⟩) l.length c), G2.eqv (.int .i64 ((j : Int) + 1)), G2.eqv (.int .i64 (j : Int)), G2.eqv (.pointer (some ⟨g, o + j, none⟩)), G2.eqv (.int .i64 x)]) (by kernel_rfl) (by kernel_rfl) rfl (fun x => Kp.refl x) (fun _ _ _ h k => h.trans k) (Kp.refl _).drew (fun _ _ _ _ _ h => h) (G2.pvL_keep (G2.stabL_cons (G2.stab_eq _) (G2.stabL_cons (G2.stab_eq _) (G2.stabL_cons (G2.stab_eq _) (G2.stabL_cons (G2.stab_eq _) (G2.stabL_cons (G2.stab_eq _) (G2.stabL_cons (G2.stab_eq _) (G2.stabL_cons (G2.stab_eq _) (G2.stabL_cons (G2.stab_eq _) (G2.stabL_cons (G2.stab_eq _) (G2.stabL_nil))))))))))) (G2.stepsT_cons 0 ?_ (G2.stepsT_cons 1 ?_ (G2.stepsT_cons 2 ?_ (G2.stepsT_cons 3 ?_ (G2.stepsT_cons 4 ?_ (G2.stepsT_cons 5 ?_ (G2.stepsT_cons 6 ?_ (G2.stepsT_cons 7 ?_ (G2.stepsT_cons 8 ?_ (G2.stepsT_nil _ _ _)))))))))) ?_ ?_
      · intro a w' hk hF hD K hK
        have h0 : a.tmps[0]?.getD undef = .slice (some ⟨g, o, none⟩) l.length c := hF 0 (by kernel_rfl)
        clear hF hD
        go_simp
        exact hK.out _ _ (Kp.refl _) rfl
      · intro a w' hk hF hD K hK
        have h3 : a.tmps[3]?.getD undef = .int .i64 ((j : Int) + 1) := hF 3 (by kernel_rfl)
        clear hF hD
        go_simp
        exact hK.out _ _ (Kp.refl _) rfl
      · intro a w' hk hF hD K hK
        have h11 : a.tmps[11]?.getD undef = .slice (some ⟨g, o, none⟩) l.length c := hD 0 (by kernel_rfl)
        have h12 : a.tmps[12]?.getD undef = .int .i64 ((j : Int) + 1) := hD 1 (by kernel_rfl)
        clear hF hD
        go_simp
        exact hK.out _ _ (Kp.refl _) rfl
      · intro a w' hk hF hD K hK
        have h13 : a.tmps[13]?.getD undef = .pointer (some ⟨g, o + (j + 1), none⟩) := hD 2 (by kernel_rfl)
        clear hF hD
        have z := hk.cellS i1
        go_simp
        exact hK.out _ _ (Kp.refl _) rfl
      · intro a w' hk hF hD K hK
        have h0 : a.tmps[0]?.getD undef = .slice (some ⟨g, o, none⟩) l.length c := hF 0 (by kernel_rfl)
        clear hF hD
        go_simp
        exact hK.out _ _ (Kp.refl _) rfl
      · intro a w' hk hF hD K hK
        have h3 : a.tmps[3]?.getD undef = .int .i64 ((j : Int) + 1) := hF 3 (by kernel_rfl)
        clear hF hD
        go_simp
        exact hK.out _ _ (Kp.refl _) rfl
      · intro a w' hk hF hD K hK
        have h16 : a.tmps[16]?.getD undef = .int .i64 ((j : Int) + 1) := hD 5 (by kernel_rfl)
        clear hF hD
        have hw : IntKind.i64.wrap (j : Int) = (j : Int) := (by rw [IntKind.wrap_i64]; omega)
        go_simp
        exact hK.out _ _ (Kp.refl _) rfl
      · intro a w' hk hF hD K hK
        have h15 : a.tmps[15]?.getD undef = .slice (some ⟨g, o, none⟩) l.length c := hD 4 (by kernel_rfl)
        have h17 : a.tmps[17]?.getD undef = .int .i64 (j : Int) := hD 6 (by kernel_rfl)
        clear hF hD
        go_simp
        exact hK.out _ _ (Kp.refl _) rfl
      · intro a w' hk hF hD K hK
        have h18 : a.tmps[18]?.getD undef = .pointer (some ⟨g, o + j, none⟩) := hD 7 (by kernel_rfl)
        clear hF hD
        have z := hk.cellS i0
        go_simp
        exact hK.out _ _ (Kp.refl _) rfl
      · exact fun i0 hi0 => by simp at hi0
      intro v w9 k9 hv
      have v3 : v 3 = .int .i64 y := hv 3 (by omega)
      have v8 : v 8 = .int .i64 x := hv 8 (by omega)
      clear hv
      simp only [G2.growPut, G2.gSlot, List.getElem?_toArray, List.getElem?_cons_zero, List.getElem?_cons_succ, Option.bind_some, List.setIfInBounds_toArray, List.set_cons_zero, List.set_cons_succ, List.drop_succ_cons, List.drop_zero, v3, v8]
      go_wp2_with fail
      refine (LessI_at x y _ HLT.out).mono ?_
      rintro e w7 ⟨rfl, rfl⟩
      go_wp2_with fail
      go_roundw
      case rel => exact ⟨(j : Int), by omega, by omega, by go_num, kr.trans k9⟩
      case measure => simp [intOf]
    · go_wp2
      go_ret
      exact ⟨rfl, kr⟩
set_option maxRecDepth 8000 in
set_option maxHeartbeats 4000000 in
theorem CompactI_any (A : Option Addr) (c : Nat) (l : List Int) (w : World) (hl : Ints w (.slice A l.length c) l) (hs : Rises l) (hm : l.length ≤ 1000) : Calls Try.prog 35 #[.slice A l.length c] w fun e w' => e = .returned (.slice A l.length c) ∧ Kp w w' := by
  obtain ⟨A, c, e, hc, hcm⟩ := hl.form
  injection e with e1 e2 e3
  subst e1 e3
  have HL := hid hl
  have HS := hid hs
  clear hl hs
  go_enter Try.func35, Try.ntmps35
  by_cases h2 : l.length < 2
  · have h3 : (l.length : Int) < 2 := by omega
    go_wp2
    go_ret
    exact ⟨rfl, Kp.refl _⟩
  · have h3 : ¬ (l.length : Int) < 2 := by omega
    go_wp2_with fail
    go_loopw [3] (fun iv wr => ∃ i : Nat, 1 ≤ i ∧ i ≤ l.length ∧ iv = .int .i64 (i : Int) ∧ Kp w wr) (fun iv _ => l.length - (intOf iv).toNat)
    case atStart => exact ⟨1, by omega, by omega, rfl, Kp.refl _⟩
    case round =>
      obtain ⟨i, hi0, hi, rfl, kr⟩ := hrel
      by_cases hp : i < l.length
      · obtain ⟨j, hj⟩ : ∃ j : Nat, i = j + 1 := ⟨i - 1, by omega⟩
        subst hj
        obtain ⟨g, o, hA, hg, i1⟩ := (HL.out.keep (pl_stable _) kr).ints hp
        obtain ⟨g', o', hA', -, i0⟩ := (HL.out.keep (pl_stable _) kr).ints (k := j) (by omega)
        subst hA
        injection hA' with hA'
        injection hA' with c1 c2
        subst c1 c2
        have hlt := HS.out j hp
        generalize l[j + 1] = y at *
        generalize l[j] = x at *
        have hcast : ((j + 1 : Nat) : Int) = (j : Int) + 1 := by push_cast; rfl
        have hyx : (y == x) = false := beq_false_of_ne (by omega)
        have hj0 : 0 ≤ (j : Int) + 1 := by omega
        have hjj : (j : Int) + 1 < (l.length : Int) := by omega
        have hjk : (j : Int) < (l.length : Int) := by omega
        have HLT := hid hlt
        clear hlt
        go_upto_region 6 with (fail)
        refine G2.wp_region_growT Kp [] 9 61 (G2.pvL [G2.eqv (.slice (some ⟨g, o, none⟩) l.length c), G2.eqv (.int .i64 ((j : Int) + 1)), G2.eqv (.pointer (some ⟨g, o + (j + 1), none⟩)), G2.eqv (.int .i64 y), G2.eqv (.slice (some ⟨g, o, none⟩) l.length c), G2.eqv (.int .i64 ((j : Int) + 1)), G2.eqv (.int .i64 (j : Int)), G2.eqv (.pointer (some ⟨g, o + j, none⟩)), G2.eqv (.int .i64 x)]) (by kernel_rfl) (by kernel_rfl) rfl (fun x => Kp.refl x) (fun _ _ _ h k => h.trans k) (Kp.refl _).drew (fun _ _ _ _ _ h => h) (G2.pvL_keep (G2.stabL_cons (G2.stab_eq _) (G2.stabL_cons (G2.stab_eq _) (G2.stabL_cons (G2.stab_eq _) (G2.stabL_cons (G2.stab_eq _) (G2.stabL_cons (G2.stab_eq _) (G2.stabL_cons (G2.stab_eq _) (G2.stabL_cons (G2.stab_eq _) (G2.stabL_cons (G2.stab_eq _) (G2.stabL_cons (G2.stab_eq _) (G2.stabL_nil))))))))))) (G2.stepsT_cons 0 ?_ (G2.stepsT_cons 1 ?_ (G2.stepsT_cons 2 ?_ (G2.stepsT_cons 3 ?_ (G2.stepsT_cons 4 ?_ (G2.stepsT_cons 5 ?_ (G2.stepsT_cons 6 ?_ (G2.stepsT_cons 7 ?_ (G2.stepsT_cons 8 ?_ (G2.stepsT_nil _ _ _)))))))))) ?_ ?_
        · intro a w' hk hF hD K hK
          have h0 : a.tmps[0]?.getD undef = .slice (some ⟨g, o, none⟩) l.length c := hF 0 (by kernel_rfl)
          clear hF hD
          go_simp
          exact hK.out _ _ (Kp.refl _) rfl
        · intro a w' hk hF hD K hK
          have h3 : a.tmps[3]?.getD undef = .int .i64 ((j : Int) + 1) := hF 3 (by kernel_rfl)
          clear hF hD
          go_simp
          exact hK.out _ _ (Kp.refl _) rfl
        · intro a w' hk hF hD K hK
          have h16 : a.tmps[16]?.getD undef = .slice (some ⟨g, o, none⟩) l.length c := hD 0 (by kernel_rfl)
          have h17 : a.tmps[17]?.getD undef = .int .i64 ((j : Int) + 1) := hD 1 (by kernel_rfl)
          clear hF hD
          go_simp
          exact hK.out _ _ (Kp.refl _) rfl
        · intro a w' hk hF hD K hK
          have h18 : a.tmps[18]?.getD undef = .pointer (some ⟨g, o + (j + 1), none⟩) := hD 2 (by kernel_rfl)
          clear hF hD
          have z := hk.cellS i1
          go_simp
          exact hK.out _ _ (Kp.refl _) rfl
        · intro a w' hk hF hD K hK
          have h0 : a.tmps[0]?.getD undef = .slice (some ⟨g, o, none⟩) l.length c := hF 0 (by kernel_rfl)
          clear hF hD
          go_simp
          exact hK.out _ _ (Kp.refl _) rfl
        · intro a w' hk hF hD K hK
          have h3 : a.tmps[3]?.getD undef = .int .i64 ((j : Int) + 1) := hF 3 (by kernel_rfl)
          clear hF hD
          go_simp
          exact hK.out _ _ (Kp.refl _) rfl
        · intro a w' hk hF hD K hK
          have h21 : a.tmps[21]?.getD undef = .int .i64 ((j : Int) + 1) := hD 5 (by kernel_rfl)
          clear hF hD
          have hw : IntKind.i64.wrap (j : Int) = (j : Int) := (by rw [IntKind.wrap_i64]; omega)
          go_simp
          exact hK.out _ _ (Kp.refl _) rfl
        · intro a w' hk hF hD K hK
          have h20 : a.tmps[20]?.getD undef = .slice (some ⟨g, o, none⟩) l.length c := hD 4 (by kernel_rfl)
          have h22 : a.tmps[22]?.getD undef = .int .i64 (j : Int) := hD 6 (by kernel_rfl)
          clear hF hD
          go_simp
          exact hK.out _ _ (Kp.refl _) rfl
        · intro a w' hk hF hD K hK
          have h23 : a.tmps[23]?.getD undef = .pointer (some ⟨g, o + j, none⟩) := hD 7 (by kernel_rfl)
          clear hF hD
          have z := hk.cellS i0
          go_simp
          exact hK.out _ _ (Kp.refl _) rfl
        · exact fun i0 hi0 => by simp at hi0
        intro v w9 k9 hv
        have v3 : v 3 = .int .i64 y := hv 3 (by omega)
        have v8 : v 8 = .int .i64 x := hv 8 (by omega)
        clear hv
        simp only [G2.growPut, G2.gSlot, List.getElem?_toArray, List.getElem?_cons_zero, List.getElem?_cons_succ, Option.bind_some, List.setIfInBounds_toArray, List.set_cons_zero, List.set_cons_succ, List.drop_succ_cons, List.drop_zero, v3, v8]
        go_wp2_with fail
        go_roundw
        case rel => exact ⟨j + 1 + 1, by omega, by omega, by go_num, kr.trans k9⟩
        case measure => simp [intOf]; omega
      · obtain rfl : i = l.length := by omega
        have hpp : ¬ (l.length : Int) < (l.length : Int) := by omega
        go_wp2
        go_ret
        exact ⟨rfl, kr⟩
end Go.Proofs.Ytlkabhjkncklnaa
