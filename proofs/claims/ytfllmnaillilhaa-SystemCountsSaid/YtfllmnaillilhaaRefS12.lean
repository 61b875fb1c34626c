
/-
The reference's edges and its test for cycles: the walks.
-/
import Derived.Test.YtfllmnaillilhaaSB
import Derived.Test.YtfllmnaillilhaaGrow3
namespace Go.Proofs.Ytfllmnaillilhaa
set_option linter.unusedSimpArgs false
set_option linter.unusedVariables false
open Go.RowKit

theorem srcBool (w : World) (x : Bool) : Bools (w.alloc (.cells #[.bool x] 4)) (.slice (some ⟨w.heap.size, 0, none⟩) 1 1) [x] := Sl.one w [.bool x] _ 1 x rfl rfl
/-- the edges of a graph for values -/
def edgesL (f : Nat) (le vs : List Int) (n : Nat) : List Bool := (List.range n).map fun j => decide (le.getD j 0 ≤ vs.getD (f + j) 0)
theorem edgesL_len (f : Nat) (le vs : List Int) (n : Nat) : (edgesL f le vs n).length = n := by simp [edgesL]
theorem edgesL_snoc (f : Nat) (le vs : List Int) (n : Nat) : edgesL f le vs (n + 1) = edgesL f le vs n ++ [decide (le.getD n 0 ≤ vs.getD (f + n) 0)] := by simp [edgesL, List.range_succ]
set_option maxRecDepth 8000 in
set_option maxHeartbeats 8000000 in
theorem qEdges_any (va vv : Value) (g : Gr) (vs : List Int) (n : Nat) (w : World) (hg : GrV w va g) (hv : Ints w vv vs) (hok : grOk n g = true) (hn : vs.length = n) (hn2 : n ≤ 1000) :
    Calls Try.prog 107 #[va, vv] w fun e w' => ∃ v, e = .returned v ∧ Own encBool 4 1 w.heap.size w' v (edgesL g.first.toNat g.least vs (g.size.toNat * g.size.toNat)) ∧ Kp w w' := by
  obtain ⟨A, c, rfl, hl⟩ := hg
  obtain ⟨fi, sz, le⟩ := g
  unfold grOk at hok
  dsimp only at *
  rw [Bool.and_eq_true, decide_eq_true_eq] at hok
  obtain ⟨⟨a1, a2, a3, a4, a5⟩, -⟩ := hok
  obtain ⟨s, rfl⟩ := Int.eq_ofNat_of_zero_le (show 0 ≤ sz by omega)
  obtain ⟨f, rfl⟩ := Int.eq_ofNat_of_zero_le a3
  simp only [Int.toNat_natCast]
  have hs1 : 1 ≤ s := by omega
  have hs6 : s ≤ 6 := by omega
  have hss : ((s * s : Nat) : Int) = (s : Int) * (s : Int) := by simp
  have hll : le.length = s * s := by omega
  have hvl : f + s * s ≤ vs.length := by omega
  have hf : f ≤ 1000 := by omega
  have hsq : s * s ≤ 36 := Nat.mul_le_mul hs6 hs6
  obtain ⟨m, hm0⟩ : ∃ m, m = s * s := ⟨_, rfl⟩
  rw [← hm0] at hll hvl hsq ⊢
  obtain ⟨wm1, wm2⟩ : IntKind.i64.wrap ((s : Int) * (s : Int)) = (m : Int) ∧ wrap64 ((s : Int) * (s : Int)) = (m : Int) := by
    rw [← hss, ← hm0]
    exact ⟨IntWalk.i64_in _ (by omega), IntWalk.wrap64_in _ (by omega)⟩
  have hmp : 1 ≤ m := by rw [hm0]; exact Nat.mul_pos hs1 hs1
  clear a1 a2 a3 a4 a5 hss hn hm0
  have Hl := hid hll
  have Hv := hid hvl
  obtain ⟨A', c', rfl, hc', hm'⟩ := hv.form
  obtain ⟨hc, hm⟩ := hl.caps
  have k0 := (Kp.refl w).alloc (.cells #[.int .i64 (f : Int), .int .i64 (s : Int), .slice A le.length c] 65)
  have c0 := alloc_cell w #[.int .i64 (f : Int), .int .i64 (s : Int), .slice A le.length c] 65 0 rfl
  have c1 := alloc_cell w #[.int .i64 (f : Int), .int .i64 (s : Int), .slice A le.length c] 65 1 rfl
  have c2 := alloc_cell w #[.int .i64 (f : Int), .int .i64 (s : Int), .slice A le.length c] 65 2 rfl
  have z0 := alloc_lt w (.cells #[.int .i64 (f : Int), .int .i64 (s : Int), .slice A le.length c] 65)
  have hz0 : (w.alloc (.cells #[.int .i64 (f : Int), .int .i64 (s : Int), .slice A le.length c] 65)).heap.size = w.heap.size + 1 := by simp
  clear hll hvl
  go_enter Try.func107, Try.ntmps107
  go_wp2
  generalize w.alloc (.cells #[.int .i64 (f : Int), .int .i64 (s : Int), .slice A le.length c] 65) = w0 at *
  generalize hb0 : w.heap.size = b at *
  replace hb0 := hid hb0
  have hz0' := hid hz0
  clear hz0
  go_loopw [5, 6] (fun v i wr => ∃ k : Nat, k ≤ m ∧ i = .int .i64 k ∧ Own encBool 4 1 (b + 1) wr v (edgesL f le vs k) ∧ Kp w0 wr) (fun _ i _ => m - (intOf i).toNat)
  case atStart => exact ⟨0, Nat.zero_le _, rfl, by
    have h := Own.lit (base := b + 1) (e := 4) (size := 1) encBool w0 #[] [] (by have := hz0'.out; omega) (by simp) rfl rfl
    rw [hz0'.out] at h
    exact h, (Kp.refl _).alloc _⟩
  case round =>
    obtain ⟨k, hk, rfl, hown, hbel⟩ := hrel
    have d0 := hbel.cellS c0
    have d1 := hbel.cellS c1
    have d2 := hbel.cellS c2
    have hgl := block_lt_of_cell d0
    have hsz := hbel.size
    have hbk := k0.trans hbel
    by_cases hlt : k < m
    · obtain ⟨pv, ov, rfl, hpv, cv⟩ := (hv.keep (pl_stable _) hbk).ints (k := f + k) (by have := Hv.out; omega)
      obtain ⟨pl, ol, rfl, hpl, cl⟩ := (hl.keep (pl_stable _) hbk).ints (k := k) (by have := Hl.out; omega)
      have HS : Hid (edgesL f le vs (k + 1) = edgesL f le vs k ++ [decide (le[k]'(by have := Hl.out; omega) ≤ vs[f + k]'(by have := Hv.out; omega))]) := hid (by
        rw [edgesL_snoc]
        have h1 := Hl.out
        have h2 := Hv.out
        have h3 : k < le.length := by omega
        have h4 : f + k < vs.length := by omega
        simp [List.getD, h3, h4])
      generalize le[k]'(by have := Hl.out; omega) = y at *
      generalize vs[f + k]'(by have := Hv.out; omega) = z at *
      have hel := edgesL_len f le vs k
      generalize edgesL f le vs k = L at *
      obtain ⟨A5, c5, rfl, _, _⟩ := hown.form
      have q1 : (0 : Int) ≤ (f : Int) + (k : Int) := by omega
      have q2 : (f : Int) + (k : Int) < vs.length := by have := Hv.out; omega
      have q3 : (k : Int) < le.length := by have := Hl.out; omega
      have q4 : ((f : Int) + (k : Int)).toNat = f + k := by omega
      have w1 : IntKind.i64.wrap ((f : Int) + (k : Int)) = (f : Int) + (k : Int) := IntWalk.i64_in _ (by omega)
      have q5 : (k : Int) < m := by omega
      replace hel := hid hel
      have hvl2 := hv.caps
      go_wp2
      refine G2.wp_region_growG Kp [] 15 34 (G2.pvL [G2.eqv (.slice A5 L.length c5), G2.eqv (.slice (some ⟨pv, ov, none⟩) vs.length c'), G2.eqv (.pointer (some ⟨b, 0, none⟩)), G2.eqv (.int .i64 (f : Int)), G2.eqv (.int .i64 (k : Int)), G2.eqv (.int .i64 ((f : Int) + (k : Int))), G2.eqv (.pointer (some ⟨pv, ov + (f + k), none⟩)), G2.eqv (.int .i64 z), G2.eqv (.pointer (some ⟨b, 2, none⟩)), G2.eqv (.slice (some ⟨pl, ol, none⟩) le.length c), G2.eqv (.int .i64 (k : Int)), G2.eqv (.pointer (some ⟨pl, ol + k, none⟩)), G2.eqv (.int .i64 y), G2.eqv (.bool (decide (y ≤ z))), (G2.newSl encBool 1 [decide (y ≤ z)])]) (by kernel_rfl) (by kernel_rfl) rfl (fun x => Kp.refl x) (fun _ _ _ h k => h.trans k) (Kp.refl _).drew (fun _ _ _ _ _ h => h) (G2.pvL_keep (G2.stabL_cons (G2.stab_eq _) (G2.stabL_cons (G2.stab_eq _) (G2.stabL_cons (G2.stab_eq _) (G2.stabL_cons (G2.stab_eq _) (G2.stabL_cons (G2.stab_eq _) (G2.stabL_cons (G2.stab_eq _) (G2.stabL_cons (G2.stab_eq _) (G2.stabL_cons (G2.stab_eq _) (G2.stabL_cons (G2.stab_eq _) (G2.stabL_cons (G2.stab_eq _) (G2.stabL_cons (G2.stab_eq _) (G2.stabL_cons (G2.stab_eq _) (G2.stabL_cons (G2.stab_eq _) (G2.stabL_cons (G2.stab_eq _) (G2.stabL_cons (G2.stab_newSl _ _ _) (G2.stabL_nil))))))))))))))))) ?_ ?_ ?_
      · intro i0 hi0
        have hi' : i0 = 0 ∨ i0 = 1 ∨ i0 = 2 ∨ i0 = 3 ∨ i0 = 4 ∨ i0 = 5 ∨ i0 = 6 ∨ i0 = 7 ∨ i0 = 8 ∨ i0 = 9 ∨ i0 = 10 ∨ i0 = 11 ∨ i0 = 12 ∨ i0 = 13 ∨ i0 = 14 := by omega
        rcases hi' with rfl | rfl | rfl | rfl | rfl | rfl | rfl | rfl | rfl | rfl | rfl | rfl | rfl | rfl | rfl
        · intro a w' hk hF hD K hK
          simp only [List.getElem?_toArray, List.getElem?_cons_zero, List.getElem?_cons_succ, Option.map_some, Option.getD_some]
          have h5 : a.tmps[5]?.getD undef = .slice A5 L.length c5 := hF 5 (by kernel_rfl)
          clear hF hD
          go_simp
          exact hK.out _ _ (Kp.refl _) rfl
        · intro a w' hk hF hD K hK
          simp only [List.getElem?_toArray, List.getElem?_cons_zero, List.getElem?_cons_succ, Option.map_some, Option.getD_some]
          have h1 : a.tmps[1]?.getD undef = .slice (some ⟨pv, ov, none⟩) vs.length c' := hF 1 (by kernel_rfl)
          clear hF hD
          go_simp
          exact hK.out _ _ (Kp.refl _) rfl
        · intro a w' hk hF hD K hK
          simp only [List.getElem?_toArray, List.getElem?_cons_zero, List.getElem?_cons_succ, Option.map_some, Option.getD_some]
          have h2 : a.tmps[2]?.getD undef = .pointer (some ⟨b, 0, none⟩) := hF 2 (by kernel_rfl)
          clear hF hD
          go_simp
          exact hK.out _ _ (Kp.refl _) rfl
        · intro a w' hk hF hD K hK
          simp only [List.getElem?_toArray, List.getElem?_cons_zero, List.getElem?_cons_succ, Option.map_some, Option.getD_some]
          have h19 : a.tmps[19]?.getD undef = .pointer (some ⟨b, 0, none⟩) := hD 2 (by kernel_rfl)
          clear hF hD
          have z1 := hk.cellS d0
          go_simp
          exact hK.out _ _ (Kp.refl _) rfl
        · intro a w' hk hF hD K hK
          simp only [List.getElem?_toArray, List.getElem?_cons_zero, List.getElem?_cons_succ, Option.map_some, Option.getD_some]
          have h6 : a.tmps[6]?.getD undef = .int .i64 (k : Int) := hF 6 (by kernel_rfl)
          clear hF hD
          go_simp
          exact hK.out _ _ (Kp.refl _) rfl
        · intro a w' hk hF hD K hK
          simp only [List.getElem?_toArray, List.getElem?_cons_zero, List.getElem?_cons_succ, Option.map_some, Option.getD_some]
          have h20 : a.tmps[20]?.getD undef = .int .i64 (f : Int) := hD 3 (by kernel_rfl)
          have h21 : a.tmps[21]?.getD undef = .int .i64 (k : Int) := hD 4 (by kernel_rfl)
          clear hF hD
          go_simp
          exact hK.out _ _ (Kp.refl _) rfl
        · intro a w' hk hF hD K hK
          simp only [List.getElem?_toArray, List.getElem?_cons_zero, List.getElem?_cons_succ, Option.map_some, Option.getD_some]
          have h18 : a.tmps[18]?.getD undef = .slice (some ⟨pv, ov, none⟩) vs.length c' := hD 1 (by kernel_rfl)
          have h22 : a.tmps[22]?.getD undef = .int .i64 ((f : Int) + (k : Int)) := hD 5 (by kernel_rfl)
          clear hF hD
          go_simp
          exact hK.out _ _ (Kp.refl _) rfl
        · intro a w' hk hF hD K hK
          simp only [List.getElem?_toArray, List.getElem?_cons_zero, List.getElem?_cons_succ, Option.map_some, Option.getD_some]
          have h23 : a.tmps[23]?.getD undef = .pointer (some ⟨pv, ov + (f + k), none⟩) := hD 6 (by kernel_rfl)
          clear hF hD
          have z1 := hk.cellS cv
          go_simp
          exact hK.out _ _ (Kp.refl _) rfl
        · intro a w' hk hF hD K hK
          simp only [List.getElem?_toArray, List.getElem?_cons_zero, List.getElem?_cons_succ, Option.map_some, Option.getD_some]
          have h2 : a.tmps[2]?.getD undef = .pointer (some ⟨b, 0, none⟩) := hF 2 (by kernel_rfl)
          clear hF hD
          go_simp
          exact hK.out _ _ (Kp.refl _) rfl
        · intro a w' hk hF hD K hK
          simp only [List.getElem?_toArray, List.getElem?_cons_zero, List.getElem?_cons_succ, Option.map_some, Option.getD_some]
          have h25 : a.tmps[25]?.getD undef = .pointer (some ⟨b, 2, none⟩) := hD 8 (by kernel_rfl)
          clear hF hD
          have z1 := hk.cellS d2
          go_simp
          exact hK.out _ _ (Kp.refl _) rfl
        · intro a w' hk hF hD K hK
          simp only [List.getElem?_toArray, List.getElem?_cons_zero, List.getElem?_cons_succ, Option.map_some, Option.getD_some]
          have h6 : a.tmps[6]?.getD undef = .int .i64 (k : Int) := hF 6 (by kernel_rfl)
          clear hF hD
          go_simp
          exact hK.out _ _ (Kp.refl _) rfl
        · intro a w' hk hF hD K hK
          simp only [List.getElem?_toArray, List.getElem?_cons_zero, List.getElem?_cons_succ, Option.map_some, Option.getD_some]
          have h26 : a.tmps[26]?.getD undef = .slice (some ⟨pl, ol, none⟩) le.length c := hD 9 (by kernel_rfl)
          have h27 : a.tmps[27]?.getD undef = .int .i64 (k : Int) := hD 10 (by kernel_rfl)
          clear hF hD
          go_simp
          exact hK.out _ _ (Kp.refl _) rfl
        · intro a w' hk hF hD K hK
          simp only [List.getElem?_toArray, List.getElem?_cons_zero, List.getElem?_cons_succ, Option.map_some, Option.getD_some]
          have h28 : a.tmps[28]?.getD undef = .pointer (some ⟨pl, ol + k, none⟩) := hD 11 (by kernel_rfl)
          clear hF hD
          have z1 := hk.cellS cl
          go_simp
          exact hK.out _ _ (Kp.refl _) rfl
        · intro a w' hk hF hD K hK
          simp only [List.getElem?_toArray, List.getElem?_cons_zero, List.getElem?_cons_succ, Option.map_some, Option.getD_some]
          have h24 : a.tmps[24]?.getD undef = .int .i64 z := hD 7 (by kernel_rfl)
          have h29 : a.tmps[29]?.getD undef = .int .i64 y := hD 12 (by kernel_rfl)
          clear hF hD
          go_simp
          exact hK.out _ _ (Kp.refl _) rfl
        · intro a w' hk hF hD K hK
          simp only [List.getElem?_toArray, List.getElem?_cons_zero, List.getElem?_cons_succ, Option.map_some, Option.getD_some]
          have h30 : a.tmps[30]?.getD undef = .bool (decide (y ≤ z)) := hD 13 (by kernel_rfl)
          clear hF hD
          go_simp
          exact hK.out _ _ ((Kp.refl w').alloc (.cells #[.bool (decide (y ≤ z))] 4)) (G2.newSl_one (cs := [.bool (decide (y ≤ z))]) w' 4 rfl rfl)
      · exact fun i0 hi0 => by simp at hi0
      intro v w9 k9 hv
      have v0 : v 0 = .slice A5 L.length c5 := hv 0 (by omega)
      have v14 : (G2.newSl encBool 1 [decide (y ≤ z)]) (v 14) w9 := hv 14 (by omega)
      clear hv
      obtain ⟨p, v14', hp⟩ := v14
      simp only [G2.growPut, G2.gSlot, List.getElem?_toArray, List.getElem?_cons_zero, List.getElem?_cons_succ, Option.bind_some, List.setIfInBounds_toArray, List.set_cons_zero, List.set_cons_succ, List.drop_succ_cons, List.drop_zero, v0, v14']
      have hown9 := hown.kp k9
      have hs9 := k9.size
      clear hown d0 d1 d2 cv cl
      go_wp2_with (at_builtin; refine wpl_append_flat rfl (.tmp 17) (.tmp 31) rfl stBoolM encBool_len encBool_one rfl hown9 rfl hp (by have := hel.out; simp; omega) (by have := hel.out; simp; omega) (by omega) ?_; intro v1 w1 hown1 hgrow1 hat1 hnil1)
      go_roundw
      case rel => exact ⟨k + 1, by omega, by go_num, by rw [HS.out]; exact hown1, (hbel.trans k9).grown hgrow1 (fun q hq => by have := hown9.ge q hq; have := hz0'.out; omega)⟩
      case measure => simp [intOf]; omega
    · obtain rfl : k = m := by omega
      have g0 : decide ((k : Int) < (k : Int)) = false := decide_eq_false (by omega)
      go_wp2
      go_ret
      exact ⟨_, rfl, hown.less (by have := hb0.out; omega), hbk⟩
end Go.Proofs.Ytfllmnaillilhaa
