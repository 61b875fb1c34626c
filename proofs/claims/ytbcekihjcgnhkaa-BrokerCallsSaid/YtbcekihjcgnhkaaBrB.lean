
/-
The reference of the broker: how much of a right a list names; a list with less of it; equal lists: the walks.
-/
import Derived.Test.YtbcekihjcgnhkaaBrP
import Derived.Test.YtbcekihjcgnhkaaBrF
namespace Go.Proofs.Ytbcekihjcgnhkaa
set_option linter.unusedSimpArgs false
set_option linter.unusedVariables false
open Go.RowKit

theorem amt_drop {l : List Nd} {k : Nat} (hk : k < l.length) (x : Rt) : amt (l.drop k) x = if l[k].1 = x then l[k].2 else amt (l.drop (k + 1)) x := by rw [List.drop_eq_getElem_cons hk, amt_cons]
theorem br_meas {n j : Nat} (h : j < n) : n - (intOf (.int .i64 ((j : Int) + 1))).toNat < n - (intOf (.int .i64 (j : Int))).toNat := by simp [intOf]; omega
set_option maxHeartbeats 4000000 in
theorem rAmount_any (x : Rt) (l : List Nd) (v : Value) (w : World) (hv : Nds w v l) :
    Calls Try.prog 49 #[v, rtV x] w fun e w' => e = .returned (.int .i64 (amt l x)) ∧ Kp w w' := by
  obtain ⟨x1, x2, x3⟩ := x
  obtain ⟨A, c, rfl, hc, hm⟩ := hv.form
  obtain ⟨R, hR⟩ : ∃ R, Hid (amt l (x1, x2, x3) = R) := ⟨_, hid rfl⟩
  rw [hR.out]
  have k0 := (Kp.refl w).alloc (.cells #[.int .i64 x1, .int .i64 x2, .int .i64 x3] 39)
  have hX := Bx.new w #[.int .i64 x1, .int .i64 x2, .int .i64 x3] 39
  have HS := hid hv
  clear hv
  go_enter Try.func49, Try.ntmps49
  go_upto_region 1 with (fail)
  generalize w.alloc (.cells #[.int .i64 x1, .int .i64 x2, .int .i64 x3] 39) = w1 at *
  have hxl := hX.lt (by simp)
  generalize w.heap.size = xb at *
  go_wp2_with fail
  go_loopw [5] (fun i wr => ∃ k : Nat, k ≤ l.length ∧ i = .int .i64 (k : Int) ∧ Hid (amt (l.drop k) (x1, x2, x3) = R) ∧ Kp w1 wr) (fun i _ => l.length - (intOf i).toNat)
  case atStart => exact ⟨0, Nat.zero_le _, rfl, hid (by rw [List.drop_zero]; exact hR.out), Kp.refl _⟩
  case round =>
    obtain ⟨k, hk, rfl, HR, kr⟩ := hrel
    have hX2 := hX.kp kr hxl
    have X0 := hX2.cell (j := 0) rfl
    have X1 := hX2.cell (j := 1) rfl
    have X2 := hX2.cell (j := 2) rfl
    by_cases hlt : k < l.length
    · have hkl : (k : Int) < (l.length : Int) := by omega
      have hk0 : (0 : Int) ≤ (k : Int) := by omega
      obtain ⟨g, o, rfl, hg, i0, i1, i2, i3⟩ := (HS.out.keep (pl_stable _) (k0.trans kr)).nd hlt
      have HN := hid (amt_drop hlt (x1, x2, x3))
      generalize l[k] = y at *
      obtain ⟨⟨y1, y2, y3⟩, y4⟩ := y
      dsimp only at i0 i1 i2 i3
      rw [HR.out] at HN
      go_upto_region 4 with (fail)
      refine G2.wp_region_growT Kp [] 6 24 (G2.pvL [G2.eqv (.slice (some ⟨g, o, none⟩) l.length c), G2.eqv (.int .i64 (k : Int)), G2.eqv (.pointer (some ⟨g, o + k * 4, none⟩)), G2.eqv (.pointer (some ⟨g, o + k * 4, none⟩)), G2.eqv (.agg #[.int .i64 y1, .int .i64 y2, .int .i64 y3]), G2.eqv (.agg #[.int .i64 x1, .int .i64 x2, .int .i64 x3])]) (by kernel_rfl) (by kernel_rfl) rfl (fun x => Kp.refl x) (fun _ _ _ h k => h.trans k) (Kp.refl _).drew (fun _ _ _ _ _ h => h) (G2.pvL_keep (G2.stabL_cons (G2.stab_eq _) (G2.stabL_cons (G2.stab_eq _) (G2.stabL_cons (G2.stab_eq _) (G2.stabL_cons (G2.stab_eq _) (G2.stabL_cons (G2.stab_eq _) (G2.stabL_cons (G2.stab_eq _) (G2.stabL_nil)))))))) (G2.stepsT_cons 0 ?_ (G2.stepsT_cons 1 ?_ (G2.stepsT_cons 2 ?_ (G2.stepsT_cons 3 ?_ (G2.stepsT_cons 4 ?_ (G2.stepsT_cons 5 ?_ (G2.stepsT_nil _ _ _))))))) ?_ ?_
      · intro a w' hk hF hD K hK
        have h0 : a.tmps[0]?.getD undef = .slice (some ⟨g, o, none⟩) l.length c := hF 0 (by kernel_rfl)
        clear hF hD
        go_simp
        exact hK.out _ _ (Kp.refl _) rfl
      · intro a w' hk hF hD K hK
        have h5 : a.tmps[5]?.getD undef = .int .i64 (k : Int) := hF 5 (by kernel_rfl)
        clear hF hD
        go_simp
        exact hK.out _ _ (Kp.refl _) rfl
      · intro a w' hk hF hD K hK
        have h12 : a.tmps[12]?.getD undef = .slice (some ⟨g, o, none⟩) l.length c := hD 0 (by kernel_rfl)
        have h13 : a.tmps[13]?.getD undef = .int .i64 (k : Int) := hD 1 (by kernel_rfl)
        clear hF hD
        go_simp
        exact hK.out _ _ (Kp.refl _) rfl
      · intro a w' hk hF hD K hK
        have h14 : a.tmps[14]?.getD undef = .pointer (some ⟨g, o + k * 4, none⟩) := hD 2 (by kernel_rfl)
        clear hF hD
        go_simp
        exact hK.out _ _ (Kp.refl _) rfl
      · intro a w' hk hF hD K hK
        have h15 : a.tmps[15]?.getD undef = .pointer (some ⟨g, o + k * 4, none⟩) := hD 3 (by kernel_rfl)
        clear hF hD
        have z0 := hk.cellS i0
        have z1 := hk.cellS i1
        have z2 := hk.cellS i2
        go_simp
        exact hK.out _ _ (Kp.refl _) rfl
      · intro a w' hk hF hD K hK
        have h3 : a.tmps[3]?.getD undef = .pointer (some ⟨xb, 0, none⟩) := hF 3 (by kernel_rfl)
        clear hF hD
        have z0 := hk.cellS X0
        have z1 := hk.cellS X1
        have z2 := hk.cellS X2
        go_simp
        exact hK.out _ _ (Kp.refl _) rfl
      · exact fun i0 hi0 => by simp at hi0
      intro v w9 k9 hv
      have v4 : v 4 = .agg #[.int .i64 y1, .int .i64 y2, .int .i64 y3] := hv 4 (by omega)
      have v5 : v 5 = .agg #[.int .i64 x1, .int .i64 x2, .int .i64 x3] := hv 5 (by omega)
      clear hv
      simp only [G2.growPut, G2.gSlot, List.getElem?_toArray, List.getElem?_cons_zero, List.getElem?_cons_succ, Option.bind_some, List.setIfInBounds_toArray, List.set_cons_zero, List.set_cons_succ, List.drop_succ_cons, List.drop_zero, v4, v5]
      have heq := fun W => run_eql_rt W (y1, y2, y3) (x1, x2, x3)
      have i3' := k9.cellS i3
      have hg9 := block_lt_of_cell i3'
      have kr9 := kr.trans k9
      clear i0 i1 i2 i3 X0 X1 X2
      by_cases he : ((y1, y2, y3) : Rt) = (x1, x2, x3)
      · rw [decide_eq_true he] at heq
        have HF : Hid (R = y4) := hid (by rw [HN.out, if_pos he])
        clear HN HR he
        go_wp2_with fail
        go_ret
        exact ⟨ret_int HF.out.symm, k0.trans kr9⟩
      · rw [decide_eq_false he] at heq
        have HF : Hid (amt (l.drop (k + 1)) (x1, x2, x3) = R) := hid (by rw [HN.out, if_neg he])
        clear HN HR he
        go_wp2_with fail
        go_roundw
        case rel => exact ⟨k + 1, hlt, by go_num, HF, kr9⟩
        case measure => exact br_meas hlt
    · have hkl : ¬ (k : Int) < (l.length : Int) := by omega
      have hE : R = 0 := by rw [← HR.out, List.drop_of_length_le (by omega)]; rfl
      subst hE
      go_wp2
      go_ret
      exact ⟨rfl, k0.trans kr⟩
theorem woN_snoc {l : List Nd} {k : Nat} (hk : k < l.length) (x : Rt) (n : Int) : woN (l.take (k + 1)) x n = woN (l.take k) x n ++ woN [l[k]] x n := by rw [List.take_succ_eq_append_getElem hk, woN_app]
theorem woN_len (x : Rt) (n : Int) : ∀ l : List Nd, (woN l x n).length ≤ l.length
  | [] => Nat.le_refl _
  | y :: l => by
    have := woN_len x n l
    rw [woN]
    split <;> split <;> simp only [List.length_cons] <;> omega
theorem wo_room {l : List Nd} {k : Nat} (x : Rt) (n : Int) (hl : k ≤ l.length) (hb : l.length ≤ 2048) : (woN (l.take k) x n).length + 1 ≤ 4611686018427387904 ∧ ((woN (l.take k) x n).length + 1) * 32 ≤ 140737488355328 := by
  have h1 := woN_len x n (l.take k)
  rw [List.length_take] at h1
  omega
theorem wo_one {y : Nd} {x : Rt} {n : Int} : woN [y] x n = if y.1 = x then (if 0 < y.2 - n then [(y.1, y.2 - n)] else []) else (if 0 < y.2 then [y] else []) := by
  rw [woN]
  rfl
theorem size_le {a b c : World} (k : Kp a b) (h : Kp b c) : a.heap.size ≤ c.heap.size := Nat.le_trans k.size h.size
set_option maxHeartbeats 4000000 in
theorem rWithout_any (x : Rt) (n : Int) (l : List Nd) (v : Value) (w : World) (hv : Nds w v l) (hl : l.length ≤ 2048) (hb : ∀ z ∈ l, 1 ≤ z.2 ∧ z.2 ≤ 1000000) (hn : 0 < n ∧ n ≤ 1000000) :
    Calls Try.prog 50 #[v, rtV x, .int .i64 n] w fun e w' => ∃ v', e = .returned v' ∧ Own encNd 41 4 w.heap.size w' v' (woN l x n) ∧ Kp w w' := by
  obtain ⟨x1, x2, x3⟩ := x
  obtain ⟨A, c, rfl, hc, hm⟩ := hv.form
  have k0 := (Kp.refl w).alloc (.cells #[.int .i64 x1, .int .i64 x2, .int .i64 x3] 39)
  have hX := Bx.new w #[.int .i64 x1, .int .i64 x2, .int .i64 x3] 39
  have HS := hid hv
  have HB := hid hb
  have hw0 : w.heap.size ≤ (w.alloc (.cells #[.int .i64 x1, .int .i64 x2, .int .i64 x3] 39)).heap.size := k0.size
  clear hv hb
  go_enter Try.func50, Try.ntmps50
  go_upto_region 1 with (fail)
  generalize w.alloc (.cells #[.int .i64 x1, .int .i64 x2, .int .i64 x3] 39) = w1 at *
  have hxl := hX.lt (by simp)
  generalize hxb : w.heap.size = xb at *
  replace hxb := hid hxb
  have own0 : Own encNd 41 4 w1.heap.size (w1.alloc (.cells #[] 41)) (.slice (some ⟨w1.heap.size, 0, none⟩) 0 0) [] := Own.lit (base := w1.heap.size) (e := 41) (size := 4) encNd w1 #[] [] (Nat.le_refl _) (by simp) rfl rfl
  have kr0 := (Kp.refl w1).alloc (.cells #[] 41)
  go_wp2_with fail
  go_loopw [7, 8] (fun v i wr => ∃ k : Nat, k ≤ l.length ∧ i = .int .i64 (k : Int) ∧ Own encNd 41 4 w1.heap.size wr v (woN (l.take k) (x1, x2, x3) n) ∧ Kp w1 wr) (fun _ i _ => l.length - (intOf i).toNat)
  case atStart => exact ⟨0, Nat.zero_le _, rfl, own0, kr0⟩
  case round =>
    clear own0 kr0
    obtain ⟨k, hk, rfl, own, kr⟩ := hrel
    obtain ⟨wo, rfl⟩ : ∃ wo : World, wo = wr := ⟨_, rfl⟩
    obtain ⟨A5, n5, c5, rfl⟩ := own.isSl
    have hX2 := hX.kp kr hxl
    by_cases hlt : k < l.length
    · have hkl : (k : Int) < (l.length : Int) := by omega
      have hk0 : (0 : Int) ≤ (k : Int) := by omega
      obtain ⟨g, o, rfl, hg, i0, i1, i2, i3⟩ := (HS.out.keep (pl_stable _) (k0.trans kr)).nd hlt
      have HN := hid (woN_snoc hlt (x1, x2, x3) n)
      have hyb := HB.out l[k] (List.getElem_mem hlt)
      have hroom := hid (wo_room (l := l) (k := k) (x1, x2, x3) n hk hl)
      generalize l[k] = y at *
      obtain ⟨⟨y1, y2, y3⟩, y4⟩ := y
      dsimp only at i0 i1 i2 i3 hyb
      rw [wo_one] at HN
      dsimp only at HN
      have kb := (Kp.refl wo).alloc (.cells #[.int .i64 y1, .int .i64 y2, .int .i64 y3, .int .i64 y4] 41)
      have BY := Bx.new wo #[.int .i64 y1, .int .i64 y2, .int .i64 y3, .int .i64 y4] 41
      have hX3 := hX2.kp kb (hX2.lt (by simp))
      go_upto_region 6 with (fail)
      obtain ⟨bb, hbb⟩ : ∃ bb, bb = wo.heap.size := ⟨_, rfl⟩
      rw [← hbb] at BY ⊢
      have hbw : w1.heap.size ≤ bb := by rw [hbb]; exact kr.size
      have hbo : ∀ q, (Value.slice A5 n5 c5).ownBlock = some q → q ≠ bb := fun q hq => by have := own.blk_lt q hq; omega
      generalize wo.alloc (.cells #[.int .i64 y1, .int .i64 y2, .int .i64 y3, .int .i64 y4] 41) = wb at *
      clear i0 i1 i2 i3
      have d0 := BY.cell (j := 0) rfl
      have d1 := BY.cell (j := 1) rfl
      have d2 := BY.cell (j := 2) rfl
      have d3 := BY.cell (j := 3) rfl
      have f3 := BY.free (j := 3) (by simp)
      have hbl := BY.lt (by simp)
      have X0 := hX3.cell (j := 0) rfl
      have X1 := hX3.cell (j := 1) rfl
      have X2 := hX3.cell (j := 2) rfl
      have hx3 := hX3.lt (by simp)
      have heq := fun W => run_eql_rt W (y1, y2, y3) (x1, x2, x3)
      replace hbb := hid hbb
      by_cases he : ((y1, y2, y3) : Rt) = (x1, x2, x3)
      · rw [decide_eq_true he] at heq
        rw [if_pos he] at HN
        clear he
        have BY2 := BY.set (j := 3) (by simp) (.int .i64 (y4 - n))
        simp only [List.set_cons_zero, List.set_cons_succ] at BY2
        have ks : Kp w1 (wb.setCell ⟨bb, 3, none⟩ (.int .i64 (y4 - n))) := (kr.trans kb).set (p := ⟨bb, 3, none⟩) hbw _
        have fxs : Fx (fun q => q = bb) wb (wb.setCell ⟨bb, 3, none⟩ (.int .i64 (y4 - n))) := ((Kg.refl wb bb).set (p := ⟨bb, 3, none⟩) (.inl rfl) (.int .i64 (y4 - n))).fx (.inl rfl)
        have own2 : Own encNd 41 4 w1.heap.size (wb.setCell ⟨bb, 3, none⟩ (.int .i64 (y4 - n))) (.slice A5 n5 c5) (woN (l.take k) (x1, x2, x3) n) := (own.kp kb).owS _ fxs.size fun q hq hl => fxs.block q hl (hbo q hq)
        go_upto_region 8 with (fail)
        generalize wb.setCell ⟨bb, 3, none⟩ (.int .i64 (y4 - n)) = wc at *
        clear own f3 d0 d1 d2 d3 BY X0 X1 X2 fxs hbl
        have own := own2
        have kwo := Kp.refl wc
        have d0 := BY2.cell (j := 0) rfl
        have d1 := BY2.cell (j := 1) rfl
        have d2 := BY2.cell (j := 2) rfl
        have d3 := BY2.cell (j := 3) rfl
        have hbl := BY2.lt (by simp)
        by_cases hp : 0 < y4 - n
        · rw [if_pos hp] at HN
          have e1 : decide (0 < y4 - n) = true := decide_eq_true hp
          have hsrc := Sl.one (R := Pl encNd) wc [.int .i64 y1, .int .i64 y2, .int .i64 y3, .int .i64 (y4 - n)] 41 4 ((y1, y2, y3), y4 - n) rfl rfl
          have ka := (ks).alloc (.cells #[.int .i64 y1, .int .i64 y2, .int .i64 y3, .int .i64 (y4 - n)] 41)
          have ownA := own.kp (kwo.trans ((Kp.refl wc).alloc (.cells #[.int .i64 y1, .int .i64 y2, .int .i64 y3, .int .i64 (y4 - n)] 41)))
          have hzA := ka.size
          have hgej := own.ge
          replace hgej := hid hgej
          go_wp2_with (at_builtin; refine wpl_append_flat rfl (.tmp 33) (.tmp 35) rfl slnd encNd_len encNd_one rfl ownA rfl hsrc hroom.out.1 hroom.out.2 hzA ?_; intro v1 w11 own1 hgrow1 hat1 hnil1; rw [← (HN).out] at own1; have hkN := hid (ka.grown hgrow1 hgej.out); clear hgrow1)
          go_roundw
          case rel => exact ⟨k + 1, hlt, by go_num, own1, hkN.out⟩
          case measure => exact br_meas hlt
        · rw [if_neg hp, List.append_nil] at HN
          have e1 : decide (0 < y4 - n) = false := decide_eq_false hp
          go_wp2_with fail
          go_roundw
          case rel => exact ⟨k + 1, hlt, by go_num, by rw [HN.out]; exact own, ks⟩
          case measure => exact br_meas hlt
      · rw [decide_eq_false he] at heq
        have hp : 0 < y4 := by omega
        rw [if_neg he, if_pos hp] at HN
        have e1 : decide (0 < y4) = true := decide_eq_true hp
        have ks := kr.trans kb
        have kwo := kb
        clear he f3
        have hsrc := Sl.one (R := Pl encNd) wb [.int .i64 y1, .int .i64 y2, .int .i64 y3, .int .i64 (y4)] 41 4 ((y1, y2, y3), y4) rfl rfl
        have ka := (ks).alloc (.cells #[.int .i64 y1, .int .i64 y2, .int .i64 y3, .int .i64 (y4)] 41)
        have ownA := own.kp (kwo.trans ((Kp.refl wb).alloc (.cells #[.int .i64 y1, .int .i64 y2, .int .i64 y3, .int .i64 (y4)] 41)))
        have hzA := ka.size
        have hgej := own.ge
        replace hgej := hid hgej
        go_wp2_with (at_builtin; refine wpl_append_flat rfl (.tmp 33) (.tmp 35) rfl slnd encNd_len encNd_one rfl ownA rfl hsrc hroom.out.1 hroom.out.2 hzA ?_; intro v1 w11 own1 hgrow1 hat1 hnil1; rw [← (HN).out] at own1; have hkN := hid (ka.grown hgrow1 hgej.out); clear hgrow1)
        go_roundw
        case rel => exact ⟨k + 1, hlt, by go_num, own1, hkN.out⟩
        case measure => exact br_meas hlt
    · have hkl : ¬ (k : Int) < (l.length : Int) := by omega
      have HE : Hid (woN (l.take k) (x1, x2, x3) n = woN l (x1, x2, x3) n) := hid (by rw [List.take_of_length_le (by omega)])
      rw [HE.out] at own
      go_wp2
      go_ret
      exact ⟨_, rfl, own.less (by rw [hxb.out]; exact hw0), k0.trans kr⟩
end Go.Proofs.Ytbcekihjcgnhkaa
