
/-
The reference of the broker: the end of a request: the walk. (under way)
-/
import Derived.Test.YtbcekihjcgnhkaaBrE
namespace Go.Proofs.Ytbcekihjcgnhkaa
set_option linter.unusedSimpArgs false
set_option linter.unusedVariables false
open Go.RowKit

set_option maxRecDepth 8000 in
set_option maxHeartbeats 4000000 in
theorem rRest41_any (X : Nat → Prop) (b : Bk) (va vh : Value) (w : World) (hR : RefX X w b va vh) :
    Calls Try.prog 23 #[.agg (refL b va vh).toArray] w fun e w' => Kp w w' ∧ ∃ va', e = .returned (.tuple #[.agg (refL (rest b).1 va' vh).toArray, askV (rest b).2.1 (.slice none 0 0), .bool (rest b).2.2]) ∧ RefX X w' (rest b).1 va' vh := by
  have hnum := hR.ok.num
  obtain ⟨A, c, A', c', e1, e2⟩ := hR.form
  subst e1 e2
  have HRE : Hid (rest b = if 1048576 ≤ b.num then (b, zAk, false) else ({ b with num := b.num + 1, own := none }, ⟨b.num + 1, (0, 0, 0, 0), []⟩, true)) := hid rfl
  have k1 := (Kp.refl w).alloc (.cells ((refL b (.slice A (lstO b.own).length c) (.slice A' b.n.toNat c'))).toArray 58)
  have B1 := Bx.new w ((refL b (.slice A (lstO b.own).length c) (.slice A' b.n.toNat c'))).toArray 58
  have z1 := World.size_alloc w (.cells ((refL b (.slice A (lstO b.own).length c) (.slice A' b.n.toNat c'))).toArray 58)
  have k2 := (Kp.refl (w.alloc (.cells ((refL b (.slice A (lstO b.own).length c) (.slice A' b.n.toNat c'))).toArray 58))).alloc (.cells ([.int .i64 0, .int .i64 0, .int .i64 0, .bool false, .int .i64 0, .int .i64 0, .int .i64 0, .int .i64 0, .slice none 0 0, .slice none 0 0]).toArray 58)
  have B2' := Bx.new (w.alloc (.cells ((refL b (.slice A (lstO b.own).length c) (.slice A' b.n.toNat c'))).toArray 58)) ([.int .i64 0, .int .i64 0, .int .i64 0, .bool false, .int .i64 0, .int .i64 0, .int .i64 0, .int .i64 0, .slice none 0 0, .slice none 0 0]).toArray 58
  have z2 := World.size_alloc (w.alloc (.cells ((refL b (.slice A (lstO b.own).length c) (.slice A' b.n.toNat c'))).toArray 58)) (.cells ([.int .i64 0, .int .i64 0, .int .i64 0, .bool false, .int .i64 0, .int .i64 0, .int .i64 0, .int .i64 0, .slice none 0 0, .slice none 0 0]).toArray 58)
  have k3 := (Kp.refl ((w.alloc (.cells ((refL b (.slice A (lstO b.own).length c) (.slice A' b.n.toNat c'))).toArray 58)).alloc (.cells ([.int .i64 0, .int .i64 0, .int .i64 0, .bool false, .int .i64 0, .int .i64 0, .int .i64 0, .int .i64 0, .slice none 0 0, .slice none 0 0]).toArray 58))).alloc (.cells ([.int .i64 0, .int .i64 0, .int .i64 0, .int .i64 0, .int .i64 0, .slice none 0 0]).toArray 29)
  have B3 := Bx.new ((w.alloc (.cells ((refL b (.slice A (lstO b.own).length c) (.slice A' b.n.toNat c'))).toArray 58)).alloc (.cells ([.int .i64 0, .int .i64 0, .int .i64 0, .bool false, .int .i64 0, .int .i64 0, .int .i64 0, .int .i64 0, .slice none 0 0, .slice none 0 0]).toArray 58)) ([.int .i64 0, .int .i64 0, .int .i64 0, .int .i64 0, .int .i64 0, .slice none 0 0]).toArray 29
  go_enter Try.func23, Try.ntmps23
  go_upto_region 1 with (fail)
  generalize w.alloc (.cells ((refL b (.slice A (lstO b.own).length c) (.slice A' b.n.toNat c'))).toArray 58) = wa at *
  generalize wa.alloc (.cells ([.int .i64 0, .int .i64 0, .int .i64 0, .bool false, .int .i64 0, .int .i64 0, .int .i64 0, .int .i64 0, .slice none 0 0, .slice none 0 0]).toArray 58) = wb at *
  generalize wb.alloc (.cells ([.int .i64 0, .int .i64 0, .int .i64 0, .int .i64 0, .int .i64 0, .slice none 0 0]).toArray 29) = wc at *
  obtain ⟨x0, hx0⟩ : ∃ x0, x0 = w.heap.size := ⟨_, rfl⟩
  obtain ⟨tB, htB⟩ : ∃ tB, tB = x0 + 1 := ⟨_, rfl⟩
  obtain ⟨tC, htC⟩ : ∃ tC, tC = tB + 1 := ⟨_, rfl⟩
  rw [← hx0, ← htB] at z1
  rw [z1, ← htC] at z2
  rw [← hx0] at B1 ⊢
  rw [z1] at B2'
  rw [z2] at B3
  rw [← htB, ← htC]
  try simp only [List.toList_toArray] at B1 B2' B3
  have hl1 := B1.lt (by simp)
  have hl2 := B2'.lt (by simp)
  have hl3 := B3.lt (by simp)
  have B1c := (B1.kp k2 hl1).kp k3 (Nat.lt_of_lt_of_le hl1 k2.size)
  have B2c := B2'.kp k3 hl2
  have k03 := k1.trans (k2.trans k3)
  have hne : x0 < tB ∧ tB < tC ∧ w.heap.size ≤ x0 := by omega
  replace hx0 := hid hx0
  replace htB := hid htB
  replace htC := hid htC
  replace z1 := hid z1
  replace z2 := hid z2
  clear B1 B2' k1 k2 k3 hl1 hl2
  have hl1 := B1c.lt (by simp)
  have hl2 := B2c.lt (by simp)
  by_cases hb : b.num = 1048576
  · have HF : Hid (rest b = (b, zAk, false)) := hid (by rw [HRE.out, if_pos (by omega)])
    have y2 := B1c.cell (j := 2) rfl
    have eb : (b.num == 1048576) = true := by rw [hb]; rfl
    obtain ⟨L, hL⟩ : ∃ L : List Value, Hid (L = (refL b (.slice A (lstO b.own).length c) (.slice A' b.n.toNat c'))) := ⟨_, hid rfl⟩
    rw [← hL.out] at B1c
    have rL := B1c.range
    have lL : L.length = 10 := by rw [hL.out]; rfl
    have iL : (Try.prog.info? 58).map (·.size) = some L.length := by rw [lL]; kernel_rfl
    have oL : ∀ u ∈ L, u.oneCell' = true := by rw [hL.out]; simp [Value.oneCell']
    have tL : wc.there tB 0 L.toArray.size := by simpa [lL] using B2c.thereAt 0 10 (by simp)
    have iL2 : (Try.prog.info? 58).map (·.size) = some L.toArray.size := by simpa using iL
    have E1 := B2c.all (cs := L) (by rw [lL]; rfl)
    have kS1 : Fx (fun q => q = tB) wc (wc.setCells tB 0 L) := (Kg.setCells (.inl rfl) _ 0 (Kg.refl wc tB)).fx (.inl rfl)
    have C1 := B3.fx kS1 hl3 (fun e => by omega)
    have k1w : Kp w (wc.setCells tB 0 L) := Kp.setCells (by omega) _ 0 _ k03
    have hnb := hid hnum
    clear HRE hnum
    go_upto_region 2 with (fail)
    go_wp2_with (first | (refine wpList_load_mid rfl 58 (.tmp 1) rfl x0 0 rfl L _ rL Try.underlying58 rfl iL ?_) | (refine wpList_store_mid rfl 58 (.tmp 2) (.tmp 8) rfl tB 0 L.toArray rfl rfl tL iL2 (all_oneCell_toArray oL) ?_; rw [List.toList_toArray]; generalize wc.setCells tB 0 L = w1 at *; have z0 := C1.cell (j := 0) rfl; have z1' := C1.cell (j := 1) rfl; have z2' := C1.cell (j := 2) rfl; have z3 := C1.cell (j := 3) rfl; have z4 := C1.cell (j := 4) rfl; have z5 := C1.cell (j := 5) rfl; have r0 := C1.free (j := 0) (by simp); have r1 := C1.free (j := 1) (by simp); have r2 := C1.free (j := 2) (by simp); have r3 := C1.free (j := 3) (by simp); have r4 := C1.free (j := 4) (by simp); have r5 := C1.free (j := 5) (by simp); have hc1 := C1.lt (by simp)) | fail)
    try simp only [Exit.inBlock, Exit.then]
    have E2 := C1.all (cs := [.int .i64 0, .int .i64 0, .int .i64 0, .int .i64 0, .int .i64 0, .slice none 0 0]) rfl
    have kS2 : Fx (fun q => q = tC) w1 (w1.setCells tC 0 [.int .i64 0, .int .i64 0, .int .i64 0, .int .i64 0, .int .i64 0, .slice none 0 0]) := (Kg.setCells (.inl rfl) _ 0 (Kg.refl w1 tC)).fx (.inl rfl)
    have E3 := E1.fx kS2 (E1.lt (by omega)) (fun e => by omega)
    have kE : Kp w (w1.setCells tC 0 [.int .i64 0, .int .i64 0, .int .i64 0, .int .i64 0, .int .i64 0, .slice none 0 0]) := Kp.setCells (by omega) _ 0 _ k1w
    change bodyPost _ _ _ _ _ (w1.setCells tC 0 [.int .i64 0, .int .i64 0, .int .i64 0, .int .i64 0, .int .i64 0, .slice none 0 0])
    refine bodyPost_ret (results_cell2_tmp rfl _ _ tB tC L [.int .i64 0, .int .i64 0, .int .i64 0, .int .i64 0, .int .i64 0, .slice none 0 0] _ _ rfl rfl E3.range E2.range Try.underlying58 rfl iL Try.underlying29 rfl (by kernel_rfl)) rfl ?_
    rw [HF.out]
    exact ⟨kE, .slice A (lstO b.own).length c, by rw [hL.out]; rfl, hR.kp kE⟩
  · have eb : (b.num == 1048576) = false := by simpa using hb
    have HF : Hid (rest b = ({ b with num := b.num + 1, own := none }, ⟨b.num + 1, (0, 0, 0, 0), []⟩, true)) := hid (by rw [HRE.out, if_neg (by omega)])
    have hnb : 0 ≤ b.num ∧ b.num + 1 ≤ 1048576 := by omega
    have y0 := (B1c).cell (j := 0) rfl
    have y1 := (B1c).cell (j := 1) rfl
    have y2 := (B1c).cell (j := 2) rfl
    have y3 := (B1c).cell (j := 3) rfl
    have y4 := (B1c).cell (j := 4) rfl
    have y5 := (B1c).cell (j := 5) rfl
    have y6 := (B1c).cell (j := 6) rfl
    have y7 := (B1c).cell (j := 7) rfl
    have y8 := (B1c).cell (j := 8) rfl
    have y9 := (B1c).cell (j := 9) rfl
    have f0 := (B1c).free (j := 0) (by simp)
    have f1 := (B1c).free (j := 1) (by simp)
    have f2 := (B1c).free (j := 2) (by simp)
    have f3 := (B1c).free (j := 3) (by simp)
    have f4 := (B1c).free (j := 4) (by simp)
    have f5 := (B1c).free (j := 5) (by simp)
    have f6 := (B1c).free (j := 6) (by simp)
    have f7 := (B1c).free (j := 7) (by simp)
    have f8 := (B1c).free (j := 8) (by simp)
    have f9 := (B1c).free (j := 9) (by simp)
    have S2 := B1c.set (j := 2) (by simp) (.int .i64 (b.num + 1))
    have S3 := S2.set (j := 3) (by simp) (.bool false)
    have S4 := S3.set (j := 4) (by simp) (.int .i64 0)
    have S5 := S4.set (j := 5) (by simp) (.int .i64 0)
    have S6 := S5.set (j := 6) (by simp) (.int .i64 0)
    have S7 := S6.set (j := 7) (by simp) (.int .i64 0)
    have S8 := S7.set (j := 8) (by simp) (.slice none 0 0)
    simp only [List.set_cons_zero, List.set_cons_succ] at S8
    have kS := (((((((Kg.refl wc x0).set (p := ⟨x0, 2, none⟩) (.inl rfl) (.int .i64 (b.num + 1))).set (p := ⟨x0, 3, none⟩) (.inl rfl) (.bool false)).set (p := ⟨x0, 4, none⟩) (.inl rfl) (.int .i64 0)).set (p := ⟨x0, 5, none⟩) (.inl rfl) (.int .i64 0)).set (p := ⟨x0, 6, none⟩) (.inl rfl) (.int .i64 0)).set (p := ⟨x0, 7, none⟩) (.inl rfl) (.int .i64 0)).set (p := ⟨x0, 8, none⟩) (.inl rfl) (.slice none 0 0)
    clear S2 S3 S4 S5 S6 S7 HRE hnum hb
    go_upto_region 4 with (fail)
    generalize ((((((wc.setCell ⟨x0, 2, none⟩ (.int .i64 (b.num + 1))).setCell ⟨x0, 3, none⟩ (.bool false)).setCell ⟨x0, 4, none⟩ (.int .i64 0)).setCell ⟨x0, 5, none⟩ (.int .i64 0)).setCell ⟨x0, 6, none⟩ (.int .i64 0)).setCell ⟨x0, 7, none⟩ (.int .i64 0)).setCell ⟨x0, 8, none⟩ (.slice none 0 0) = wd at *
    clear y0 y1 y2 y3 y4 y5 y6 y7 y8 y9 f0 f1 f2 f3 f4 f5 f6 f7 f8 f9
    have fxd : Fx (fun q => q = x0) wc wd := kS.fx (.inl rfl)
    have B2d := B2c.fx fxd hl2 (fun e => by omega)
    have B3d := B3.fx fxd hl3 (fun e => by omega)
    have k0d : Kp w wd := Kg.to_kp k03 kS (by omega)
    obtain ⟨L, hL⟩ : ∃ L : List Value, Hid (L = refL (rest b).1 (.slice none 0 0) (.slice A' b.n.toNat c')) := ⟨_, hid rfl⟩
    have hLS : L = [.int .i64 b.n, .int .i64 b.i, .int .i64 (b.num + 1), .bool false, .int .i64 0, .int .i64 0, .int .i64 0, .int .i64 0, .slice none 0 0, .slice A' b.n.toNat c'] := by rw [hL.out, HF.out]; rfl
    have y2 := S8.cell (j := 2) rfl
    rw [← hLS] at S8
    have rL := S8.range
    have lL : L.length = 10 := by rw [hLS]; rfl
    have iL : (Try.prog.info? 58).map (·.size) = some L.length := by rw [lL]; kernel_rfl
    have oL : ∀ u ∈ L, u.oneCell' = true := by rw [hLS]; simp [Value.oneCell']
    have iL2 : (Try.prog.info? 58).map (·.size) = some L.toArray.size := by simpa using iL
    have hlx := S8.lt (by omega)
    have hlB := B2d.lt (by simp)
    replace hLS := hid hLS
    have hrk := hid (fun W (h : Fx (fun q => q = tB) wd W) => (S8.fx h hlx (fun e => by omega)).range)
    have hx02 : ¬ x0 = tB := by omega
    refine wp_region_growC 4 (fun q => q = tB) [] 5 22 [G2.eqv (.agg L.toArray), G2.eqv (.pointer (some ⟨x0, 2, none⟩)), G2.eqv (.int .i64 (b.num + 1)), G2.eqv (.agg #[.int .i64 (b.num + 1), .int .i64 0, .int .i64 0, .int .i64 0, .int .i64 0, .slice none 0 0]), (fun _ W => Bx W tB L)] (by kernel_rfl) (by kernel_rfl) rfl (by omega) (fun _ _ _ _ _ h => h) (stabC_cons (stabG_eq _) (stabC_cons (stabG_eq _) (stabC_cons (stabG_eq _) (stabC_cons (stabG_eq _) (stabC_here (stabG_nil)))))) (fun v W1 W2 h k => h.keep (k.block (h.lt (by omega)))) ?_ ?_ ?_
    · intro i0 hi0
      have hi' : i0 = 0 ∨ i0 = 1 ∨ i0 = 2 ∨ i0 = 3 ∨ i0 = 4 := by omega
      rcases hi' with rfl | rfl | rfl | rfl | rfl
      · intro a w' hk hF hD K hK
        have hk : Fx (fun q => q = tB) _ w' := hk
        simp only [List.getElem?_toArray, List.getElem?_cons_zero, List.getElem?_cons_succ, Option.map_some, Option.getD_some]
        have h1 : a.tmps[1]?.getD undef = .pointer (some ⟨x0, 0, none⟩) := hF 1 (by kernel_rfl)
        clear hF hD
        rw [if_pos (by simp [Region.wanted])]
        refine wp_load_mid 58 (.tmp 1) rfl x0 0 ((eval_tmp _ _).trans h1) L _ (hrk.out _ hk) Try.underlying58 rfl iL ?_
        exact hK.out _ _ (Kp.refl _) rfl
      · intro a w' hk hF hD K hK
        have hk : Fx (fun q => q = tB) _ w' := hk
        simp only [List.getElem?_toArray, List.getElem?_cons_zero, List.getElem?_cons_succ, Option.map_some, Option.getD_some]
        have h1 : a.tmps[1]?.getD undef = .pointer (some ⟨x0, 0, none⟩) := hF 1 (by kernel_rfl)
        clear hF hD
        go_simp
        exact hK.out _ _ (Kp.refl _) rfl
      · intro a w' hk hF hD K hK
        have hk : Fx (fun q => q = tB) _ w' := hk
        simp only [List.getElem?_toArray, List.getElem?_cons_zero, List.getElem?_cons_succ, Option.map_some, Option.getD_some]
        have h19 : a.tmps[19]?.getD undef = .pointer (some ⟨x0, 2, none⟩) := hD 1 (by kernel_rfl)
        clear hF hD
        have z0 := hk.cellS y2 hx02
        go_simp
        exact hK.out _ _ (Kp.refl _) rfl
      · intro a w' hk hF hD K hK
        have hk : Fx (fun q => q = tB) _ w' := hk
        simp only [List.getElem?_toArray, List.getElem?_cons_zero, List.getElem?_cons_succ, Option.map_some, Option.getD_some]
        have h20 : a.tmps[20]?.getD undef = .int .i64 (b.num + 1) := hD 2 (by kernel_rfl)
        clear hF hD
        go_simp
        exact hK.out _ _ (Kp.refl _) rfl
      · intro a w' hk hF hD K hK
        have hk : Kp _ w' := hk
        simp only [List.getElem?_toArray, List.getElem?_cons_zero, List.getElem?_cons_succ, Option.map_some, Option.getD_some]
        have h2 : a.tmps[2]?.getD undef = .pointer (some ⟨tB, 0, none⟩) := hF 2 (by kernel_rfl)
        have h18 : a.tmps[18]?.getD undef = .agg L.toArray := hD 0 (by kernel_rfl)
        clear hF hD
        rw [if_pos (by simp [Region.wanted])]
        have hBw := B2d.kp hk hlB
        refine wp_store_mid 58 (.tmp 2) (.tmp 18) rfl tB 0 L.toArray ((eval_tmp _ _).trans h2) ((eval_tmp _ _).trans h18) (by simpa [lL] using hBw.thereAt 0 10 (by simp)) iL2 (all_oneCell_toArray oL) ?_
        exact hK.out undef _ ((Kg.setCells (g := tB) (.inl rfl) L 0 (Kg.refl w' tB)).fx (.inl rfl)) (hBw.all (cs := L) (by rw [lL]; rfl))
    · exact fun i0 hi0 => by simp at hi0
    intro v w9 k9 hv
    have v3 : v 3 = .agg #[.int .i64 (b.num + 1), .int .i64 0, .int .i64 0, .int .i64 0, .int .i64 0, .slice none 0 0] := hv 3 (by omega)
    have v4 : (fun _ W => Bx W tB L) (v 4) w9 := hv 4 (by omega)
    clear hv
    simp only [G2.growPut, G2.gSlot, List.getElem?_toArray, List.getElem?_cons_zero, List.getElem?_cons_succ, Option.bind_some, List.setIfInBounds_toArray, List.set_cons_zero, List.set_cons_succ, List.drop_succ_cons, List.drop_zero, v3]
    have C9 := B3d.fx k9 (B3d.lt (by simp)) (fun e => by omega)
    have z0 := (C9).cell (j := 0) rfl
    have z1 := (C9).cell (j := 1) rfl
    have z2 := (C9).cell (j := 2) rfl
    have z3 := (C9).cell (j := 3) rfl
    have z4 := (C9).cell (j := 4) rfl
    have z5 := (C9).cell (j := 5) rfl
    have r0 := (C9).free (j := 0) (by simp)
    have r1 := (C9).free (j := 1) (by simp)
    have r2 := (C9).free (j := 2) (by simp)
    have r3 := (C9).free (j := 3) (by simp)
    have r4 := (C9).free (j := 4) (by simp)
    have r5 := (C9).free (j := 5) (by simp)
    have hc9 := C9.lt (by simp)
    have k0w9 : Kp w w9 := ((k0d.fx (fun q => q = tB)).trans k9).kp (fun q hq e => by omega)
    have hL4 : 0 < L.length := by omega
    clear hrk y2
    go_wp2
    try simp only [Exit.inBlock, Exit.then]
    have E2 := C9.all (cs := [.int .i64 (b.num + 1), .int .i64 0, .int .i64 0, .int .i64 0, .int .i64 0, .slice none 0 0]) rfl
    have kS2 : Fx (fun q => q = tC) w9 (w9.setCells tC 0 [.int .i64 (b.num + 1), .int .i64 0, .int .i64 0, .int .i64 0, .int .i64 0, .slice none 0 0]) := (Kg.setCells (.inl rfl) _ 0 (Kg.refl w9 tC)).fx (.inl rfl)
    have E3 := v4.fx kS2 (v4.lt hL4) (fun e => by omega)
    have kE : Kp w (w9.setCells tC 0 [.int .i64 (b.num + 1), .int .i64 0, .int .i64 0, .int .i64 0, .int .i64 0, .slice none 0 0]) := Kp.setCells (by omega) _ 0 _ k0w9
    change bodyPost _ _ _ _ _ (w9.setCells tC 0 [.int .i64 (b.num + 1), .int .i64 0, .int .i64 0, .int .i64 0, .int .i64 0, .slice none 0 0])
    refine bodyPost_ret (results_cell2_tmp rfl _ _ tB tC L [.int .i64 (b.num + 1), .int .i64 0, .int .i64 0, .int .i64 0, .int .i64 0, .slice none 0 0] _ _ rfl rfl E3.range E2.range Try.underlying58 rfl iL Try.underlying29 rfl (by kernel_rfl)) rfl ?_
    refine ⟨kE, .slice none 0 0, by rw [hL.out, HF.out]; rfl, ?_⟩
    rw [HF.out]
    have hR' := hR.kp kE
    refine ⟨fun w' _ => Sl.nil _ _ _, hR'.heard, ?_⟩
    have ok := hR.ok
    exact ⟨ok.n1, ok.i1, by dsimp only; omega, fun p l h => (by cases h), ok.key⟩
end Go.Proofs.Ytbcekihjcgnhkaa
