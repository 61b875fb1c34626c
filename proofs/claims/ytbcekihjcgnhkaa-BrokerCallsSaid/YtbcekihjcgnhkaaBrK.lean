
/-
The reference of the broker: the requests that are not answered: the walk.
-/
import Derived.Test.YtbcekihjcgnhkaaBrJ
namespace Go.Proofs.Ytbcekihjcgnhkaa
set_option linter.unusedSimpArgs false
set_option linter.unusedVariables false
open Go.RowKit

theorem map_a_at {L : List AV} {H : Int → Option Ak} {n x : Nat} (h : L.map (·.a) = hdL H n) (hx : x < n) : ∃ hl : x < L.length, L[x].a = hd H x := by
  have e : L.length = n := by have := congrArg List.length h; rwa [List.length_map, hdL_len] at this
  refine ⟨by omega, ?_⟩
  have h2 := hdL_at H hx
  have h3 : (L.map (·.a))[x]'(by rw [List.length_map]; omega) = hd H x := by rw [← h2]; congr 1
  rw [List.getElem_map] at h3
  exact h3
/-- the requests in order, with their headers -/
def pickA (L : List AV) (out : List Nat) : List AV := out.map fun x => L.getD x ⟨zAk, none, 0, 0⟩
theorem pickA_len (L : List AV) (out : List Nat) : (pickA L out).length = out.length := by unfold pickA; simp
theorem pickA_snoc {L : List AV} {out : List Nat} {k : Nat} (hk : k < out.length) (hx : out[k] < L.length) : pickA L (out.take (k + 1)) = pickA L (out.take k) ++ [L[out[k]]] := by
  unfold pickA
  rw [List.take_succ_eq_append_getElem hk, List.map_append]
  simp [List.getD_eq_getElem?_getD, hx]
theorem pickA_mem {L : List AV} {out : List Nat} (h : ∀ x ∈ out, x < L.length) {y : AV} (hy : y ∈ pickA L out) : y ∈ L := by
  unfold pickA at hy
  obtain ⟨x, hx, rfl⟩ := List.mem_map.1 hy
  have := h x hx
  rw [List.getD_eq_getElem?_getD, List.getElem?_eq_getElem this]
  exact List.getElem_mem this
theorem pickA_a {L : List AV} {H : Int → Option Ak} {n : Nat} {out : List Nat} (hL : L.map (·.a) = hdL H n) (h : ∀ x ∈ out, x < n) : (pickA L out).map (·.a) = out.map (hd H) := by
  unfold pickA
  rw [List.map_map]
  apply List.map_congr_left
  intro x hx
  obtain ⟨hl, e⟩ := map_a_at hL (h x hx)
  show (L.getD x _).a = _
  rw [List.getD_eq_getElem?_getD, List.getElem?_eq_getElem hl]
  exact e
theorem av_cells {w : World} {A : Option Addr} {n c : Nat} {l : List AV} (h : Sl (Pl encAV) 6 w (.slice A n c) l) {k : Nat} (hk : k < l.length) :
    ∃ b o, A = some ⟨b, o, none⟩ ∧ b < w.heap.size ∧ w.cell? ⟨b, o + k * 6, none⟩ = some (.int .i64 l[k].a.num) ∧ w.cell? ⟨b, o + k * 6 + 1, none⟩ = some (.int .i64 l[k].a.pri.1) ∧
      w.cell? ⟨b, o + k * 6 + 2, none⟩ = some (.int .i64 l[k].a.pri.2.1) ∧ w.cell? ⟨b, o + k * 6 + 3, none⟩ = some (.int .i64 l[k].a.pri.2.2.1) ∧ w.cell? ⟨b, o + k * 6 + 4, none⟩ = some (.int .i64 l[k].a.pri.2.2.2) ∧ w.cell? ⟨b, o + k * 6 + 5, none⟩ = some l[k].v := by
  obtain ⟨b, o, cs, hA, had, hcs, hc, hr⟩ := h.at_ hk
  unfold Pl encAV askL at hr
  subst hr
  exact ⟨b, o, hA, had, by simpa using hc 0 _ rfl, hc 1 _ rfl, hc 2 _ rfl, hc 3 _ rfl, hc 4 _ rfl, hc 5 _ rfl⟩
/-- a slice of one request -/
def oneAV (y : AV) (v : Value) (w : World) : Prop := ∃ p : Nat, v = .slice (some ⟨p, 0, none⟩) 1 1 ∧ Sl (Pl encAV) 6 w (.slice (some ⟨p, 0, none⟩) 1 1) [y]
theorem stab_oneAV (y : AV) : G2.Stab (oneAV y) := fun _ _ _ ⟨p, e, h⟩ k => ⟨p, e, h.keep (pl_stable _) k⟩
set_option maxRecDepth 8000 in
set_option maxHeartbeats 8000000 in
theorem rRequests_any (X : Nat → Prop) (b : Bk) (va vh : Value) (w : World) (hR : RefX X w b va vh) :
    Calls Try.prog 29 #[.agg (refL b va vh).toArray] w fun e w' => ∃ v, e = .returned v ∧ Aks w' v (reqL b) ∧ Kp w w' := by
  have hok := hR.ok
  have hn1 := hR.ok.n1
  obtain ⟨LV, hLm, hLs, hLn⟩ := hR.heard
  obtain ⟨A, c, A', c', e1, e2⟩ := hR.form
  subst e1 e2
  have hR0 := hid hR
  obtain ⟨n, hnn⟩ : ∃ n : Nat, b.n.toNat = n := ⟨_, rfl⟩
  rw [hnn] at hLm
  have hn5 : n ≤ 5 := by omega
  have k1 := (Kp.refl w).alloc (.cells ((refL b (.slice A (lstO b.own).length c) (.slice A' b.n.toNat c'))).toArray 58)
  have B1 := Bx.new w ((refL b (.slice A (lstO b.own).length c) (.slice A' b.n.toNat c'))).toArray 58
  replace hnn := hid hnn
  clear hR hn1
  go_enter Try.func29, Try.ntmps29
  go_upto_region 1 with (fail)
  generalize w.alloc (.cells ((refL b (.slice A (lstO b.own).length c) (.slice A' b.n.toNat c'))).toArray 58) = wa at *
  obtain ⟨x0, hx0⟩ : ∃ x0, x0 = w.heap.size := ⟨_, rfl⟩
  rw [← hx0] at B1 ⊢
  try simp only [List.toList_toArray] at B1
  have hl1 := B1.lt (by simp)
  replace hx0 := hid hx0
  have hE0 := Own.lit (base := wa.heap.size) (e := 29) (size := 6) encAV wa #[] [] (Nat.le_refl _) (by simp) rfl rfl
  have kA0 := (Kp.refl wa).alloc (.cells #[] 29)
  have hza := World.size_alloc wa (.cells #[] 29)
  have B2 := B1.kp kA0 hl1
  go_upto_region 2 with (fail)
  generalize wa.alloc (.cells #[] 29) = wb at *
  obtain ⟨LB, hLB⟩ : ∃ LB : List Value, Hid (LB = (refL b (.slice A (lstO b.own).length c) (.slice A' b.n.toNat c'))) := ⟨_, hid rfl⟩
  have y9 := B2.cell (j := 9) rfl
  rw [← hLB.out] at B2
  have rL := B2.range
  have lL : LB.length = 10 := by rw [hLB.out]; rfl
  have iL : (Try.prog.info? 58).map (·.size) = some LB.length := by rw [lL]; kernel_rfl
  have kb0 := k1.trans kA0
  have HO := rOrder_any X b _ _ wb (hR0.out.kp kb0)
  rw [← hLB.out] at HO
  replace HO := hid HO
  go_wp2_with (first | (refine wpList_load_mid rfl 58 (.tmp 1) rfl x0 0 rfl LB _ rL Try.underlying58 rfl iL ?_) | fail)
  refine HO.out.mono ?_
  rintro e w2 ⟨v2, out, rfl, ownO, hOr, k2⟩
  have hol : out.length ≤ 5 := by
    have h1 := congrArg List.length (hOr.done hok)
    rw [List.length_map] at h1
    have := reqL_len hok
    omega
  have hon := hid (fun x (hx : x ∈ out) => show x < n by rw [← hnn.out]; exact ((hOr.mem x).1 hx).1)
  have hLl := hid (show LV.length = n by have := congrArg List.length hLm; rwa [List.length_map, hdL_len] at this)
  obtain ⟨A2, c2, rfl, -, hc2⟩ := ownO.form
  obtain ⟨m, hm⟩ : ∃ m, m = out.length := ⟨_, rfl⟩
  rw [natI_len, ← hm] at ownO ⊢
  rw [← hm] at hol
  replace hm := hid hm
  have B3 := B2.kp k2 (B2.lt (by omega))
  have hl3 := B3.lt (by omega)
  have hE2 := hE0.kp k2
  have ka2 := kA0.trans k2
  have hbz : wb.heap.size ≤ w2.heap.size := k2.size
  have hap0 : ∀ q, (Value.slice A2 m c2).ownBlock = some q → (Value.slice (some ⟨wa.heap.size, 0, none⟩) 0 0).ownBlock ≠ some q := fun q hq e => by
    have h1 := ownO.ge q hq
    have h2 := hza
    simp only [Value.ownBlock, Option.some.injEq] at e
    omega
  clear rL y9 kb0
  go_wp2_with fail
  go_loopw [3, 5] (fun v i wr => ∃ k : Nat, k ≤ m ∧ i = .int .i64 (k : Int) ∧ Own encAV 29 6 wa.heap.size wr v (pickA LV (out.take k)) ∧ Kp wa wr ∧ Own encInt 3 1 wb.heap.size wr (.slice A2 m c2) (natI out) ∧ (∀ q, (Value.slice A2 m c2).ownBlock = some q → v.ownBlock ≠ some q)) (fun _ i _ => m - (intOf i).toNat)
  case atStart => exact ⟨0, Nat.zero_le _, rfl, by rw [List.take_zero]; exact hE2, ka2, ownO, hap0⟩
  case round =>
    clear hE2 ka2 ownO hap0
    obtain ⟨k, hk, rfl, own, kr, ownO, hap⟩ := hrel
    obtain ⟨wo, rfl⟩ : ∃ wo : World, wo = wr := ⟨_, rfl⟩
    have B4 := B1.kp kr hl1
    have y9 := B4.cell (j := 9) (u := .slice A' b.n.toNat c') rfl
    by_cases hlt : k < m
    · have hkl : (k : Int) < (m : Int) := by omega
      have hk0 : (0 : Int) ≤ (k : Int) := by omega
      have hko : k < out.length := by rw [← hm.out]; exact hlt
      obtain ⟨g2, o2, rfl, hg2, c0⟩ := int_intCell (ownO.sl encInt_len) (k := k) (by rw [natI_len]; exact hko)
      rw [natI_at hko] at c0
      have hokL : out[k] < LV.length := by rw [hLl.out]; exact hon.out _ (List.getElem_mem _)
      have hsn := hid (pickA_snoc (L := LV) hko hokL)
      obtain ⟨x, hx⟩ : ∃ x, x = out[k] := ⟨_, rfl⟩
      rw [← hx] at c0
      have hxn : x < n := by rw [hx]; exact hon.out _ (List.getElem_mem _)
      have hxL : x < LV.length := by rw [hLl.out]; exact hxn
      obtain ⟨g, o, hA', hg, i0, i1, i2, i3, i4, i5⟩ := av_cells (hLs.here.keep (pl_stable _) (k1.trans kr)) hxL
      obtain ⟨y, hy⟩ : ∃ y, y = LV[x] := ⟨_, rfl⟩
      have hyx : LV[out[k]]'hokL = y := by rw [hy]; congr 1; exact hx.symm
      rw [← hy] at i0 i1 i2 i3 i4 i5
      replace hyx := hid hyx
      replace hy := hid hy
      replace hx := hid hx
      obtain ⟨⟨num, ⟨p1, p2, p3, p4⟩, ns⟩, Ay, ny, cy⟩ := y
      dsimp only [AV.v] at i0 i1 i2 i3 i4 i5
      rw [hA', hnn.out] at y9
      replace hA' := hid hA'
      have hxnI : (x : Int) < (n : Int) := by omega
      have hx0I : (0 : Int) ≤ (x : Int) := by omega
      obtain ⟨A5, n5, c5, rfl⟩ := own.isSl
      go_upto_region 6 with (fail)
      refine G2.wp_region_growT Kp [] 10 27 (G2.pvL [G2.eqv (.slice A5 n5 c5), G2.eqv (.pointer (some ⟨x0, 9, none⟩)), G2.eqv (.slice (some ⟨g, o, none⟩) n c'), G2.eqv (.slice (some ⟨g2, o2, none⟩) m c2), G2.eqv (.int .i64 (k : Int)), G2.eqv (.pointer (some ⟨g2, o2 + k, none⟩)), G2.eqv (.int .i64 (x : Int)), G2.eqv (.pointer (some ⟨g, o + x * 6, none⟩)), G2.eqv (.agg #[.int .i64 num, .int .i64 p1, .int .i64 p2, .int .i64 p3, .int .i64 p4, .slice Ay ny cy]), (oneAV ⟨⟨num, (p1, p2, p3, p4), ns⟩, Ay, ny, cy⟩)]) (by kernel_rfl) (by kernel_rfl) rfl (fun x => Kp.refl x) (fun _ _ _ h k => h.trans k) (Kp.refl _).drew (by intro _ _ _ _ _ h; exact h) (G2.pvL_keep (G2.stabL_cons (G2.stab_eq _) (G2.stabL_cons (G2.stab_eq _) (G2.stabL_cons (G2.stab_eq _) (G2.stabL_cons (G2.stab_eq _) (G2.stabL_cons (G2.stab_eq _) (G2.stabL_cons (G2.stab_eq _) (G2.stabL_cons (G2.stab_eq _) (G2.stabL_cons (G2.stab_eq _) (G2.stabL_cons (G2.stab_eq _) (G2.stabL_cons (stab_oneAV _) (G2.stabL_nil)))))))))))) (G2.stepsT_cons 0 ?_ (G2.stepsT_cons 1 ?_ (G2.stepsT_cons 2 ?_ (G2.stepsT_cons 3 ?_ (G2.stepsT_cons 4 ?_ (G2.stepsT_cons 5 ?_ (G2.stepsT_cons 6 ?_ (G2.stepsT_cons 7 ?_ (G2.stepsT_cons 8 ?_ (G2.stepsT_cons 9 ?_ (G2.stepsT_nil _ _ _))))))))))) ?_ ?_
      · intro a w' hk hF hD K hK
        have h3 : a.tmps[3]?.getD undef = .slice A5 n5 c5 := hF 3 (by kernel_rfl)
        clear hF hD
        go_simp
        exact hK.out _ _ (Kp.refl _) rfl
      · intro a w' hk hF hD K hK
        have h1 : a.tmps[1]?.getD undef = .pointer (some ⟨x0, 0, none⟩) := hF 1 (by kernel_rfl)
        clear hF hD
        go_simp
        exact hK.out _ _ (Kp.refl _) rfl
      · intro a w' hk hF hD K hK
        have h16 : a.tmps[16]?.getD undef = .pointer (some ⟨x0, 9, none⟩) := hD 1 (by kernel_rfl)
        clear hF hD
        have z0 := hk.cellS y9
        go_simp
        exact hK.out _ _ (Kp.refl _) rfl
      · intro a w' hk hF hD K hK
        have h4 : a.tmps[4]?.getD undef = .slice (some ⟨g2, o2, none⟩) m c2 := hF 4 (by kernel_rfl)
        clear hF hD
        go_simp
        exact hK.out _ _ (Kp.refl _) rfl
      · intro a w' hk hF hD K hK
        have h5 : a.tmps[5]?.getD undef = .int .i64 (k : Int) := hF 5 (by kernel_rfl)
        clear hF hD
        go_simp
        exact hK.out _ _ (Kp.refl _) rfl
      · intro a w' hk hF hD K hK
        have h18 : a.tmps[18]?.getD undef = .slice (some ⟨g2, o2, none⟩) m c2 := hD 3 (by kernel_rfl)
        have h19 : a.tmps[19]?.getD undef = .int .i64 (k : Int) := hD 4 (by kernel_rfl)
        clear hF hD
        go_simp
        exact hK.out _ _ (Kp.refl _) rfl
      · intro a w' hk hF hD K hK
        have h20 : a.tmps[20]?.getD undef = .pointer (some ⟨g2, o2 + k, none⟩) := hD 5 (by kernel_rfl)
        clear hF hD
        have z0 := hk.cellS c0
        go_simp
        exact hK.out _ _ (Kp.refl _) rfl
      · intro a w' hk hF hD K hK
        have h17 : a.tmps[17]?.getD undef = .slice (some ⟨g, o, none⟩) n c' := hD 2 (by kernel_rfl)
        have h21 : a.tmps[21]?.getD undef = .int .i64 (x : Int) := hD 6 (by kernel_rfl)
        clear hF hD
        go_simp
        exact hK.out _ _ (Kp.refl _) rfl
      · intro a w' hk hF hD K hK
        have h22 : a.tmps[22]?.getD undef = .pointer (some ⟨g, o + x * 6, none⟩) := hD 7 (by kernel_rfl)
        clear hF hD
        have z0 := hk.cellS i0
        have z1 := hk.cellS i1
        have z2 := hk.cellS i2
        have z3 := hk.cellS i3
        have z4 := hk.cellS i4
        have z5 := hk.cellS i5
        go_simp
        exact hK.out _ _ (Kp.refl _) rfl
      · intro a w' hk hF hD K hK
        have h23 : a.tmps[23]?.getD undef = .agg #[.int .i64 num, .int .i64 p1, .int .i64 p2, .int .i64 p3, .int .i64 p4, .slice Ay ny cy] := hD 8 (by kernel_rfl)
        clear hF hD
        go_simp
        exact hK.out _ _ ((Kp.refl _).alloc _) ⟨_, rfl, Sl.one (R := Pl encAV) w' [.int .i64 num, .int .i64 p1, .int .i64 p2, .int .i64 p3, .int .i64 p4, .slice Ay ny cy] 29 6 _ rfl rfl⟩
      · exact fun i0 hi0 => by simp at hi0
      intro v w9 k9 hv
      have v0 : v 0 = .slice A5 n5 c5 := hv 0 (by omega)
      have v9 : (oneAV ⟨⟨num, (p1, p2, p3, p4), ns⟩, Ay, ny, cy⟩) (v 9) w9 := hv 9 (by omega)
      clear hv
      obtain ⟨p9, e9, hs9⟩ := v9
      simp only [G2.growPut, G2.gSlot, List.getElem?_toArray, List.getElem?_cons_zero, List.getElem?_cons_succ, Option.bind_some, List.setIfInBounds_toArray, List.set_cons_zero, List.set_cons_succ, List.drop_succ_cons, List.drop_zero, v0, e9]
      have own9 := own.kp k9
      have ownO9 := ownO.kp k9
      have kr9 := kr.trans k9
      have r1 : (pickA LV (out.take k)).length + 1 ≤ 4611686018427387904 := by rw [pickA_len, List.length_take]; omega
      have r2 : ((pickA LV (out.take k)).length + 1) * 64 ≤ 140737488355328 := by rw [pickA_len, List.length_take]; omega
      clear i0 i1 i2 i3 i4 i5 c0 y9
      go_wp2_with (at_builtin; (refine wpl_append_flat rfl (.tmp 15) (.tmp 24) rfl stask encAV_len encAV_one rfl own9 rfl hs9 r1 r2 kr9.size ?_; intro v11 w11 own11 hg11 hat11 hnil11; have k11 := kr9.grown hg11 own9.ge; have ownO11 := ownO9.owS w11 hg11.size (fun q hq hl => hg11.block q hl (fun e => hap q hq e.symm)); have hap11 : (∀ q, (Value.slice (some ⟨g2, o2, none⟩) m c2).ownBlock = some q → v11.ownBlock ≠ some q) := (fun q hq e => by rcases hat11 with h | h; exact hap q hq (h.symm.trans e); rw [h] at e; injection e with e; have := ownO9.blk_lt q hq; omega); clear hat11 hnil11))
      go_roundw
      case rel => exact ⟨k + 1, hlt, by go_num, by rw [hsn.out, hyx.out]; exact own11, k11, ownO11, hap11⟩
      case measure => exact br_meas hlt
    · have hkl : ¬ (k : Int) < (m : Int) := by omega
      have hE : Hid (pickA LV (out.take k) = pickA LV out) := hid (by rw [List.take_of_length_le (by have := hm.out; omega)])
      rw [hE.out] at own
      have hA := aks_of (own.sl encAV_len) (fun x hx => (hLn x (pickA_mem (fun y hy => by rw [hLl.out]; exact hon.out y hy) hx)).fx ((k1.trans kr).fx X) |>.here)
      rw [pickA_a hLm hon.out, hOr.done hok] at hA
      go_wp2
      go_ret
      exact ⟨_, rfl, hA, k1.trans kr⟩
end Go.Proofs.Ytbcekihjcgnhkaa
