
/-
The reference of the broker: the replicas whose requests have needs, in order: the walk.
-/
import Derived.Test.YtbcekihjcgnhkaaBrE
import Derived.Test.YtbcekihjcgnhkaaSlc
namespace Go.Proofs.Ytbcekihjcgnhkaa
set_option linter.unusedSimpArgs false
set_option linter.unusedVariables false
open Go.RowKit

abbrev natI (l : List Nat) : List Int := l.map fun (x : Nat) => (x : Int)
theorem natI_len (l : List Nat) : (natI l).length = l.length := by simp
theorem stIntO : SliceT Try.prog 50 3 1 8 := SliceT.mk' Try.underlying50 (z := .int .i64 0) (by kernel_rfl) rfl (by omega)
theorem natI_at {l : List Nat} {k : Nat} (h : k < l.length) : (natI l)[k]'(by rw [natI_len]; exact h) = ((l[k] : Nat) : Int) := by simp
theorem natI_ins (l : List Nat) (k r : Nat) : natI (l.take k) ++ [(r : Int)] ++ natI (l.drop k) = natI (l.take k ++ r :: l.drop k) := by simp
theorem int_intCell {w : World} {A : Option Addr} {n c : Nat} {l : List Int} (h : Ints w (.slice A n c) l) {k : Nat} (hk : k < l.length) : ∃ g o, A = some ⟨g, o, none⟩ ∧ g < w.heap.size ∧ w.cell? ⟨g, o + k, none⟩ = some (.int .i64 l[k]) := by
  obtain ⟨b, o, cs, hA, hb, hcs, hc, hr⟩ := h.at_ hk
  unfold Pl encInt at hr
  subst hr
  exact ⟨b, o, hA, hb, by simpa using hc 0 _ rfl⟩
theorem own_trunc {base e size n c m : Nat} {α : Type} {enc : α → List Value} {w : World} {A : Option Addr} {l : List α} (he : ∀ x, (enc x).length = size) (h : Own enc e size base w (.slice A n c) l) (hm : m ≤ n) : Own enc e size base w (.slice A m c) (l.take m) := by
  rcases h.2 with ⟨h0, h1⟩ | ⟨g, cap, cur, h1, h2, h3, h4, h5, h6, h7⟩
  · injection h0 with a1 a2 a3
    subst a1 a2 a3
    obtain rfl : m = 0 := by omega
    rw [List.take_zero]
    exact Own.nil _ _ _ _ _
  · injection h1 with a1 a2 a3
    subst a1 a3
    exact h.trunc he a2 hm
set_option maxRecDepth 8000 in
set_option maxHeartbeats 8000000 in
theorem rOrder_any (X : Nat → Prop) (b : Bk) (va vh : Value) (w : World) (hR : RefX X w b va vh) :
    Calls Try.prog 48 #[.agg (refL b va vh).toArray] w fun e w' => ∃ v out, e = .returned v ∧ Own encInt 3 1 w.heap.size w' v (natI out) ∧ OrI b b.n.toNat out ∧ Kp w w' := by
  have hok := hid hR.ok
  have hn1 := hR.ok.n1
  obtain ⟨A, c, A', c', e1, e2⟩ := hR.form
  subst e1 e2
  obtain ⟨n, hnb⟩ : ∃ n : Nat, b.n = (n : Int) := Int.eq_ofNat_of_zero_le (by omega)
  have hnn : b.n.toNat = n := by omega
  have hn5 : n ≤ 5 := by omega
  have HH := hid hR.heard.aks.here
  have k1 := (Kp.refl w).alloc (.cells ((refL b (.slice A (lstO b.own).length c) (.slice A' b.n.toNat c'))).toArray 58)
  have B1 := Bx.new w ((refL b (.slice A (lstO b.own).length c) (.slice A' b.n.toNat c'))).toArray 58
  have z1 := World.size_alloc w (.cells ((refL b (.slice A (lstO b.own).length c) (.slice A' b.n.toNat c'))).toArray 58)
  clear hR
  replace hnb := hid hnb
  replace hnn := hid hnn
  go_enter Try.func48, Try.ntmps48
  go_upto_region 1 with (fail)
  generalize w.alloc (.cells ((refL b (.slice A (lstO b.own).length c) (.slice A' b.n.toNat c'))).toArray 58) = wa at *
  obtain ⟨x0, hx0⟩ : ∃ x0, x0 = w.heap.size := ⟨_, rfl⟩
  rw [← hx0] at B1 z1 ⊢
  try simp only [List.toList_toArray] at B1
  rw [hnn.out] at HH B1 ⊢
  replace z1 := hid z1
  replace hx0 := hid hx0
  have hl1 := B1.lt (by simp)
  have y0 := B1.cell (j := 0) rfl
  rw [hnb.out] at y0
  have hE0 := Own.lit (base := wa.heap.size) (e := 3) (size := 1) encInt wa #[] [] (Nat.le_refl _) (by simp) rfl rfl
  have kA0 := (Kp.refl wa).alloc (.cells #[] 3)
  go_upto_region 2 with (fail)
  go_wp2_with fail
  go_loopw [3, 4] (fun v i wr => ∃ (k : Nat) (out : List Nat), k ≤ n ∧ out.length ≤ k ∧ i = .int .i64 (k : Int) ∧ Own encInt 3 1 wa.heap.size wr v (natI out) ∧ OrI b k out ∧ Kp wa wr) (fun _ i _ => n - (intOf i).toNat)
  case atStart => exact ⟨0, [], Nat.zero_le _, Nat.le_refl _, rfl, hE0, OrI.nil b, kA0⟩
  case round =>
    clear hE0 kA0
    obtain ⟨k, out, hk, hok2, rfl, own, hOr, kr⟩ := hrel
    obtain ⟨wo, rfl⟩ : ∃ wo : World, wo = wr := ⟨_, rfl⟩
    have B2 := B1.kp kr hl1
    have y0 := B2.cell (j := 0) rfl
    rw [hnb.out] at y0
    have y9 := B2.cell (j := 9) rfl
    have hb2 := B2.lt (by simp)
    by_cases hlt : k < n
    · have hkl : (k : Int) < (n : Int) := by omega
      have hk0 : (0 : Int) ≤ (k : Int) := by omega
      have hHl : k < (hdL b.heard n).length := by rw [hdL_len]; exact hlt
      obtain ⟨g, o, Ak1, ck1, rfl, hg, i0, i1, i2, i3, i4, i5, hnk⟩ := askA_cells (HH.out.keep rdAk_stable (k1.trans kr)) hHl
      rw [hdL_at _ hlt] at i0 i1 i2 i3 i4 i5 hnk
      obtain ⟨q, hq⟩ : ∃ q, q = hd b.heard k := ⟨_, rfl⟩
      rw [← hq] at i0 i1 i2 i3 i4 i5 hnk
      obtain ⟨nq, hnq⟩ : ∃ nq, nq = q.needs.length := ⟨_, rfl⟩
      rw [← hnq] at i5
      have hnq0 : nq ≤ 9223372036854775807 := by have := hnk.form; obtain ⟨_, _, _, h1, h2⟩ := this; omega
      clear hnk
      by_cases hz : nq = 0
      · have e0 : ((nq : Int) == 0) = true := by rw [hz]; rfl
        have hOr2 := hid (hOr.skip (by rw [← hq, ← hnq]; exact hz))
        subst hz
        replace hnq := hid hnq
        replace hq := hid hq
        go_wp2_with fail
        go_roundw
        case rel => exact ⟨k + 1, out, hlt, Nat.le_succ_of_le hok2, by go_num, own, hOr2.out, kr⟩
        case measure => exact br_meas hlt
      · have e0 : ((nq : Int) == 0) = false := beq_false_of_ne (by omega)
        obtain ⟨A5, c5, rfl, hc1, hc2⟩ := own.form
        obtain ⟨m, hm⟩ : ∃ m, m = (natI out).length := ⟨_, rfl⟩
        rw [← hm] at own hc1 ⊢
        rw [natI_len] at hm
        have hm5 : m ≤ k := by omega
        have hnz := hid (show (hd b.heard k).needs.length ≠ 0 by rw [← hq, ← hnq]; exact hz)
        replace hnq := hid hnq
        replace hq := hid hq
        replace hm := hid hm
        go_wp2_with fail
        clear i5
        go_loopw [5] (fun at_ wi => ∃ j : Nat, j ≤ m ∧ at_ = .int .i64 (j : Int) ∧ Hid (∀ i (h1 : i < out.length), j ≤ i → lessB (hd b.heard k).pri (hd b.heard out[i]).pri = true) ∧ Kp wo wi) (fun at_ _ => (intOf at_).toNat)
        case atStart => exact ⟨m, Nat.le_refl _, rfl, hid (fun i h1 h2 => by have := hm.out; omega), Kp.refl _⟩
        case round =>
          obtain ⟨j, hjm, rfl, HJ, kj⟩ := hrel
          obtain ⟨wi, rfl⟩ : ∃ wi' : World, wi' = wr := ⟨_, rfl⟩
          have kri := kr.trans kj
          have B3 := B2.kp kj hb2
          have y9' := B3.cell (j := 9) rfl
          have hb3 := B3.lt (by simp)
          have own6 := own.kp kj
          by_cases hj0 : j = 0
          · have hjl : ¬ (0 : Int) < (j : Int) := by omega
            have e1 : decide ((0 : Int) < (j : Int)) = false := decide_eq_false hjl
            have e2 : decide (0 < j) = false := decide_eq_false (by omega)
            have hjn : ¬ 0 < j := by omega
            have hjz := hid hj0
            clear hj0
            go_upto_region 7 with (fail)
            refine G2.wp_region_growT Kp [] 20 61 (G2.pvL [G2.eqv (.int .i64 (j : Int)), G2.eqv (.bool false), G2.eqv (.bool false), G2.eqv (undef), G2.eqv (undef), G2.eqv (undef), G2.eqv (undef), G2.eqv (undef), G2.eqv (undef), G2.eqv (undef), G2.eqv (undef), G2.eqv (undef), G2.eqv (undef), G2.eqv (undef), G2.eqv (undef), G2.eqv (undef), G2.eqv (undef), G2.eqv (undef), G2.eqv (undef), G2.eqv (undef)]) (by kernel_rfl) (by kernel_rfl) rfl (fun x => Kp.refl x) (fun _ _ _ h k => h.trans k) (Kp.refl _).drew (by intro _ _ _ _ _ h; exact h) (G2.pvL_keep (G2.stabL_cons (G2.stab_eq _) (G2.stabL_cons (G2.stab_eq _) (G2.stabL_cons (G2.stab_eq _) (G2.stabL_cons (G2.stab_eq _) (G2.stabL_cons (G2.stab_eq _) (G2.stabL_cons (G2.stab_eq _) (G2.stabL_cons (G2.stab_eq _) (G2.stabL_cons (G2.stab_eq _) (G2.stabL_cons (G2.stab_eq _) (G2.stabL_cons (G2.stab_eq _) (G2.stabL_cons (G2.stab_eq _) (G2.stabL_cons (G2.stab_eq _) (G2.stabL_cons (G2.stab_eq _) (G2.stabL_cons (G2.stab_eq _) (G2.stabL_cons (G2.stab_eq _) (G2.stabL_cons (G2.stab_eq _) (G2.stabL_cons (G2.stab_eq _) (G2.stabL_cons (G2.stab_eq _) (G2.stabL_cons (G2.stab_eq _) (G2.stabL_cons (G2.stab_eq _) (G2.stabL_nil)))))))))))))))))))))) (G2.stepsT_cons 0 ?_ (G2.stepsT_cons 1 ?_ (G2.stepsT_cons 2 ?_ (G2.stepsT_cons 3 ?_ (G2.stepsT_cons 4 ?_ (G2.stepsT_cons 5 ?_ (G2.stepsT_cons 6 ?_ (G2.stepsT_cons 7 ?_ (G2.stepsT_cons 8 ?_ (G2.stepsT_cons 9 ?_ (G2.stepsT_cons 10 ?_ (G2.stepsT_cons 11 ?_ (G2.stepsT_cons 12 ?_ (G2.stepsT_cons 13 ?_ (G2.stepsT_cons 14 ?_ (G2.stepsT_cons 15 ?_ (G2.stepsT_cons 16 ?_ (G2.stepsT_cons 17 ?_ (G2.stepsT_cons 18 ?_ (G2.stepsT_cons 19 ?_ (G2.stepsT_nil _ _ _))))))))))))))))))))) ?_ ?_
            · intro a w' hk hF hD K hK
              have h5 : a.tmps[5]?.getD undef = .int .i64 (j : Int) := hF 5 (by kernel_rfl)
              clear hF hD
              go_simp
              exact hK.out _ _ (Kp.refl _) rfl
            · intro a w' hk hF hD K hK
              have h24 : a.tmps[24]?.getD undef = .int .i64 (j : Int) := hD 0 (by kernel_rfl)
              clear hF hD
              go_simp
              exact hK.out _ _ (Kp.refl _) rfl
            · intro a w' hk hF hD K hK
              have h25 : a.tmps[25]?.getD undef = .bool false := hD 1 (by kernel_rfl)
              clear hF hD
              go_simp
              exact hK.out _ _ (Kp.refl _) rfl
            · intro a w' hk hF hD K hK
              have h1 : a.tmps[1]?.getD undef = .pointer (some ⟨x0, 0, none⟩) := hF 1 (by kernel_rfl)
              have h26 : a.tmps[26]?.getD undef = .bool false := hD 2 (by kernel_rfl)
              have g26 := guard_get h26
              clear hF hD
              go_simp
              exact hK.out _ _ (Kp.refl _) rfl
            · intro a w' hk hF hD K hK
              have h27 : a.tmps[27]?.getD undef = undef := hD 3 (by kernel_rfl)
              have h26 : a.tmps[26]?.getD undef = .bool false := hD 2 (by kernel_rfl)
              have g26 := guard_get h26
              clear hF hD
              go_simp
              exact hK.out _ _ (Kp.refl _) rfl
            · intro a w' hk hF hD K hK
              have h4 : a.tmps[4]?.getD undef = .int .i64 (k : Int) := hF 4 (by kernel_rfl)
              have h26 : a.tmps[26]?.getD undef = .bool false := hD 2 (by kernel_rfl)
              have g26 := guard_get h26
              clear hF hD
              go_simp
              exact hK.out _ _ (Kp.refl _) rfl
            · intro a w' hk hF hD K hK
              have h28 : a.tmps[28]?.getD undef = undef := hD 4 (by kernel_rfl)
              have h29 : a.tmps[29]?.getD undef = undef := hD 5 (by kernel_rfl)
              have h26 : a.tmps[26]?.getD undef = .bool false := hD 2 (by kernel_rfl)
              have g26 := guard_get h26
              clear hF hD
              go_simp
              exact hK.out _ _ (Kp.refl _) rfl
            · intro a w' hk hF hD K hK
              have h30 : a.tmps[30]?.getD undef = undef := hD 6 (by kernel_rfl)
              have h26 : a.tmps[26]?.getD undef = .bool false := hD 2 (by kernel_rfl)
              have g26 := guard_get h26
              clear hF hD
              go_simp
              exact hK.out _ _ (Kp.refl _) rfl
            · intro a w' hk hF hD K hK
              have h31 : a.tmps[31]?.getD undef = undef := hD 7 (by kernel_rfl)
              have h26 : a.tmps[26]?.getD undef = .bool false := hD 2 (by kernel_rfl)
              have g26 := guard_get h26
              clear hF hD
              go_simp
              exact hK.out _ _ (Kp.refl _) rfl
            · intro a w' hk hF hD K hK
              have h1 : a.tmps[1]?.getD undef = .pointer (some ⟨x0, 0, none⟩) := hF 1 (by kernel_rfl)
              have h26 : a.tmps[26]?.getD undef = .bool false := hD 2 (by kernel_rfl)
              have g26 := guard_get h26
              clear hF hD
              go_simp
              exact hK.out _ _ (Kp.refl _) rfl
            · intro a w' hk hF hD K hK
              have h33 : a.tmps[33]?.getD undef = undef := hD 9 (by kernel_rfl)
              have h26 : a.tmps[26]?.getD undef = .bool false := hD 2 (by kernel_rfl)
              have g26 := guard_get h26
              clear hF hD
              go_simp
              exact hK.out _ _ (Kp.refl _) rfl
            · intro a w' hk hF hD K hK
              have h3 : a.tmps[3]?.getD undef = .slice A5 m c5 := hF 3 (by kernel_rfl)
              have h26 : a.tmps[26]?.getD undef = .bool false := hD 2 (by kernel_rfl)
              have g26 := guard_get h26
              clear hF hD
              go_simp
              exact hK.out _ _ (Kp.refl _) rfl
            · intro a w' hk hF hD K hK
              have h5 : a.tmps[5]?.getD undef = .int .i64 (j : Int) := hF 5 (by kernel_rfl)
              have h26 : a.tmps[26]?.getD undef = .bool false := hD 2 (by kernel_rfl)
              have g26 := guard_get h26
              clear hF hD
              go_simp
              exact hK.out _ _ (Kp.refl _) rfl
            · intro a w' hk hF hD K hK
              have h36 : a.tmps[36]?.getD undef = undef := hD 12 (by kernel_rfl)
              have h26 : a.tmps[26]?.getD undef = .bool false := hD 2 (by kernel_rfl)
              have g26 := guard_get h26
              clear hF hD
              go_simp
              exact hK.out _ _ (Kp.refl _) rfl
            · intro a w' hk hF hD K hK
              have h35 : a.tmps[35]?.getD undef = undef := hD 11 (by kernel_rfl)
              have h37 : a.tmps[37]?.getD undef = undef := hD 13 (by kernel_rfl)
              have h26 : a.tmps[26]?.getD undef = .bool false := hD 2 (by kernel_rfl)
              have g26 := guard_get h26
              clear hF hD
              go_simp
              exact hK.out _ _ (Kp.refl _) rfl
            · intro a w' hk hF hD K hK
              have h38 : a.tmps[38]?.getD undef = undef := hD 14 (by kernel_rfl)
              have h26 : a.tmps[26]?.getD undef = .bool false := hD 2 (by kernel_rfl)
              have g26 := guard_get h26
              clear hF hD
              go_simp
              exact hK.out _ _ (Kp.refl _) rfl
            · intro a w' hk hF hD K hK
              have h34 : a.tmps[34]?.getD undef = undef := hD 10 (by kernel_rfl)
              have h39 : a.tmps[39]?.getD undef = undef := hD 15 (by kernel_rfl)
              have h26 : a.tmps[26]?.getD undef = .bool false := hD 2 (by kernel_rfl)
              have g26 := guard_get h26
              clear hF hD
              go_simp
              exact hK.out _ _ (Kp.refl _) rfl
            · intro a w' hk hF hD K hK
              have h40 : a.tmps[40]?.getD undef = undef := hD 16 (by kernel_rfl)
              have h26 : a.tmps[26]?.getD undef = .bool false := hD 2 (by kernel_rfl)
              have g26 := guard_get h26
              clear hF hD
              go_simp
              exact hK.out _ _ (Kp.refl _) rfl
            · intro a w' hk hF hD K hK
              have h41 : a.tmps[41]?.getD undef = undef := hD 17 (by kernel_rfl)
              have h26 : a.tmps[26]?.getD undef = .bool false := hD 2 (by kernel_rfl)
              have g26 := guard_get h26
              clear hF hD
              go_simp
              exact hK.out _ _ (Kp.refl _) rfl
            · intro a w' hk hF hD K hK
              have h32 : a.tmps[32]?.getD undef = undef := hD 8 (by kernel_rfl)
              have h42 : a.tmps[42]?.getD undef = undef := hD 18 (by kernel_rfl)
              have h26 : a.tmps[26]?.getD undef = .bool false := hD 2 (by kernel_rfl)
              have g26 := guard_get h26
              clear hF hD
              go_simp
              exact hK.out _ _ (Kp.refl _) rfl
            · exact fun i0 hi0 => by simp at hi0
            intro v w9 k9 hv
            have v2 : v 2 = .bool false := hv 2 (by omega)
            have v19 : v 19 = undef := hv 19 (by omega)
            clear hv
            simp only [G2.growPut, G2.gSlot, List.getElem?_toArray, List.getElem?_cons_zero, List.getElem?_cons_succ, Option.bind_some, List.setIfInBounds_toArray, List.set_cons_zero, List.set_cons_succ, List.drop_succ_cons, List.drop_zero, v2, v19]
            have HD : Hid (∀ (h1 : 0 < j), lessB (hd b.heard k).pri (hd b.heard (out[j - 1]'(by have := hm.out; omega))).pri = false) := hid (fun h => by have := hjz.out; omega)
            have kri := kri.trans k9
            have own6 := own6.kp k9
            clear B3 y9' hb3
            obtain ⟨As, cs9, hAs⟩ : ∃ As cs9, As = (if c5 = j then A5 else A5.map (·.add (j * 1))) ∧ cs9 = c5 - j := ⟨_, _, rfl, rfl⟩
            have hs9 := fun W => slice_lo (P := Try.prog) stIntO A5 m c5 j hjm W
            have hS9 := (Sl.from_ (i := j) (own6.sl encInt_len) hjm)
            rw [← hAs.1, ← hAs.2] at hs9 hS9
            replace hAs := hid hAs
            have hE9 := Own.lit (base := (w9).heap.size) (e := 3) (size := 1) encInt w9 #[] [] (Nat.le_refl _) (by simp) rfl rfl
            have kA9 := (Kp.refl w9).alloc (.cells #[] 3)
            have hS9' := hS9.keep (pl_stable _) kA9
            have hz9 : (w9).heap.size ≤ ((w9).alloc (.cells #[] 3)).heap.size := kA9.size
            have hrm1 := hid (show ((natI out).drop j).length ≤ 5 by rw [List.length_drop, natI_len]; have := hm.out; omega)
            have hrm2 := hid (show ((natI out).take j).length ≤ 5 by rw [List.length_take, natI_len]; have := hm.out; omega)
            have hA5 : ∀ p, A5 = some p → p.spot = none := fun p hp => by
              rcases own6.2 with ⟨h0, -⟩ | ⟨g', cap, cur, h1, -⟩
              · injection h0 with a1
                rw [a1] at hp
                cases hp
              · injection h1 with a1
                rw [a1] at hp
                injection hp with hp
                rw [← hp]
            have hs10 := fun W => slice_hi (P := Try.prog) stIntO A5 hA5 m c5 j hjm hc1 W
            have hblW := hid (own_trunc encInt_len own6 hjm).blk_lt
            have r1 : ([] : List Int).length + ((natI out).drop j).length ≤ 4611686018427387904 := by have := hrm1.out; simp only [List.length_nil]; omega
            have r2 : (([] : List Int).length + ((natI out).drop j).length) * 8 ≤ 140737488355328 := by have := hrm1.out; simp only [List.length_nil]; omega
            have r3 : ((natI out).take j).length + [(k : Int)].length ≤ 4611686018427387904 := by have := hrm2.out; simp only [List.length_cons, List.length_nil]; omega
            have r4 : (((natI out).take j).length + [(k : Int)].length) * 8 ≤ 140737488355328 := by have := hrm2.out; simp only [List.length_cons, List.length_nil]; omega
            have r5 : ((natI out).take j ++ [(k : Int)]).length + ((natI out).drop j).length ≤ 4611686018427387904 := by have := hrm1.out; have := hrm2.out; simp only [List.length_append, List.length_cons, List.length_nil]; omega
            have r6 : (((natI out).take j ++ [(k : Int)]).length + ((natI out).drop j).length) * 8 ≤ 140737488355328 := by have := hrm1.out; have := hrm2.out; simp only [List.length_append, List.length_cons, List.length_nil]; omega
            replace r1 := hid r1
            replace r2 := hid r2
            replace r3 := hid r3
            replace r4 := hid r4
            replace r5 := hid r5
            replace r6 := hid r6
            go_upto_region 9 with (fail)
            go_upto_region 10 with (at_builtin; (refine wpl_append_flat rfl (.tmp 47) (.tmp 50) rfl stIntO encInt_len encInt_one rfl hE9 rfl hS9' r1.out r2.out hz9 ?_; intro v9 wB own9 hgB hatB hnilB; have kWB : Kp w9 wB := kA9.grown hgB hE9.ge; clear hgB hatB hnilB hE9 hS9 hS9' hs9; rw [List.nil_append] at own9; obtain ⟨A9, n9, c9, rfl⟩ := own9.isSl))
            have own6B := own_trunc encInt_len (own6.kp kWB) hjm
            clear own6 kA9
            have kC := (Kp.refl wB).alloc (.cells #[.int .i64 (k : Int)] 3)
            have hsrc := Sl.one (R := Pl encInt) wB [.int .i64 (k : Int)] 3 1 (k : Int) rfl rfl
            have ownT := own6B.kp kC
            have own9C := own9.kp kC
            have hbC : wa.heap.size ≤ (wB.alloc (.cells #[.int .i64 (k : Int)] 3)).heap.size := (kri.trans (kWB.trans kC)).size
            go_wp2_with (first | (at_builtin; (refine wpl_append_flat rfl (.tmp 54) (.tmp 56) rfl stIntO encInt_len encInt_one rfl ownT rfl hsrc r3.out r4.out hbC ?_; intro v10 wD own10 hgD hatD hnilD; have hgD : World.grownBy (wB.alloc (.cells #[.int .i64 (k : Int)] 3)) wD (Value.slice A5 j c5).ownBlock := hgD; have kD : Kp wa wD := (kri.trans (kWB.trans kC)).grown hgD ownT.ge; have own9D := own9C.owS wD hgD.size (fun q hq hl => hgD.block q hl (fun e => by (have h1 := own9C.ge q hq); (have h2 := hblW.out q e.symm); omega)); obtain ⟨A10, n10, c10, rfl⟩ := own10.isSl; clear hgD hatD hnilD own9C ownT hsrc own9 own6B)) | (at_builtin; refine wpl_append_flat rfl (.tmp 57) (.tmp 58) rfl stIntO encInt_len encInt_one rfl own10 rfl (own9D.sl encInt_len) r5.out r6.out kD.size ?_; intro v11 wE own11 hgE hatE hnilE; have kE : Kp wa wE := kD.grown hgE own10.ge; clear hgE hatE hnilE own10 own9D) | fail)
            have hins := hid (hOr.ins hok.out (k := j) hnz.out (by have := hm.out; omega) HJ.out HD.out)
            have e11 : (natI out).take j ++ [(k : Int)] ++ (natI out).drop j = natI (out.take j ++ k :: out.drop j) := by rw [← natI_ins]; simp
            rw [e11] at own11
            have hl11 : (out.take j ++ k :: out.drop j).length ≤ k + 1 := by
              have := hm.out
              simp only [List.length_append, List.length_take, List.length_cons, List.length_drop]
              omega
            replace e11 := hid e11
            replace hl11 := hid hl11
            go_roundw
            case rel => exact ⟨k + 1, out.take j ++ k :: out.drop j, hlt, hl11.out, by go_num, own11, hins.out, kE⟩
            case measure => exact br_meas hlt
          · have hjl : (0 : Int) < (j : Int) := by omega
            have hj1 : ((j : Int) - 1) = ((j - 1 : Nat) : Int) := by omega
            have hjo : j - 1 < out.length := by have := hm.out; omega
            obtain ⟨x, hx⟩ : ∃ x, x = out[j - 1] := ⟨_, rfl⟩
            have hxn : x < n := by have h9 := ((hOr.mem x).1 (by rw [hx]; exact List.getElem_mem _)).1; omega
            have hHx : x < (hdL b.heard n).length := by rw [hdL_len]; exact hxn
            obtain ⟨g', o', Ak2, ck2, e', hg', x0', x1, x2, x3, x4, -, -⟩ := askA_cells (HH.out.keep rdAk_stable (k1.trans kri)) hHx
            injection e' with e'
            injection e' with e1 e2
            subst e1 e2
            rw [hdL_at _ hxn] at x1 x2 x3 x4
            obtain ⟨g5, o5, rfl, hg5, cx⟩ := int_intCell (own6.sl encInt_len) (k := j - 1) (by rw [natI_len]; exact hjo)
            rw [natI_at hjo, ← hx] at cx
            rw [hq.out] at i1 i2 i3 i4
            have i1 := kj.cellS i1
            have i2 := kj.cellS i2
            have i3 := kj.cellS i3
            have i4 := kj.cellS i4
            obtain ⟨P1, hP1⟩ : ∃ P1, P1 = (hd b.heard k).pri := ⟨_, rfl⟩
            obtain ⟨P2, hP2⟩ : ∃ P2, P2 = (hd b.heard x).pri := ⟨_, rfl⟩
            rw [← hP1] at i1 i2 i3 i4
            rw [← hP2] at x1 x2 x3 x4
            replace hP1 := hid hP1
            replace hP2 := hid hP2
            obtain ⟨p1, p2, p3, p4⟩ := P1
            obtain ⟨r1, r2, r3, r4⟩ := P2
            dsimp only at i1 i2 i3 i4 x1 x2 x3 x4
            have e1 : decide ((0 : Int) < (j : Int)) = true := decide_eq_true hjl
            have e2 : decide (0 < j) = true := decide_eq_true (by omega)
            have hjn : 0 < j := by omega
            have hjn1 : j - 1 < m := by have := hm.out; omega
            have hxn1 : (x : Int) < (n : Int) := by omega
            obtain ⟨bl, hbl⟩ : ∃ bl, lessB (p1, p2, p3, p4) (r1, r2, r3, r4) = bl := ⟨_, rfl⟩
            have HC := hid (rLess_any (p1, p2, p3, p4) (r1, r2, r3, r4))
            rw [hbl] at HC
            replace hbl := hid hbl
            replace hx := hid hx
            have hj1 := hid hj1
            have hjm1 := hid hj0
            clear hj0
            obtain ⟨j1, hj2⟩ : ∃ j1, j1 = j - 1 := ⟨_, rfl⟩
            rw [← hj2] at cx hjn1
            have hj3 : (j : Int) - 1 = (j1 : Int) := by omega
            replace hj2 := hid hj2
            go_upto_region 7 with (fail)
            refine G2.wp_region_growT Kp [] 20 61 (G2.pvL [G2.eqv (.int .i64 (j : Int)), G2.eqv (.bool true), G2.eqv (.bool true), G2.eqv (.pointer (some ⟨x0, 9, none⟩)), G2.eqv (.slice (some ⟨g, o, none⟩) n c'), G2.eqv (.int .i64 (k : Int)), G2.eqv (.pointer (some ⟨g, o + k * 6, none⟩)), G2.eqv (.pointer (some ⟨g, o + k * 6 + 1, none⟩)), G2.eqv (.agg #[.int .i64 p1, .int .i64 p2, .int .i64 p3, .int .i64 p4]), G2.eqv (.pointer (some ⟨x0, 9, none⟩)), G2.eqv (.slice (some ⟨g, o, none⟩) n c'), G2.eqv (.slice (some ⟨g5, o5, none⟩) m c5), G2.eqv (.int .i64 (j : Int)), G2.eqv (.int .i64 (j1 : Int)), G2.eqv (.pointer (some ⟨g5, o5 + j1, none⟩)), G2.eqv (.int .i64 (x : Int)), G2.eqv (.pointer (some ⟨g, o + x * 6, none⟩)), G2.eqv (.pointer (some ⟨g, o + x * 6 + 1, none⟩)), G2.eqv (.agg #[.int .i64 r1, .int .i64 r2, .int .i64 r3, .int .i64 r4]), G2.eqv (.bool bl)]) (by kernel_rfl) (by kernel_rfl) rfl (fun x => Kp.refl x) (fun _ _ _ h k => h.trans k) (Kp.refl _).drew (by intro _ _ _ _ _ h; exact h) (G2.pvL_keep (G2.stabL_cons (G2.stab_eq _) (G2.stabL_cons (G2.stab_eq _) (G2.stabL_cons (G2.stab_eq _) (G2.stabL_cons (G2.stab_eq _) (G2.stabL_cons (G2.stab_eq _) (G2.stabL_cons (G2.stab_eq _) (G2.stabL_cons (G2.stab_eq _) (G2.stabL_cons (G2.stab_eq _) (G2.stabL_cons (G2.stab_eq _) (G2.stabL_cons (G2.stab_eq _) (G2.stabL_cons (G2.stab_eq _) (G2.stabL_cons (G2.stab_eq _) (G2.stabL_cons (G2.stab_eq _) (G2.stabL_cons (G2.stab_eq _) (G2.stabL_cons (G2.stab_eq _) (G2.stabL_cons (G2.stab_eq _) (G2.stabL_cons (G2.stab_eq _) (G2.stabL_cons (G2.stab_eq _) (G2.stabL_cons (G2.stab_eq _) (G2.stabL_cons (G2.stab_eq _) (G2.stabL_nil)))))))))))))))))))))) (G2.stepsT_cons 0 ?_ (G2.stepsT_cons 1 ?_ (G2.stepsT_cons 2 ?_ (G2.stepsT_cons 3 ?_ (G2.stepsT_cons 4 ?_ (G2.stepsT_cons 5 ?_ (G2.stepsT_cons 6 ?_ (G2.stepsT_cons 7 ?_ (G2.stepsT_cons 8 ?_ (G2.stepsT_cons 9 ?_ (G2.stepsT_cons 10 ?_ (G2.stepsT_cons 11 ?_ (G2.stepsT_cons 12 ?_ (G2.stepsT_cons 13 ?_ (G2.stepsT_cons 14 ?_ (G2.stepsT_cons 15 ?_ (G2.stepsT_cons 16 ?_ (G2.stepsT_cons 17 ?_ (G2.stepsT_cons 18 ?_ (G2.stepsT_cons 19 ?_ (G2.stepsT_nil _ _ _))))))))))))))))))))) ?_ ?_
            · intro a w' hk hF hD K hK
              have h5 : a.tmps[5]?.getD undef = .int .i64 (j : Int) := hF 5 (by kernel_rfl)
              clear hF hD
              go_simp
              exact hK.out _ _ (Kp.refl _) rfl
            · intro a w' hk hF hD K hK
              have h24 : a.tmps[24]?.getD undef = .int .i64 (j : Int) := hD 0 (by kernel_rfl)
              clear hF hD
              go_simp
              exact hK.out _ _ (Kp.refl _) rfl
            · intro a w' hk hF hD K hK
              have h25 : a.tmps[25]?.getD undef = .bool true := hD 1 (by kernel_rfl)
              clear hF hD
              go_simp
              exact hK.out _ _ (Kp.refl _) rfl
            · intro a w' hk hF hD K hK
              have h1 : a.tmps[1]?.getD undef = .pointer (some ⟨x0, 0, none⟩) := hF 1 (by kernel_rfl)
              have h26 : a.tmps[26]?.getD undef = .bool true := hD 2 (by kernel_rfl)
              have g26 := guard_get h26
              clear hF hD
              go_simp
              exact hK.out _ _ (Kp.refl _) rfl
            · intro a w' hk hF hD K hK
              have h27 : a.tmps[27]?.getD undef = .pointer (some ⟨x0, 9, none⟩) := hD 3 (by kernel_rfl)
              have h26 : a.tmps[26]?.getD undef = .bool true := hD 2 (by kernel_rfl)
              have g26 := guard_get h26
              clear hF hD
              have z0 := hk.cellS y9'
              go_simp
              exact hK.out _ _ (Kp.refl _) rfl
            · intro a w' hk hF hD K hK
              have h4 : a.tmps[4]?.getD undef = .int .i64 (k : Int) := hF 4 (by kernel_rfl)
              have h26 : a.tmps[26]?.getD undef = .bool true := hD 2 (by kernel_rfl)
              have g26 := guard_get h26
              clear hF hD
              go_simp
              exact hK.out _ _ (Kp.refl _) rfl
            · intro a w' hk hF hD K hK
              have h28 : a.tmps[28]?.getD undef = .slice (some ⟨g, o, none⟩) n c' := hD 4 (by kernel_rfl)
              have h29 : a.tmps[29]?.getD undef = .int .i64 (k : Int) := hD 5 (by kernel_rfl)
              have h26 : a.tmps[26]?.getD undef = .bool true := hD 2 (by kernel_rfl)
              have g26 := guard_get h26
              clear hF hD
              go_simp
              exact hK.out _ _ (Kp.refl _) rfl
            · intro a w' hk hF hD K hK
              have h30 : a.tmps[30]?.getD undef = .pointer (some ⟨g, o + k * 6, none⟩) := hD 6 (by kernel_rfl)
              have h26 : a.tmps[26]?.getD undef = .bool true := hD 2 (by kernel_rfl)
              have g26 := guard_get h26
              clear hF hD
              go_simp
              exact hK.out _ _ (Kp.refl _) rfl
            · intro a w' hk hF hD K hK
              have h31 : a.tmps[31]?.getD undef = .pointer (some ⟨g, o + k * 6 + 1, none⟩) := hD 7 (by kernel_rfl)
              have h26 : a.tmps[26]?.getD undef = .bool true := hD 2 (by kernel_rfl)
              have g26 := guard_get h26
              clear hF hD
              have z0 := hk.cellS i1
              have z1 := hk.cellS i2
              have z2 := hk.cellS i3
              have z3 := hk.cellS i4
              go_simp
              exact hK.out _ _ (Kp.refl _) rfl
            · intro a w' hk hF hD K hK
              have h1 : a.tmps[1]?.getD undef = .pointer (some ⟨x0, 0, none⟩) := hF 1 (by kernel_rfl)
              have h26 : a.tmps[26]?.getD undef = .bool true := hD 2 (by kernel_rfl)
              have g26 := guard_get h26
              clear hF hD
              go_simp
              exact hK.out _ _ (Kp.refl _) rfl
            · intro a w' hk hF hD K hK
              have h33 : a.tmps[33]?.getD undef = .pointer (some ⟨x0, 9, none⟩) := hD 9 (by kernel_rfl)
              have h26 : a.tmps[26]?.getD undef = .bool true := hD 2 (by kernel_rfl)
              have g26 := guard_get h26
              clear hF hD
              have z0 := hk.cellS y9'
              go_simp
              exact hK.out _ _ (Kp.refl _) rfl
            · intro a w' hk hF hD K hK
              have h3 : a.tmps[3]?.getD undef = .slice (some ⟨g5, o5, none⟩) m c5 := hF 3 (by kernel_rfl)
              have h26 : a.tmps[26]?.getD undef = .bool true := hD 2 (by kernel_rfl)
              have g26 := guard_get h26
              clear hF hD
              go_simp
              exact hK.out _ _ (Kp.refl _) rfl
            · intro a w' hk hF hD K hK
              have h5 : a.tmps[5]?.getD undef = .int .i64 (j : Int) := hF 5 (by kernel_rfl)
              have h26 : a.tmps[26]?.getD undef = .bool true := hD 2 (by kernel_rfl)
              have g26 := guard_get h26
              clear hF hD
              go_simp
              exact hK.out _ _ (Kp.refl _) rfl
            · intro a w' hk hF hD K hK
              have h36 : a.tmps[36]?.getD undef = .int .i64 (j : Int) := hD 12 (by kernel_rfl)
              have h26 : a.tmps[26]?.getD undef = .bool true := hD 2 (by kernel_rfl)
              have g26 := guard_get h26
              clear hF hD
              have hw : IntKind.i64.wrap ((j - 1 : Nat) : Int) = (j1 : Int) := by rw [← hj2.out]; exact IntWalk.i64_in _ (by omega)
              go_simp
              exact hK.out _ _ (Kp.refl _) rfl
            · intro a w' hk hF hD K hK
              have h35 : a.tmps[35]?.getD undef = .slice (some ⟨g5, o5, none⟩) m c5 := hD 11 (by kernel_rfl)
              have h37 : a.tmps[37]?.getD undef = .int .i64 (j1 : Int) := hD 13 (by kernel_rfl)
              have h26 : a.tmps[26]?.getD undef = .bool true := hD 2 (by kernel_rfl)
              have g26 := guard_get h26
              clear hF hD
              go_simp
              exact hK.out _ _ (Kp.refl _) rfl
            · intro a w' hk hF hD K hK
              have h38 : a.tmps[38]?.getD undef = .pointer (some ⟨g5, o5 + j1, none⟩) := hD 14 (by kernel_rfl)
              have h26 : a.tmps[26]?.getD undef = .bool true := hD 2 (by kernel_rfl)
              have g26 := guard_get h26
              clear hF hD
              have z0 := hk.cellS cx
              go_simp
              exact hK.out _ _ (Kp.refl _) rfl
            · intro a w' hk hF hD K hK
              have h34 : a.tmps[34]?.getD undef = .slice (some ⟨g, o, none⟩) n c' := hD 10 (by kernel_rfl)
              have h39 : a.tmps[39]?.getD undef = .int .i64 (x : Int) := hD 15 (by kernel_rfl)
              have h26 : a.tmps[26]?.getD undef = .bool true := hD 2 (by kernel_rfl)
              have g26 := guard_get h26
              clear hF hD
              go_simp
              exact hK.out _ _ (Kp.refl _) rfl
            · intro a w' hk hF hD K hK
              have h40 : a.tmps[40]?.getD undef = .pointer (some ⟨g, o + x * 6, none⟩) := hD 16 (by kernel_rfl)
              have h26 : a.tmps[26]?.getD undef = .bool true := hD 2 (by kernel_rfl)
              have g26 := guard_get h26
              clear hF hD
              go_simp
              exact hK.out _ _ (Kp.refl _) rfl
            · intro a w' hk hF hD K hK
              have h41 : a.tmps[41]?.getD undef = .pointer (some ⟨g, o + x * 6 + 1, none⟩) := hD 17 (by kernel_rfl)
              have h26 : a.tmps[26]?.getD undef = .bool true := hD 2 (by kernel_rfl)
              have g26 := guard_get h26
              clear hF hD
              have z0 := hk.cellS x1
              have z1 := hk.cellS x2
              have z2 := hk.cellS x3
              have z3 := hk.cellS x4
              go_simp
              exact hK.out _ _ (Kp.refl _) rfl
            · intro a w' hk hF hD K hK
              have h32 : a.tmps[32]?.getD undef = .agg #[.int .i64 p1, .int .i64 p2, .int .i64 p3, .int .i64 p4] := hD 8 (by kernel_rfl)
              have h42 : a.tmps[42]?.getD undef = .agg #[.int .i64 r1, .int .i64 r2, .int .i64 r3, .int .i64 r4] := hD 18 (by kernel_rfl)
              have h26 : a.tmps[26]?.getD undef = .bool true := hD 2 (by kernel_rfl)
              have g26 := guard_get h26
              clear hF hD
              go_simp
              refine (HC.out _).mono ?_
              rintro e w9 ⟨rfl, hk9⟩
              exact hK.out _ _ hk9 rfl
            · exact fun i0 hi0 => by simp at hi0
            intro v w9 k9 hv
            have v2 : v 2 = .bool true := hv 2 (by omega)
            have v19 : v 19 = .bool bl := hv 19 (by omega)
            clear hv
            simp only [G2.growPut, G2.gSlot, List.getElem?_toArray, List.getElem?_cons_zero, List.getElem?_cons_succ, Option.bind_some, List.setIfInBounds_toArray, List.set_cons_zero, List.set_cons_succ, List.drop_succ_cons, List.drop_zero, v2, v19]
            have kri := kri.trans k9
            have own6 := own6.kp k9
            clear B3 y9' hb3 i1 i2 i3 i4 x1 x2 x3 x4 cx e1 e2
            cases bl with
            | true =>
              have HJ2 : Hid (∀ i (h1 : i < out.length), j1 ≤ i → lessB (hd b.heard k).pri (hd b.heard out[i]).pri = true) := hid (fun i h1 h2 => by
                by_cases e : i = j1
                · have h3 : out[i] = x := by rw [hx.out]; congr 1; rw [e, hj2.out]
                  rw [h3, ← hP1.out, ← hP2.out]
                  exact hbl.out
                · exact HJ.out i h1 (by have := hj2.out; omega))
              go_wp2_with fail
              go_roundw
              case rel => exact ⟨j1, by have := hj2.out; omega, by go_num, HJ2, kj.trans k9⟩
              case measure =>
                have := hj2.out
                simp [intOf]
                omega
            | false =>
              have HD : Hid (∀ (h1 : 0 < j), lessB (hd b.heard k).pri (hd b.heard (out[j - 1]'(by have := hm.out; omega))).pri = false) := hid (fun h => by
                have h3 : (out[j - 1]'(by have := hm.out; omega)) = x := hx.out.symm
                rw [h3, ← hP1.out, ← hP2.out]
                exact hbl.out)
              obtain ⟨A5, hA5'⟩ : ∃ A5 : Option Addr, A5 = some ⟨g5, o5, none⟩ := ⟨_, rfl⟩
              rw [← hA5'] at own6 ⊢
              replace hA5' := hid hA5'
              obtain ⟨As, cs9, hAs⟩ : ∃ As cs9, As = (if c5 = j then A5 else A5.map (·.add (j * 1))) ∧ cs9 = c5 - j := ⟨_, _, rfl, rfl⟩
              have hs9 := fun W => slice_lo (P := Try.prog) stIntO A5 m c5 j hjm W
              have hS9 := (Sl.from_ (i := j) (own6.sl encInt_len) hjm)
              rw [← hAs.1, ← hAs.2] at hs9 hS9
              replace hAs := hid hAs
              have hE9 := Own.lit (base := (w9).heap.size) (e := 3) (size := 1) encInt w9 #[] [] (Nat.le_refl _) (by simp) rfl rfl
              have kA9 := (Kp.refl w9).alloc (.cells #[] 3)
              have hS9' := hS9.keep (pl_stable _) kA9
              have hz9 : (w9).heap.size ≤ ((w9).alloc (.cells #[] 3)).heap.size := kA9.size
              have hrm1 := hid (show ((natI out).drop j).length ≤ 5 by rw [List.length_drop, natI_len]; have := hm.out; omega)
              have hrm2 := hid (show ((natI out).take j).length ≤ 5 by rw [List.length_take, natI_len]; have := hm.out; omega)
              have hA5 : ∀ p, A5 = some p → p.spot = none := fun p hp => by
                rcases own6.2 with ⟨h0, -⟩ | ⟨g', cap, cur, h1, -⟩
                · injection h0 with a1
                  rw [a1] at hp
                  cases hp
                · injection h1 with a1
                  rw [a1] at hp
                  injection hp with hp
                  rw [← hp]
              have hs10 := fun W => slice_hi (P := Try.prog) stIntO A5 hA5 m c5 j hjm hc1 W
              have hblW := hid (own_trunc encInt_len own6 hjm).blk_lt
              have r1 : ([] : List Int).length + ((natI out).drop j).length ≤ 4611686018427387904 := by have := hrm1.out; simp only [List.length_nil]; omega
              have r2 : (([] : List Int).length + ((natI out).drop j).length) * 8 ≤ 140737488355328 := by have := hrm1.out; simp only [List.length_nil]; omega
              have r3 : ((natI out).take j).length + [(k : Int)].length ≤ 4611686018427387904 := by have := hrm2.out; simp only [List.length_cons, List.length_nil]; omega
              have r4 : (((natI out).take j).length + [(k : Int)].length) * 8 ≤ 140737488355328 := by have := hrm2.out; simp only [List.length_cons, List.length_nil]; omega
              have r5 : ((natI out).take j ++ [(k : Int)]).length + ((natI out).drop j).length ≤ 4611686018427387904 := by have := hrm1.out; have := hrm2.out; simp only [List.length_append, List.length_cons, List.length_nil]; omega
              have r6 : (((natI out).take j ++ [(k : Int)]).length + ((natI out).drop j).length) * 8 ≤ 140737488355328 := by have := hrm1.out; have := hrm2.out; simp only [List.length_append, List.length_cons, List.length_nil]; omega
              replace r1 := hid r1
              replace r2 := hid r2
              replace r3 := hid r3
              replace r4 := hid r4
              replace r5 := hid r5
              replace r6 := hid r6
              go_upto_region 9 with (fail)
              go_upto_region 10 with (at_builtin; (refine wpl_append_flat rfl (.tmp 47) (.tmp 50) rfl stIntO encInt_len encInt_one rfl hE9 rfl hS9' r1.out r2.out hz9 ?_; intro v9 wB own9 hgB hatB hnilB; have kWB : Kp w9 wB := kA9.grown hgB hE9.ge; clear hgB hatB hnilB hE9 hS9 hS9' hs9; rw [List.nil_append] at own9; obtain ⟨A9, n9, c9, rfl⟩ := own9.isSl))
              have own6B := own_trunc encInt_len (own6.kp kWB) hjm
              clear own6 kA9
              have kC := (Kp.refl wB).alloc (.cells #[.int .i64 (k : Int)] 3)
              have hsrc := Sl.one (R := Pl encInt) wB [.int .i64 (k : Int)] 3 1 (k : Int) rfl rfl
              have ownT := own6B.kp kC
              have own9C := own9.kp kC
              have hbC : wa.heap.size ≤ (wB.alloc (.cells #[.int .i64 (k : Int)] 3)).heap.size := (kri.trans (kWB.trans kC)).size
              go_wp2_with (first | (at_builtin; (refine wpl_append_flat rfl (.tmp 54) (.tmp 56) rfl stIntO encInt_len encInt_one rfl ownT rfl hsrc r3.out r4.out hbC ?_; intro v10 wD own10 hgD hatD hnilD; have hgD : World.grownBy (wB.alloc (.cells #[.int .i64 (k : Int)] 3)) wD (Value.slice A5 j c5).ownBlock := hgD; have kD : Kp wa wD := (kri.trans (kWB.trans kC)).grown hgD ownT.ge; have own9D := own9C.owS wD hgD.size (fun q hq hl => hgD.block q hl (fun e => by (have h1 := own9C.ge q hq); (have h2 := hblW.out q e.symm); omega)); obtain ⟨A10, n10, c10, rfl⟩ := own10.isSl; clear hgD hatD hnilD own9C ownT hsrc own9 own6B)) | (at_builtin; refine wpl_append_flat rfl (.tmp 57) (.tmp 58) rfl stIntO encInt_len encInt_one rfl own10 rfl (own9D.sl encInt_len) r5.out r6.out kD.size ?_; intro v11 wE own11 hgE hatE hnilE; have kE : Kp wa wE := kD.grown hgE own10.ge; clear hgE hatE hnilE own10 own9D) | fail)
              have hins := hid (hOr.ins hok.out (k := j) hnz.out (by have := hm.out; omega) HJ.out HD.out)
              have e11 : (natI out).take j ++ [(k : Int)] ++ (natI out).drop j = natI (out.take j ++ k :: out.drop j) := by rw [← natI_ins]; simp
              rw [e11] at own11
              have hl11 : (out.take j ++ k :: out.drop j).length ≤ k + 1 := by
                have := hm.out
                simp only [List.length_append, List.length_take, List.length_cons, List.length_drop]
                omega
              replace e11 := hid e11
              replace hl11 := hid hl11
              go_roundw
              case rel => exact ⟨k + 1, out.take j ++ k :: out.drop j, hlt, hl11.out, by go_num, own11, hins.out, kE⟩
              case measure => exact br_meas hlt
    · have hkl : ¬ (k : Int) < (n : Int) := by omega
      obtain rfl : k = n := by omega
      go_wp2
      go_ret
      exact ⟨_, rfl, out, own.less k1.size, by rw [hnn.out]; exact hOr, k1.trans kr⟩
end Go.Proofs.Ytbcekihjcgnhkaa
