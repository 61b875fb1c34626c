
/-
The reference's equality of events, at equal ones: the walks.
-/
import Derived.Test.YtcddllaljgfjbaaDlH
namespace Go.Proofs.Ytcddllaljgfjbaa
set_option linter.unusedSimpArgs false
set_option linter.unusedVariables false
open Go.RowKit

set_option maxHeartbeats 1600000 in
theorem rInts_refl (l : List Int) (va vb : Value) (w : World) (ha : Ints w va l) (hb : Ints w vb l) : Calls Try.prog 76 #[va, vb] w fun e w' => e = .returned (.bool true) ∧ Kp w w' := by
  obtain ⟨A, ca, rfl, hca, hma⟩ := ha.form
  obtain ⟨B, cb, rfl, hcb, hmb⟩ := hb.form
  go_enter Try.func76, Try.ntmps76
  go_wp2
  go_loopw [5] (fun i wr => ∃ k : Nat, k ≤ l.length ∧ i = .int .i64 k ∧ Kp w wr) (fun i _ => l.length - (intOf i).toNat)
  case atStart => exact ⟨0, Nat.zero_le _, rfl, Kp.refl _⟩
  case round =>
    obtain ⟨k, hk, rfl, kr⟩ := hrel
    by_cases hlt : k < l.length
    · have hkl : (k : Int) < (l.length : Int) := by omega
      obtain ⟨p, o, rfl, hp, i0⟩ := (ha.keep (pl_stable _) kr).ints hlt
      obtain ⟨q, o', rfl, hq, i1⟩ := (hb.keep (pl_stable _) kr).ints hlt
      generalize l[k] = x at *
      have e1 : (x != x) = false := by simp
      go_upto_region 6 with (fail)
      refine wp_region_kw (by kernel_rfl) (by kernel_rfl) ?_
      repeat (go_big_quiet_step ((fail)))
      refine wpQuiet_nil ?_
      intro _ hw'
      obtain ⟨u, hw''⟩ := hw'
      subst hw''
      have ku := kr.trans (kw_kp wr u)
      go_wp2_with fail
      go_roundw
      case rel => exact ⟨k + 1, by omega, by go_num, ku⟩
      case measure => simp [intOf]; omega
    · have hkl : ¬ (k : Int) < (l.length : Int) := by omega
      go_wp2
      go_ret
      exact ⟨rfl, kr⟩
set_option maxRecDepth 8000 in
set_option maxHeartbeats 4000000 in
theorem rEqual_refl (e : Ev) (v u : Value) (w : World) (ha : Ints w v e.past) (hb : Ints w u e.past) : Calls Try.prog 54 #[evV e v, evV e u] w fun x w' => x = .returned (.bool true) ∧ Kp w w' := by
  obtain ⟨r, n, t, pa, kd, ac, ⟨⟨g1, g2, g3⟩, g4⟩, ds, pl, se⟩ := e
  dsimp only at ha hb
  dsimp only [evV, evL]
  have k1 := (Kp.refl w).alloc (.cells #[.int .i64 r, .int .i64 n, .int .i64 t, v, .int .i64 kd, .int .i64 ac, .int .i64 g1, .int .i64 g2, .int .i64 g3, .int .i64 g4, .int .i64 ds, .int .i64 pl, .int .i64 se] 33)
  have BA := Bx.new w #[.int .i64 r, .int .i64 n, .int .i64 t, v, .int .i64 kd, .int .i64 ac, .int .i64 g1, .int .i64 g2, .int .i64 g3, .int .i64 g4, .int .i64 ds, .int .i64 pl, .int .i64 se] 33
  have z1 := World.size_alloc w (.cells #[.int .i64 r, .int .i64 n, .int .i64 t, v, .int .i64 kd, .int .i64 ac, .int .i64 g1, .int .i64 g2, .int .i64 g3, .int .i64 g4, .int .i64 ds, .int .i64 pl, .int .i64 se] 33)
  go_enter Try.func54, Try.ntmps54
  go_upto_region 1 with (fail)
  generalize w.alloc (.cells #[.int .i64 r, .int .i64 n, .int .i64 t, v, .int .i64 kd, .int .i64 ac, .int .i64 g1, .int .i64 g2, .int .i64 g3, .int .i64 g4, .int .i64 ds, .int .i64 pl, .int .i64 se] 33) = wa at *
  have k2 := (Kp.refl wa).alloc (.cells #[.int .i64 r, .int .i64 n, .int .i64 t, u, .int .i64 kd, .int .i64 ac, .int .i64 g1, .int .i64 g2, .int .i64 g3, .int .i64 g4, .int .i64 ds, .int .i64 pl, .int .i64 se] 33)
  have BB := Bx.new wa #[.int .i64 r, .int .i64 n, .int .i64 t, u, .int .i64 kd, .int .i64 ac, .int .i64 g1, .int .i64 g2, .int .i64 g3, .int .i64 g4, .int .i64 ds, .int .i64 pl, .int .i64 se] 33
  have BA2 := BA.kp k2 (BA.lt (by simp))
  generalize wa.alloc (.cells #[.int .i64 r, .int .i64 n, .int .i64 t, u, .int .i64 kd, .int .i64 ac, .int .i64 g1, .int .i64 g2, .int .i64 g3, .int .i64 g4, .int .i64 ds, .int .i64 pl, .int .i64 se] 33) = wb at *
  have k02 := k1.trans k2
  obtain ⟨xa, hxa⟩ : ∃ xa, xa = w.heap.size := ⟨_, rfl⟩
  obtain ⟨xb, hxb⟩ : ∃ xb, xb = xa + 1 := ⟨_, rfl⟩
  rw [← hxa] at BA2 z1 ⊢
  rw [← hxb] at z1 ⊢
  rw [z1] at BB
  replace hxa := hid hxa
  replace hxb := hid hxb
  replace z1 := hid z1
  clear BA k1 k2
  have ha2 := ha.keep (pl_stable _) k02
  have hb2 := hb.keep (pl_stable _) k02
  have C := hid (rInts_refl pa v u wb ha2 hb2)
  have a0 := BA2.cell (j := 0) rfl
  have a1 := BA2.cell (j := 1) rfl
  have a2 := BA2.cell (j := 2) rfl
  have a3 := BA2.cell (j := 3) rfl
  have b0 := BB.cell (j := 0) rfl
  have b1 := BB.cell (j := 1) rfl
  have b2 := BB.cell (j := 2) rfl
  have b3 := BB.cell (j := 3) rfl
  have hla := BA2.lt (by simp)
  have hlb := BB.lt (by simp)
  go_wp2_with fail
  refine C.out.mono ?_
  rintro z w1 ⟨rfl, kz⟩
  have BA3 := BA2.kp kz hla
  have BB3 := BB.kp kz hlb
  have kf := k02.trans kz
  clear a0 a1 a2 a3 b0 b1 b2 b3 BA2 BB C
  have a4 := BA3.cell (j := 4) rfl
  have a5 := BA3.cell (j := 5) rfl
  have a6 := BA3.cell (j := 6) rfl
  have a7 := BA3.cell (j := 7) rfl
  have a8 := BA3.cell (j := 8) rfl
  have a9 := BA3.cell (j := 9) rfl
  have a10 := BA3.cell (j := 10) rfl
  have a11 := BA3.cell (j := 11) rfl
  have a12 := BA3.cell (j := 12) rfl
  have b4 := BB3.cell (j := 4) rfl
  have b5 := BB3.cell (j := 5) rfl
  have b6 := BB3.cell (j := 6) rfl
  have b7 := BB3.cell (j := 7) rfl
  have b8 := BB3.cell (j := 8) rfl
  have b9 := BB3.cell (j := 9) rfl
  have b10 := BB3.cell (j := 10) rfl
  have b11 := BB3.cell (j := 11) rfl
  have b12 := BB3.cell (j := 12) rfl
  have hl3 := BA3.lt (by simp)
  have hl4 := BB3.lt (by simp)
  have hnd := eqNd4
  have hnd2 := run_eql_nd
  go_wp2
  go_ret
  exact ⟨by simp, kf⟩
theorem Sl.evAt {w : World} {A : Option Addr} {n c : Nat} {l : List Ev} (h : Evs w (.slice A n c) l) {k : Nat} (hk : k < l.length) : ∃ b o v, A = some ⟨b, o, none⟩ ∧ b < w.heap.size ∧ w.rangeAt b (o + k * 13) (evL l[k] v) ∧ Ints w v l[k].past := by
  obtain ⟨b, o, cs, hA, had, hcs, hc, v, rfl, hv⟩ := h.at_ hk
  exact ⟨b, o, v, hA, had, fun j u hu => hc j u hu, hv⟩
theorem rangeAt_kp {w w' : World} {b o : Nat} {L : List Value} (h : w.rangeAt b o L) (k : Kp w w') : w'.rangeAt b o L := fun j u hu => k.cellS (h j u hu)
set_option maxRecDepth 8000 in
set_option maxHeartbeats 4000000 in
theorem rSame_refl (l : List Ev) (va vb : Value) (w : World) (ha : Evs w va l) (hb : Evs w vb l) : Calls Try.prog 20 #[va, vb] w fun e w' => e = .returned (.bool true) ∧ Kp w w' := by
  obtain ⟨A, ca, rfl, hca, hma⟩ := ha.form
  obtain ⟨B, cb, rfl, hcb, hmb⟩ := hb.form
  go_enter Try.func20, Try.ntmps20
  go_wp2
  go_loopw [5] (fun i wr => ∃ k : Nat, k ≤ l.length ∧ i = .int .i64 k ∧ Kp w wr) (fun i _ => l.length - (intOf i).toNat)
  case atStart => exact ⟨0, Nat.zero_le _, rfl, Kp.refl _⟩
  case round =>
    obtain ⟨k, hk, rfl, kr⟩ := hrel
    obtain ⟨wo, rfl⟩ : ∃ wo : World, wo = wr := ⟨_, rfl⟩
    by_cases hlt : k < l.length
    · have hkl : (k : Int) < (l.length : Int) := by omega
      have hk0 : (0 : Int) ≤ (k : Int) := by omega
      obtain ⟨p, o, v1, rfl, hp, i0, j0⟩ := Sl.evAt (ha.keep rdEv_stable kr) hlt
      obtain ⟨q, o', v2, rfl, hq, i1, j1⟩ := Sl.evAt (hb.keep rdEv_stable kr) hlt
      have HE : Hid (∀ W, Kp wo W → Calls Try.prog 54 #[.agg (evL l[k] v1).toArray, .agg (evL l[k] v2).toArray] W fun x w' => x = .returned (.bool true) ∧ Kp W w') := hid fun W kW => rEqual_refl l[k] v1 v2 W (j0.keep (pl_stable _) kW) (j1.keep (pl_stable _) kW)
      have l1 : (evL l[k] v1).length = 13 := rfl
      have l2 : (evL l[k] v2).length = 13 := rfl
      generalize evL l[k] v1 = L1 at *
      generalize evL l[k] v2 = L2 at *
      clear j0 j1
      go_upto_region 6 with (fail)
      refine G2.wp_region_growT Kp [] 9 27 (G2.pvL [G2.eqv (.slice (some ⟨p, o, none⟩) l.length ca), G2.eqv (.int .i64 (k : Int)), G2.eqv (.pointer (some ⟨p, o + k * 13, none⟩)), G2.eqv (.agg L1.toArray), G2.eqv (.slice (some ⟨q, o', none⟩) l.length cb), G2.eqv (.int .i64 (k : Int)), G2.eqv (.pointer (some ⟨q, o' + k * 13, none⟩)), G2.eqv (.agg L2.toArray), G2.eqv (.bool true)]) (by kernel_rfl) (by kernel_rfl) rfl (fun x => Kp.refl x) (fun _ _ _ h k => h.trans k) (Kp.refl _).drew (by intro _ _ _ _ _ h; exact h) (G2.pvL_keep (G2.stabL_cons (G2.stab_eq _) (G2.stabL_cons (G2.stab_eq _) (G2.stabL_cons (G2.stab_eq _) (G2.stabL_cons (G2.stab_eq _) (G2.stabL_cons (G2.stab_eq _) (G2.stabL_cons (G2.stab_eq _) (G2.stabL_cons (G2.stab_eq _) (G2.stabL_cons (G2.stab_eq _) (G2.stabL_cons (G2.stab_eq _) (G2.stabL_nil))))))))))) (G2.stepsT_cons 0 ?_ (G2.stepsT_cons 1 ?_ (G2.stepsT_cons 2 ?_ (G2.stepsT_cons 3 ?_ (G2.stepsT_cons 4 ?_ (G2.stepsT_cons 5 ?_ (G2.stepsT_cons 6 ?_ (G2.stepsT_cons 7 ?_ (G2.stepsT_cons 8 ?_ (G2.stepsT_nil _ _ _)))))))))) ?_ ?_
      · intro a w' hk hF hD K hK
        have h0 : a.tmps[0]?.getD undef = .slice (some ⟨p, o, none⟩) l.length ca := hF 0 (by kernel_rfl)
        clear hF hD
        go_simp
        exact hK.out _ _ (Kp.refl _) rfl
      · intro a w' hk hF hD K hK
        have h5 : a.tmps[5]?.getD undef = .int .i64 (k : Int) := hF 5 (by kernel_rfl)
        clear hF hD
        go_simp
        exact hK.out _ _ (Kp.refl _) rfl
      · intro a w' hk hF hD K hK
        have h17 : a.tmps[17]?.getD undef = .slice (some ⟨p, o, none⟩) l.length ca := hD 0 (by kernel_rfl)
        have h18 : a.tmps[18]?.getD undef = .int .i64 (k : Int) := hD 1 (by kernel_rfl)
        clear hF hD
        go_simp
        exact hK.out _ _ (Kp.refl _) rfl
      · intro a w' hk hF hD K hK
        have h19 : a.tmps[19]?.getD undef = .pointer (some ⟨p, o + k * 13, none⟩) := hD 2 (by kernel_rfl)
        clear hF hD
        rw [if_pos (by simp [Region.wanted])]
        refine wp_load_mid 33 (.tmp 19) rfl p (o + k * 13) ((eval_tmp _ _).trans h19) L1 _ (rangeAt_kp i0 hk) Try.underlying33 rfl (iEv l1) ?_
        exact hK.out _ _ (Kp.refl _) rfl
      · intro a w' hk hF hD K hK
        have h1 : a.tmps[1]?.getD undef = .slice (some ⟨q, o', none⟩) l.length cb := hF 1 (by kernel_rfl)
        clear hF hD
        go_simp
        exact hK.out _ _ (Kp.refl _) rfl
      · intro a w' hk hF hD K hK
        have h5 : a.tmps[5]?.getD undef = .int .i64 (k : Int) := hF 5 (by kernel_rfl)
        clear hF hD
        go_simp
        exact hK.out _ _ (Kp.refl _) rfl
      · intro a w' hk hF hD K hK
        have h21 : a.tmps[21]?.getD undef = .slice (some ⟨q, o', none⟩) l.length cb := hD 4 (by kernel_rfl)
        have h22 : a.tmps[22]?.getD undef = .int .i64 (k : Int) := hD 5 (by kernel_rfl)
        clear hF hD
        go_simp
        exact hK.out _ _ (Kp.refl _) rfl
      · intro a w' hk hF hD K hK
        have h23 : a.tmps[23]?.getD undef = .pointer (some ⟨q, o' + k * 13, none⟩) := hD 6 (by kernel_rfl)
        clear hF hD
        rw [if_pos (by simp [Region.wanted])]
        refine wp_load_mid 33 (.tmp 23) rfl q (o' + k * 13) ((eval_tmp _ _).trans h23) L2 _ (rangeAt_kp i1 hk) Try.underlying33 rfl (iEv l2) ?_
        exact hK.out _ _ (Kp.refl _) rfl
      · intro a w' hk hF hD K hK
        have h20 : a.tmps[20]?.getD undef = .agg L1.toArray := hD 3 (by kernel_rfl)
        have h24 : a.tmps[24]?.getD undef = .agg L2.toArray := hD 7 (by kernel_rfl)
        clear hF hD
        go_simp
        refine (HE.out _ hk).mono ?_
        rintro e w9 ⟨rfl, k9⟩
        exact hK.out _ _ k9 rfl
      · exact fun i0 hi0 => by simp at hi0
      intro v w9 k9 hv
      have v8 : v 8 = .bool true := hv 8 (by omega)
      clear hv
      simp only [G2.growPut, G2.gSlot, List.getElem?_toArray, List.getElem?_cons_zero, List.getElem?_cons_succ, Option.bind_some, List.setIfInBounds_toArray, List.set_cons_zero, List.set_cons_succ, List.drop_succ_cons, List.drop_zero, v8]
      have ku := kr.trans k9
      clear i0 i1 HE
      go_wp2_with fail
      go_roundw
      case rel => exact ⟨k + 1, by omega, by go_num, ku⟩
      case measure => simp [intOf]; omega
    · have hkl : ¬ (k : Int) < (l.length : Int) := by omega
      go_wp2
      go_ret
      exact ⟨rfl, kr⟩
end Go.Proofs.Ytcddllaljgfjbaa
