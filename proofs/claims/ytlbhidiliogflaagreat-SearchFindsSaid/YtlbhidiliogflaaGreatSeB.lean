
/-
Search: whether an edge closes a cycle: the walk.
-/
import Derived.Test.YtlbhidiliogflaaGreatSeA
namespace Go.Proofs.YtlbhidiliogflaaGreat
set_option linter.unusedSimpArgs false
set_option linter.unusedVariables false
open Go.RowKit

theorem gr_facts {n : Nat} {g : Gr} (h : grOk n g = true) : ∃ f s : Nat, g.first = (f : Int) ∧ g.size = (s : Int) ∧ 1 ≤ s ∧ s ≤ 6 ∧ f + s * s ≤ n ∧ g.least.length = s * s ∧ g.least.length ≤ 36 := by
  unfold grOk at h
  rw [Bool.and_eq_true, decide_eq_true_eq] at h
  obtain ⟨⟨h1, h2, h3, h4, h5⟩, -⟩ := h
  obtain ⟨f, hf⟩ := Int.eq_ofNat_of_zero_le h3
  obtain ⟨s, hs⟩ := Int.eq_ofNat_of_zero_le (show 0 ≤ g.size by omega)
  rw [hs] at h1 h2 h4 h5
  rw [hf] at h4
  have e : (s : Int) * (s : Int) = ((s * s : Nat) : Int) := by push_cast; rfl
  rw [e] at h4 h5
  have hs6 : s ≤ 6 := by omega
  have h36 : s * s ≤ 36 := Nat.le_trans (Nat.mul_le_mul hs6 hs6) (by omega)
  exact ⟨f, s, hf, hs, by omega, hs6, by omega, by omega, by omega⟩
theorem presB_take (g : Gr) (b : List Rng) (j : Nat) (h : j < g.least.length) : (presB g b).take (j + 1) = (presB g b).take j ++ [decide (g.least.getD j 0 ≤ (pick b (g.first + (j : Int))).lo)] := by
  rw [List.take_succ_eq_append_getElem (by rw [presB_len]; exact h)]
  simp [presB]
theorem set_pad {L P : List Bool} {n j : Nat} {x : Bool} (hP : P.length = n) (hj : j < n) (hL : L = P.take j ++ List.replicate (n - j) false) (ht : P.take (j + 1) = P.take j ++ [x]) : L.set j x = P.take (j + 1) ++ List.replicate (n - (j + 1)) false := by
  have h1 : (P.take j).length = j := by rw [List.length_take]; omega
  have h2 : n - j = (n - (j + 1)) + 1 := by omega
  rw [hL, h2, List.replicate_succ, List.set_append, if_neg (by omega), h1, Nat.sub_self, List.set_cons_zero, ht, List.append_assoc]
  rfl
set_option maxRecDepth 8000 in
set_option maxHeartbeats 4000000 in
theorem closes_any (va vb : Value) (g : Gr) (box : List Rng) (k : Nat) (w : World) (hg : GrV w va g) (hb : Rngs w vb box) (hok : grOk box.length g = true) (hn : box.length ≤ 1000) (hk : k < g.least.length) :
    Calls Tryz.prog 76 #[va, vb, .int .i64 (k : Int)] w fun e w' => e = .returned (.bool (closB g box k)) ∧ Kp w w' := by
  obtain ⟨f, s, hf, hs, hs1, hs6, hfs, hll, h36⟩ := gr_facts hok
  obtain ⟨A, c, rfl, hl⟩ := hg
  obtain ⟨Ab, cb, rfl, hcb, hmb⟩ := hb.form
  obtain ⟨hc, hm⟩ := hl.caps
  obtain ⟨fi, sz, le⟩ := g
  dsimp only at *
  subst hf hs
  have HG : Hid (closB ⟨(f : Int), (s : Int), le⟩ box k = !decide ((pathPub (s : Int) (presB ⟨(f : Int), (s : Int), le⟩ box) ((k : Int).tmod (s : Int)) ((k : Int).tdiv (s : Int))).length = 0)) := hid rfl
  have HPL := hid (presB_len ⟨(f : Int), (s : Int), le⟩ box)
  have HPT : Hid (∀ j, j < le.length → _) := hid (presB_take ⟨(f : Int), (s : Int), le⟩ box)
  dsimp only at HPL
  generalize presB ⟨(f : Int), (s : Int), le⟩ box = P at *
  generalize closB ⟨(f : Int), (s : Int), le⟩ box k = R at *
  have HLL := hid hll
  have hfn : f + le.length ≤ box.length := by rw [hll]; exact hfs
  clear hok hll hfs
  generalize hnl : le.length = n at *
  have k0 := (Kp.refl w).alloc (.cells #[.int .i64 (f : Int), .int .i64 (s : Int), .slice A n c] 83)
  have hB0 := Bx.new w #[.int .i64 (f : Int), .int .i64 (s : Int), .slice A n c] 83
  have la := alloc_lt w (.cells #[.int .i64 (f : Int), .int .i64 (s : Int), .slice A n c] 83)
  go_enter Tryz.func76, Tryz.ntmps76
  go_upto_region 1 with (fail)
  generalize w.alloc (.cells #[.int .i64 (f : Int), .int .i64 (s : Int), .slice A n c] 83) = w1 at *
  generalize hb0 : w.heap.size = b0 at *
  simp only [List.toList_toArray] at hB0
  have c0 := hB0.cell (j := 0) rfl
  have c1 := hB0.cell (j := 1) rfl
  have c2 := hB0.cell (j := 2) rfl
  have HNL := hid hnl
  have HB0 := hid hb0
  clear hnl hb0
  go_upto_region 2 with (refine wpl_make_flat (enc := encBool) (base := w1.heap.size) rfl (.tmp 12) (.tmp 12) rfl stBoolM false (zero_of (u := .bool false) (by kernel_rfl) rfl) n rfl rfl (by omega) (by omega) (Nat.le_refl _) ?_; intro w2 own1 k1 z1)
  have hB2 := hB0.kp k1 la
  have k2 := k0.trans k1
  generalize hb1 : w1.heap.size = b1 at *
  clear hB0 c0 c1 c2
  have c2 := hB2.cell (j := 2) rfl
  go_wp2_with fail
  go_loopw [17] (fun i wr => ∃ (j : Nat) (L : List Bool), j ≤ n ∧ i = .int .i64 j ∧ L.length = n ∧ Hid (L = P.take j ++ List.replicate (n - j) false) ∧ Own encBool 4 1 b1 wr (.slice (some ⟨b1, 0, none⟩) n n) L ∧ Kp w wr ∧ b1 < wr.heap.size ∧ Bx wr b0 [.int .i64 (f : Int), .int .i64 (s : Int), .slice A n c]) (fun i _ => n - (intOf i).toNat)
  case atStart => exact ⟨0, _, Nat.zero_le _, rfl, by simp, hid (by simp), own1, k2, by omega, hB2⟩
  case round =>
    clear own1 hB2 c2
    obtain ⟨j, L, hj, rfl, hL, HL, own, kr, hz, hB⟩ := hrel
    have c0 := hB.cell (j := 0) rfl
    have c1 := hB.cell (j := 1) rfl
    have c2 := hB.cell (j := 2) rfl
    by_cases hlt : j < n
    · have hjb : f + j < box.length := by omega
      obtain ⟨gl, ol, rfl, hgl, i0⟩ := (hl.keep (pl_stable _) kr).ints (k := j) (by rw [HNL.out]; exact hlt)
      obtain ⟨gb, ob, rfl, hgb, i1, i2⟩ := (hb.keep (pl_stable _) kr).rng hjb
      have own2 := own.boolSet hL.symm (k := j) (by omega) (decide (le.getD j 0 ≤ (pick box ((f : Int) + (j : Int))).lo))
      have HN := hid (set_pad HPL.out hlt HL.out (HPT.out j hlt))
      have hx1 : le.getD j 0 = le[j]'(by rw [HNL.out]; exact hlt) := by rw [List.getD_eq_getElem?_getD, List.getElem?_eq_getElem]; rfl
      have hx2 : pick box ((f : Int) + (j : Int)) = box[f + j] := by rw [show (f : Int) + (j : Int) = ((f + j : Nat) : Int) by push_cast; rfl]; exact pick_at box (f + j) hjb
      rw [hx1, hx2] at own2 HN
      clear hx1 hx2
      have hc' := own.boolCell hL.symm (k := j) (by omega)
      have hfz := own.frozen hL.symm j
      have hk2 := kr.set (p := ⟨b1, j, none⟩) (by show w.heap.size ≤ b1; rw [HB0.out]; omega) (.bool (decide (le[j]'(by rw [HNL.out]; exact hlt) ≤ box[f + j].lo)))
      have hB3 := hB.keep (set_block wr ⟨b1, j, none⟩ (.bool (decide (le[j]'(by rw [HNL.out]; exact hlt) ≤ box[f + j].lo))) b0 (by show b0 ≠ b1; omega))
      have hL2 : (L.set j (decide (le[j]'(by rw [HNL.out]; exact hlt) ≤ box[f + j].lo))).length = n := by rw [List.length_set]; exact hL
      have hz2 : b1 < (wr.setCell ⟨b1, j, none⟩ (.bool (decide (le[j]'(by rw [HNL.out]; exact hlt) ≤ box[f + j].lo)))).heap.size := by simpa [World.setCell] using hz
      generalize le[j]'(by rw [HNL.out]; exact hlt) = x at *
      generalize box[f + j].lo = y at *
      generalize box[f + j].hi = y2 at *
      generalize L[j] = x0 at *
      generalize L.set j (decide (x ≤ y)) = L2 at *
      clear hL own hB
      have q1 : (0 : Int) ≤ j := by omega
      have q2 : (j : Int) < n := by omega
      have q3 : (0 : Int) ≤ (f : Int) + (j : Int) := by omega
      have q4 : (f : Int) + (j : Int) < (box.length : Int) := by omega
      have q5 : ((f : Int) + (j : Int)).toNat = f + j := by omega
      obtain ⟨hw1, hw2⟩ : wrap64 ((f : Int) + (j : Int)) = (f : Int) + (j : Int) ∧ IntKind.i64.wrap ((f : Int) + (j : Int)) = (f : Int) + (j : Int) := ⟨IntWalk.wrap64_in _ (by omega), IntWalk.i64_in _ (by omega)⟩
      clear hl hb
      go_wp2
      go_roundw
      case rel => exact ⟨j + 1, L2, by omega, by go_num, hL2, HN, own2, hk2, hz2, hB3⟩
      case measure => simp [intOf]; omega
    · have HLP : Hid (L = P) := hid (by rw [HL.out, show j = n by omega, Nat.sub_self, List.take_of_length_le (by rw [HPL.out]; exact Nat.le_refl _)]; simp)
      have hPl : L.length = n := hL
      have hBo := Bools.own own hL
      rw [hPl] at hBo
      have hs0 : ¬ (s : Int) = 0 := by omega
      have hs2 : (s : Int) ≠ 0 := by omega
      have hkp : (0 : Int) ≤ (k : Int) := by omega
      have hkn : k ≤ 36 := by omega
      have hs3 : ¬ s = 0 := by omega
      have w3 : IntKind.i64.wrap ((k : Int) / (s : Int)) = (k : Int).tdiv (s : Int) := by
        rw [Int.tdiv_eq_ediv_of_nonneg hkp]
        have e1 : (k : Int) / (s : Int) = ((k / s : Nat) : Int) := by simp
        have e2 : k / s ≤ k := Nat.div_le_self _ _
        rw [e1]
        generalize k / s = q at *
        exact IntWalk.i64_in _ (by omega)
      have w4 : IntKind.i64.wrap ((k : Int).tmod (s : Int)) = (k : Int).tmod (s : Int) := by
        rw [Int.tmod_eq_emod_of_nonneg hkp]
        have e1 : (k : Int) % (s : Int) = ((k % s : Nat) : Int) := by simp
        have e2 : k % s ≤ k := Nat.mod_le _ _
        rw [e1]
        generalize k % s = q at *
        exact IntWalk.i64_in _ (by omega)
      rw [HLP.out] at hBo
      obtain ⟨D, HD⟩ : ∃ D : Nat, Hid (D = (pathPub (s : Int) P ((k : Int).tmod (s : Int)) ((k : Int).tdiv (s : Int))).length) := ⟨_, hid rfl⟩
      replace hL := hid hL
      replace hPl := hid hPl
      go_wp2_with fail
      refine G2.wp_region_growT Kp [] 14 50 (G2.pvL [G2.eqv (.pointer (some ⟨b0, 1, none⟩)), G2.eqv (.int .i64 (s : Int)), G2.eqv (.slice (some ⟨b1, 0, none⟩) n n), G2.eqv (.int .i64 (k : Int)), G2.eqv (.pointer (some ⟨b0, 1, none⟩)), G2.eqv (.int .i64 (s : Int)), G2.eqv (.int .i64 ((k : Int).tmod (s : Int))), G2.eqv (.int .i64 (k : Int)), G2.eqv (.pointer (some ⟨b0, 1, none⟩)), G2.eqv (.int .i64 (s : Int)), G2.eqv (.int .i64 ((k : Int).tdiv (s : Int))), (fun v w => ∃ A c, v = .slice A D c), G2.eqv (.int .i64 (D : Int)), G2.eqv (.bool (decide (0 < D)))]) (by kernel_rfl) (by kernel_rfl) rfl (fun x => Kp.refl x) (fun _ _ _ h k => h.trans k) (Kp.refl _).drew (fun _ _ _ _ _ h => h) (G2.pvL_keep (G2.stabL_cons (G2.stab_eq _) (G2.stabL_cons (G2.stab_eq _) (G2.stabL_cons (G2.stab_eq _) (G2.stabL_cons (G2.stab_eq _) (G2.stabL_cons (G2.stab_eq _) (G2.stabL_cons (G2.stab_eq _) (G2.stabL_cons (G2.stab_eq _) (G2.stabL_cons (G2.stab_eq _) (G2.stabL_cons (G2.stab_eq _) (G2.stabL_cons (G2.stab_eq _) (G2.stabL_cons (G2.stab_eq _) (G2.stabL_cons (fun _ _ _ h _ => h) (G2.stabL_cons (G2.stab_eq _) (G2.stabL_cons (G2.stab_eq _) (G2.stabL_nil)))))))))))))))) (G2.stepsT_cons 0 ?_ (G2.stepsT_cons 1 ?_ (G2.stepsT_cons 2 ?_ (G2.stepsT_cons 3 ?_ (G2.stepsT_cons 4 ?_ (G2.stepsT_cons 5 ?_ (G2.stepsT_cons 6 ?_ (G2.stepsT_cons 7 ?_ (G2.stepsT_cons 8 ?_ (G2.stepsT_cons 9 ?_ (G2.stepsT_cons 10 ?_ (G2.stepsT_cons 11 ?_ (G2.stepsT_cons 12 ?_ (G2.stepsT_cons 13 ?_ (G2.stepsT_nil _ _ _))))))))))))))) ?_ ?_
      · intro a w' hk hF hD K hK
        have h3 : a.tmps[3]?.getD undef = .pointer (some ⟨b0, 0, none⟩) := hF 3 (by kernel_rfl)
        clear hF hD
        go_simp
        exact hK.out _ _ (Kp.refl _) rfl
      · intro a w' hk hF hD K hK
        have h36 : a.tmps[36]?.getD undef = .pointer (some ⟨b0, 1, none⟩) := hD 0 (by kernel_rfl)
        clear hF hD
        have z0 := hk.cellS c1
        go_simp
        exact hK.out _ _ (Kp.refl _) rfl
      · intro a w' hk hF hD K hK
        have h7 : a.tmps[7]?.getD undef = .slice (some ⟨b1, 0, none⟩) n n := hF 7 (by kernel_rfl)
        clear hF hD
        go_simp
        exact hK.out _ _ (Kp.refl _) rfl
      · intro a w' hk hF hD K hK
        have h2 : a.tmps[2]?.getD undef = .int .i64 (k : Int) := hF 2 (by kernel_rfl)
        clear hF hD
        go_simp
        exact hK.out _ _ (Kp.refl _) rfl
      · intro a w' hk hF hD K hK
        have h3 : a.tmps[3]?.getD undef = .pointer (some ⟨b0, 0, none⟩) := hF 3 (by kernel_rfl)
        clear hF hD
        go_simp
        exact hK.out _ _ (Kp.refl _) rfl
      · intro a w' hk hF hD K hK
        have h40 : a.tmps[40]?.getD undef = .pointer (some ⟨b0, 1, none⟩) := hD 4 (by kernel_rfl)
        clear hF hD
        have z0 := hk.cellS c1
        go_simp
        exact hK.out _ _ (Kp.refl _) rfl
      · intro a w' hk hF hD K hK
        have h39 : a.tmps[39]?.getD undef = .int .i64 (k : Int) := hD 3 (by kernel_rfl)
        have h41 : a.tmps[41]?.getD undef = .int .i64 (s : Int) := hD 5 (by kernel_rfl)
        clear hF hD
        go_simp
        exact hK.out _ _ (Kp.refl _) rfl
      · intro a w' hk hF hD K hK
        have h2 : a.tmps[2]?.getD undef = .int .i64 (k : Int) := hF 2 (by kernel_rfl)
        clear hF hD
        go_simp
        exact hK.out _ _ (Kp.refl _) rfl
      · intro a w' hk hF hD K hK
        have h3 : a.tmps[3]?.getD undef = .pointer (some ⟨b0, 0, none⟩) := hF 3 (by kernel_rfl)
        clear hF hD
        go_simp
        exact hK.out _ _ (Kp.refl _) rfl
      · intro a w' hk hF hD K hK
        have h44 : a.tmps[44]?.getD undef = .pointer (some ⟨b0, 1, none⟩) := hD 8 (by kernel_rfl)
        clear hF hD
        have z0 := hk.cellS c1
        go_simp
        exact hK.out _ _ (Kp.refl _) rfl
      · intro a w' hk hF hD K hK
        have h43 : a.tmps[43]?.getD undef = .int .i64 (k : Int) := hD 7 (by kernel_rfl)
        have h45 : a.tmps[45]?.getD undef = .int .i64 (s : Int) := hD 9 (by kernel_rfl)
        clear hF hD
        go_simp
        exact hK.out _ _ (Kp.refl _) rfl
      · intro a w' hk hF hD K hK
        have h37 : a.tmps[37]?.getD undef = .int .i64 (s : Int) := hD 1 (by kernel_rfl)
        have h38 : a.tmps[38]?.getD undef = .slice (some ⟨b1, 0, none⟩) n n := hD 2 (by kernel_rfl)
        have h42 : a.tmps[42]?.getD undef = .int .i64 ((k : Int).tmod (s : Int)) := hD 6 (by kernel_rfl)
        have h46 : a.tmps[46]?.getD undef = .int .i64 ((k : Int).tdiv (s : Int)) := hD 10 (by kernel_rfl)
        clear hF hD
        go_simp
        refine (dPathP_any (s : Int) _ P ((k : Int).tmod (s : Int)) ((k : Int).tdiv (s : Int)) _ (hBo.keep (pl_stable _) hk)).mono ?_
        rintro e w9 ⟨v9, rfl, hI, hk9⟩
        obtain ⟨Ap, cp, rfl, -, -⟩ := hI.form
        rw [← HD.out]
        exact hK.out _ _ hk9 ⟨_, _, rfl⟩
      · intro a w' hk hF hD K hK
        have h47 : (fun v w => ∃ A c, v = .slice A D c) (a.tmps[47]?.getD undef) w' := hD 11 (by kernel_rfl)
        clear hF hD
        obtain ⟨Ap, cp, e11⟩ := h47
        go_simp
        exact hK.out _ _ (Kp.refl _) rfl
      · intro a w' hk hF hD K hK
        have h48 : a.tmps[48]?.getD undef = .int .i64 (D : Int) := hD 12 (by kernel_rfl)
        clear hF hD
        go_simp
        exact hK.out _ _ (Kp.refl _) rfl
      · exact fun i0 hi0 => by simp at hi0
      intro v w9 k9 hv
      have v13 : v 13 = .bool (decide (0 < D)) := hv 13 (by omega)
      clear hv
      simp only [G2.growPut, G2.gSlot, List.getElem?_toArray, List.getElem?_cons_zero, List.getElem?_cons_succ, Option.bind_some, List.setIfInBounds_toArray, List.set_cons_zero, List.set_cons_succ, List.drop_succ_cons, List.drop_zero, v13]
      have HF : Hid (decide (0 < D) = R) := hid (by
        rw [HG.out, ← HD.out, Bool.eq_iff_iff]
        simp only [decide_eq_true_eq, Bool.not_eq_true', decide_eq_false_iff_not]
        omega)
      generalize decide (0 < D) = r at *
      go_wp2
      go_ret
      exact ⟨ret_bool HF.out, kr.trans k9⟩
end Go.Proofs.YtlbhidiliogflaaGreat
