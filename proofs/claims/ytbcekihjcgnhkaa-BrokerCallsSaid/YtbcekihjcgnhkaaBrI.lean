
/-
The reference of the broker: the request of another replica: the walk.
-/
import Derived.Test.YtbcekihjcgnhkaaBrE
import Derived.Test.YtbcekihjcgnhkaaApz
namespace Go.Proofs.Ytbcekihjcgnhkaa
set_option linter.unusedSimpArgs false
set_option linter.unusedVariables false
open Go.RowKit

/-- the row of what was heard, copied: one of it is set -/
theorem HdX.put {X : Nat → Prop} {w w' : World} {base : Nat} {v : Value} {b : Bk} {L : List AV} {j : Nat} {y : AV} (hL : L.map (·.a) = hdL b.heard b.n.toNat) (ho : Own encAV 29 6 base w' v (L.set j y)) (hX : ∀ q, X q → q < base) (hn : ∀ x ∈ L, OwF X w fun w' => Nds w' x.v x.a.needs) (k : Kp w w')
    (hy : OwF X w' fun w' => Nds w' y.v y.a.needs) (hj : j < b.n.toNat) : HdX X w' v (hdL (setH b.heard (j : Int) y.a) b.n.toNat) := by
  refine ⟨L.set j y, ?_, fun w2 k2 => ((ho.owF hX).fx k2).here.sl encAV_len, fun x hx => ?_⟩
  · rw [List.map_set, hL, hdL_set _ _ hj]
  · rcases List.mem_or_eq_of_mem_set hx with hx | rfl
    · exact (hn x hx).kp k
    · exact hy
theorem hear_same {b : Bk} {j : Nat} {a : Ak} (h : validA (j : Int) a = true) : (b.heard (j : Int)).any (fun x => x.num == a.num) = (a.num == (hd b.heard j).num) := by
  unfold hd
  cases hb : b.heard (j : Int) with
  | none =>
    unfold validA btw at h
    simp only [Bool.and_eq_true, decide_eq_true_eq] at h
    have h1 := h.1.1.1
    show false = (a.num == 0)
    symm
    exact beq_false_of_ne (by omega)
  | some x =>
    show (x.num == a.num) = (a.num == x.num)
    rw [Bool.eq_iff_iff]
    simp only [beq_iff_eq]
    exact ⟨fun h => h.symm, fun h => h.symm⟩
set_option maxRecDepth 8000 in
set_option maxHeartbeats 8000000 in
theorem rHear41_any (X : Nat → Prop) (b : Bk) (k : Int) (a : Ak) (v va vh : Value) (w : World) (hR : RefX X w b va vh) (hX : ∀ q, X q → q < w.heap.size) (hv : Nds w v a.needs) :
    Calls Try.prog 24 #[.agg (refL b va vh).toArray, .int .i64 k, askV a v] w fun e w' => Kp w w' ∧ ∃ vh', e = .returned (.tuple #[.agg (refL (hear b k a).1 va vh').toArray, .int .i64 (hear b k a).2]) ∧ RefX X w' (hear b k a).1 va vh' := by
  obtain ⟨num, ⟨p1, p2, p3, p4⟩, l⟩ := a
  dsimp only at hv
  have hok := hR.ok
  have hn1 := hok.n1
  have hi1 := hok.i1
  obtain ⟨A, c, A', c', e1, e2⟩ := hR.form
  subst e1 e2
  obtain ⟨Al, cl, rfl, hlc, hll⟩ := hv.form
  have HRE : Hid (hear b k ⟨num, (p1, p2, p3, p4), l⟩ = if !btw k 0 (b.n - 1) || decide (k = b.i) then (b, 2) else if !validA k ⟨num, (p1, p2, p3, p4), l⟩ then (b, 1) else if (b.heard k).any (fun x => x.num == num) then (b, 6) else ({ b with heard := setH b.heard k ⟨num, (p1, p2, p3, p4), l⟩ }, 0)) := hid rfl
  have HBT : Hid (btw k 0 (b.n - 1) = (decide (0 ≤ k) && decide (k ≤ b.n - 1))) := hid rfl
  generalize hear b k ⟨num, (p1, p2, p3, p4), l⟩ = R at *
  have k1 := (Kp.refl w).alloc (.cells ((refL b (.slice A (lstO b.own).length c) (.slice A' b.n.toNat c'))).toArray 58)
  have B1 := Bx.new w ((refL b (.slice A (lstO b.own).length c) (.slice A' b.n.toNat c'))).toArray 58
  have z1 := World.size_alloc w (.cells ((refL b (.slice A (lstO b.own).length c) (.slice A' b.n.toNat c'))).toArray 58)
  go_enter Try.func24, Try.ntmps24
  go_upto_region 1 with (fail)
  generalize w.alloc (.cells ((refL b (.slice A (lstO b.own).length c) (.slice A' b.n.toNat c'))).toArray 58) = wa at *
  have k2 := (Kp.refl wa).alloc (.cells ([.int .i64 num, .int .i64 p1, .int .i64 p2, .int .i64 p3, .int .i64 p4, .slice Al l.length cl]).toArray 29)
  have B2 := Bx.new wa ([.int .i64 num, .int .i64 p1, .int .i64 p2, .int .i64 p3, .int .i64 p4, .slice Al l.length cl]).toArray 29
  have z2 := World.size_alloc wa (.cells ([.int .i64 num, .int .i64 p1, .int .i64 p2, .int .i64 p3, .int .i64 p4, .slice Al l.length cl]).toArray 29)
  generalize wa.alloc (.cells ([.int .i64 num, .int .i64 p1, .int .i64 p2, .int .i64 p3, .int .i64 p4, .slice Al l.length cl]).toArray 29) = wb at *
  have k3 := (Kp.refl wb).alloc (.cells ([.int .i64 0, .int .i64 0, .int .i64 0, .bool false, .int .i64 0, .int .i64 0, .int .i64 0, .int .i64 0, .slice none 0 0, .slice none 0 0]).toArray 58)
  have B3 := Bx.new wb ([.int .i64 0, .int .i64 0, .int .i64 0, .bool false, .int .i64 0, .int .i64 0, .int .i64 0, .int .i64 0, .slice none 0 0, .slice none 0 0]).toArray 58
  generalize wb.alloc (.cells ([.int .i64 0, .int .i64 0, .int .i64 0, .bool false, .int .i64 0, .int .i64 0, .int .i64 0, .int .i64 0, .slice none 0 0, .slice none 0 0]).toArray 58) = wc at *
  obtain ⟨x0, hx0⟩ : ∃ x0, x0 = w.heap.size := ⟨_, rfl⟩
  obtain ⟨ab, hab⟩ : ∃ ab, ab = x0 + 1 := ⟨_, rfl⟩
  obtain ⟨tB, htB⟩ : ∃ tB, tB = ab + 1 := ⟨_, rfl⟩
  rw [← hx0, ← hab] at z1
  rw [z1, ← htB] at z2
  rw [← hx0] at B1 ⊢
  rw [z1] at B2
  rw [z2] at B3
  rw [← hab, ← htB]
  try simp only [List.toList_toArray] at B1 B2 B3
  have hl1 := B1.lt (by simp)
  have hl2 := B2.lt (by simp)
  have hl3 := B3.lt (by simp)
  have B1c := (B1.kp k2 hl1).kp k3 (Nat.lt_of_lt_of_le hl1 k2.size)
  have BAc := B2.kp k3 hl2
  have B2c := B3
  have k03 := k1.trans (k2.trans k3)
  have hne : x0 < ab ∧ ab < tB ∧ w.heap.size ≤ x0 := by omega
  replace hx0 := hid hx0
  replace hab := hid hab
  replace htB := hid htB
  replace z1 := hid z1
  replace z2 := hid z2
  clear B1 B2 B3 k1 k2 k3 hl1 hl2 hl3
  have hl1 := B1c.lt (by simp)
  have hl2 := B2c.lt (by simp)
  have hla := BAc.lt (by simp)
  have kcc := Kp.refl wc
  have y0 := B1c.cell (j := 0) rfl
  have y1 := B1c.cell (j := 1) rfl
  have hpart : ∀ (h : btw k 0 (b.n - 1) = false ∨ k = b.i), Hid (R = (b, 2)) := fun h => hid (by
    rw [HRE.out, if_pos (by rcases h with h | h <;> simp [h])])
  by_cases h1 : k < 0
  · have e1 : decide (k < 0) = true := decide_eq_true h1
    have HF := hpart (.inl (by rw [HBT.out]; simp; omega))
    clear HRE hpart HBT
    have B1w := B1c.kp kcc hl1
    have B2w := B2c.kp kcc hl2
    have k0w := (k03).trans kcc
    obtain ⟨L, hL⟩ : ∃ L : List Value, Hid (L = (refL b (.slice A (lstO b.own).length c) (.slice A' b.n.toNat c'))) := ⟨_, hid rfl⟩
    rw [← hL.out] at B1w
    have rL := B1w.range
    have lL : L.length = 10 := by rw [hL.out]; rfl
    have iL : (Try.prog.info? 58).map (·.size) = some L.length := by rw [lL]; kernel_rfl
    have oL : ∀ u ∈ L, u.oneCell' = true := by rw [hL.out]; simp [Value.oneCell']
    have tL : (wc).there tB 0 L.toArray.size := by simpa [lL] using B2w.thereAt 0 10 (by simp)
    have iL2 : (Try.prog.info? 58).map (·.size) = some L.toArray.size := by simpa using iL
    have E1 := B2w.all (cs := L) (by rw [lL]; rfl)
    have kE : Kp w ((wc).setCells tB 0 L) := Kp.setCells (by omega) _ 0 _ k0w
    go_wp2_with (first | (refine wpList_load_mid rfl 58 (.tmp 3) rfl x0 0 rfl L _ rL Try.underlying58 rfl iL ?_) | (refine wpList_store_mid rfl 58 (.tmp 6) (.tmp 23) rfl tB 0 L.toArray rfl rfl tL iL2 (all_oneCell_toArray oL) ?_; rw [List.toList_toArray]; generalize (wc).setCells tB 0 L = w1 at *) | fail)
    try simp only [Exit.inBlock, Exit.then]
    refine bodyPost_ret (results_cell_bx2 rfl _ _ tB L _ rfl E1.range Try.underlying58 rfl iL) rfl ?_
    rw [HF.out]
    exact ⟨kE, .slice A' b.n.toNat c', by rw [hL.out]; rfl, hR.kp kE⟩
  · have e1 : decide (k < 0) = false := decide_eq_false h1
    by_cases h2 : b.n ≤ k
    · have e2 : decide (b.n ≤ k) = true := decide_eq_true h2
      have HF := hpart (.inl (by rw [HBT.out]; simp; omega))
      clear HRE hpart HBT
      have B1w := B1c.kp kcc hl1
      have B2w := B2c.kp kcc hl2
      have k0w := (k03).trans kcc
      obtain ⟨L, hL⟩ : ∃ L : List Value, Hid (L = (refL b (.slice A (lstO b.own).length c) (.slice A' b.n.toNat c'))) := ⟨_, hid rfl⟩
      rw [← hL.out] at B1w
      have rL := B1w.range
      have lL : L.length = 10 := by rw [hL.out]; rfl
      have iL : (Try.prog.info? 58).map (·.size) = some L.length := by rw [lL]; kernel_rfl
      have oL : ∀ u ∈ L, u.oneCell' = true := by rw [hL.out]; simp [Value.oneCell']
      have tL : (wc).there tB 0 L.toArray.size := by simpa [lL] using B2w.thereAt 0 10 (by simp)
      have iL2 : (Try.prog.info? 58).map (·.size) = some L.toArray.size := by simpa using iL
      have E1 := B2w.all (cs := L) (by rw [lL]; rfl)
      have kE : Kp w ((wc).setCells tB 0 L) := Kp.setCells (by omega) _ 0 _ k0w
      go_wp2_with (first | (refine wpList_load_mid rfl 58 (.tmp 3) rfl x0 0 rfl L _ rL Try.underlying58 rfl iL ?_) | (refine wpList_store_mid rfl 58 (.tmp 6) (.tmp 23) rfl tB 0 L.toArray rfl rfl tL iL2 (all_oneCell_toArray oL) ?_; rw [List.toList_toArray]; generalize (wc).setCells tB 0 L = w1 at *) | fail)
      try simp only [Exit.inBlock, Exit.then]
      refine bodyPost_ret (results_cell_bx2 rfl _ _ tB L _ rfl E1.range Try.underlying58 rfl iL) rfl ?_
      rw [HF.out]
      exact ⟨kE, .slice A' b.n.toNat c', by rw [hL.out]; rfl, hR.kp kE⟩
    · have e2 : decide (b.n ≤ k) = false := decide_eq_false h2
      by_cases h3 : k = b.i
      · have e3 : (k == b.i) = true := by rw [h3]; simp
        have HF := hpart (.inr h3)
        clear HRE hpart HBT
        replace h3 := hid h3
        have B1w := B1c.kp kcc hl1
        have B2w := B2c.kp kcc hl2
        have k0w := (k03).trans kcc
        obtain ⟨L, hL⟩ : ∃ L : List Value, Hid (L = (refL b (.slice A (lstO b.own).length c) (.slice A' b.n.toNat c'))) := ⟨_, hid rfl⟩
        rw [← hL.out] at B1w
        have rL := B1w.range
        have lL : L.length = 10 := by rw [hL.out]; rfl
        have iL : (Try.prog.info? 58).map (·.size) = some L.length := by rw [lL]; kernel_rfl
        have oL : ∀ u ∈ L, u.oneCell' = true := by rw [hL.out]; simp [Value.oneCell']
        have tL : (wc).there tB 0 L.toArray.size := by simpa [lL] using B2w.thereAt 0 10 (by simp)
        have iL2 : (Try.prog.info? 58).map (·.size) = some L.toArray.size := by simpa using iL
        have E1 := B2w.all (cs := L) (by rw [lL]; rfl)
        have kE : Kp w ((wc).setCells tB 0 L) := Kp.setCells (by omega) _ 0 _ k0w
        go_wp2_with (first | (refine wpList_load_mid rfl 58 (.tmp 3) rfl x0 0 rfl L _ rL Try.underlying58 rfl iL ?_) | (refine wpList_store_mid rfl 58 (.tmp 6) (.tmp 23) rfl tB 0 L.toArray rfl rfl tL iL2 (all_oneCell_toArray oL) ?_; rw [List.toList_toArray]; generalize (wc).setCells tB 0 L = w1 at *) | fail)
        try simp only [Exit.inBlock, Exit.then]
        refine bodyPost_ret (results_cell_bx2 rfl _ _ tB L _ rfl E1.range Try.underlying58 rfl iL) rfl ?_
        rw [HF.out]
        exact ⟨kE, .slice A' b.n.toNat c', by rw [hL.out]; rfl, hR.kp kE⟩
      · have e3 : (k == b.i) = false := beq_false_of_ne h3
        have hbt : btw k 0 (b.n - 1) = true := by rw [HBT.out]; simp; omega
        have HR2 : Hid (R = if !validA k ⟨num, (p1, p2, p3, p4), l⟩ then (b, 1) else if (b.heard k).any (fun x => x.num == num) then (b, 6) else ({ b with heard := setH b.heard k ⟨num, (p1, p2, p3, p4), l⟩ }, 0)) := hid (by rw [HRE.out, if_neg (by simp [hbt, h3])])
        obtain ⟨j, rfl⟩ := Int.eq_ofNat_of_zero_le (show 0 ≤ k by omega)
        replace hbt := hid hbt
        replace h3 := hid h3
        have a0 := BAc.cell (j := 0) rfl
        have a1 := BAc.cell (j := 1) rfl
        have a2 := BAc.cell (j := 2) rfl
        have a3 := BAc.cell (j := 3) rfl
        have a4 := BAc.cell (j := 4) rfl
        have a5 := BAc.cell (j := 5) rfl
        have HV := hid hv
        clear HRE hpart HBT hv
        go_wp2_with fail
        refine (rValidAsk_any (j : Int) ⟨num, (p1, p2, p3, p4), l⟩ _ wc (HV.out.keep (pl_stable _) k03)).mono ?_
        rintro e w2 ⟨rfl, k2⟩
        by_cases h4 : validA (j : Int) ⟨num, (p1, p2, p3, p4), l⟩ = true
        · rw [h4]
          have B1w := B1c.kp k2 hl1
          have y9 := B1w.cell (j := 9) rfl
          have a0 := (BAc.kp k2 hla).cell (j := 0) rfl
          have hjn : j < b.n.toNat := by omega
          have hHl : j < (hdL b.heard b.n.toNat).length := by rw [hdL_len]; exact hjn
          obtain ⟨g, o, Ak1, ck1, hA', hg, i0, -, -, -, -, -, -⟩ := askA_cells (hR.heard.aks.here.keep rdAk_stable (k03.trans k2)) hHl
          rw [hdL_at _ hjn] at i0
          obtain ⟨hn, hhn⟩ : ∃ hn, hn = (hd b.heard j).num := ⟨_, rfl⟩
          rw [← hhn] at i0
          have HQ := hid (hear_same (b := b) (j := j) (a := ⟨num, (p1, p2, p3, p4), l⟩) h4)
          rw [← hhn] at HQ
          replace h4 := hid h4
          replace hhn := hid hhn
          obtain ⟨n, hnn⟩ : ∃ n, n = b.n.toNat := ⟨_, rfl⟩
          rw [hA', ← hnn] at y9
          rw [← hnn] at hjn
          replace hA' := hid hA'
          have hjnI : (j : Int) < (n : Int) := by omega
          have hj0 : (0 : Int) ≤ (j : Int) := by omega
          replace hnn := hid hnn
          obtain ⟨bl, hbl⟩ : ∃ bl, (num == hn) = bl := ⟨_, rfl⟩
          have hblh := hid hbl
          go_upto_region 5 with (fail)
          refine G2.wp_region_growT Kp [] 9 57 (G2.pvL [G2.eqv (.pointer (some ⟨ab, 0, none⟩)), G2.eqv (.int .i64 num), G2.eqv (.pointer (some ⟨x0, 9, none⟩)), G2.eqv (.slice (some ⟨g, o, none⟩) n c'), G2.eqv (.int .i64 (j : Int)), G2.eqv (.pointer (some ⟨g, o + j * 6, none⟩)), G2.eqv (.pointer (some ⟨g, o + j * 6, none⟩)), G2.eqv (.int .i64 hn), G2.eqv (.bool bl)]) (by kernel_rfl) (by kernel_rfl) rfl (fun x => Kp.refl x) (fun _ _ _ h k => h.trans k) (Kp.refl _).drew (by intro _ _ _ _ _ h; exact h) (G2.pvL_keep (G2.stabL_cons (G2.stab_eq _) (G2.stabL_cons (G2.stab_eq _) (G2.stabL_cons (G2.stab_eq _) (G2.stabL_cons (G2.stab_eq _) (G2.stabL_cons (G2.stab_eq _) (G2.stabL_cons (G2.stab_eq _) (G2.stabL_cons (G2.stab_eq _) (G2.stabL_cons (G2.stab_eq _) (G2.stabL_cons (G2.stab_eq _) (G2.stabL_nil))))))))))) (G2.stepsT_cons 0 ?_ (G2.stepsT_cons 1 ?_ (G2.stepsT_cons 2 ?_ (G2.stepsT_cons 3 ?_ (G2.stepsT_cons 4 ?_ (G2.stepsT_cons 5 ?_ (G2.stepsT_cons 6 ?_ (G2.stepsT_cons 7 ?_ (G2.stepsT_cons 8 ?_ (G2.stepsT_nil _ _ _)))))))))) ?_ ?_
          · intro a w' hk hF hD K hK
            have h5 : a.tmps[5]?.getD undef = .pointer (some ⟨ab, 0, none⟩) := hF 5 (by kernel_rfl)
            clear hF hD
            go_simp
            exact hK.out _ _ (Kp.refl _) rfl
          · intro a w' hk hF hD K hK
            have h31 : a.tmps[31]?.getD undef = .pointer (some ⟨ab, 0, none⟩) := hD 0 (by kernel_rfl)
            clear hF hD
            have z0 := hk.cellS a0
            go_simp
            exact hK.out _ _ (Kp.refl _) rfl
          · intro a w' hk hF hD K hK
            have h3 : a.tmps[3]?.getD undef = .pointer (some ⟨x0, 0, none⟩) := hF 3 (by kernel_rfl)
            clear hF hD
            go_simp
            exact hK.out _ _ (Kp.refl _) rfl
          · intro a w' hk hF hD K hK
            have h33 : a.tmps[33]?.getD undef = .pointer (some ⟨x0, 9, none⟩) := hD 2 (by kernel_rfl)
            clear hF hD
            have z0 := hk.cellS y9
            go_simp
            exact hK.out _ _ (Kp.refl _) rfl
          · intro a w' hk hF hD K hK
            have h1 : a.tmps[1]?.getD undef = .int .i64 (j : Int) := hF 1 (by kernel_rfl)
            clear hF hD
            go_simp
            exact hK.out _ _ (Kp.refl _) rfl
          · intro a w' hk hF hD K hK
            have h34 : a.tmps[34]?.getD undef = .slice (some ⟨g, o, none⟩) n c' := hD 3 (by kernel_rfl)
            have h35 : a.tmps[35]?.getD undef = .int .i64 (j : Int) := hD 4 (by kernel_rfl)
            clear hF hD
            go_simp
            exact hK.out _ _ (Kp.refl _) rfl
          · intro a w' hk hF hD K hK
            have h36 : a.tmps[36]?.getD undef = .pointer (some ⟨g, o + j * 6, none⟩) := hD 5 (by kernel_rfl)
            clear hF hD
            go_simp
            exact hK.out _ _ (Kp.refl _) rfl
          · intro a w' hk hF hD K hK
            have h37 : a.tmps[37]?.getD undef = .pointer (some ⟨g, o + j * 6, none⟩) := hD 6 (by kernel_rfl)
            clear hF hD
            have z0 := hk.cellS i0
            go_simp
            exact hK.out _ _ (Kp.refl _) rfl
          · intro a w' hk hF hD K hK
            have h32 : a.tmps[32]?.getD undef = .int .i64 num := hD 1 (by kernel_rfl)
            have h38 : a.tmps[38]?.getD undef = .int .i64 hn := hD 7 (by kernel_rfl)
            clear hF hD
            have z0 := hbl
            go_simp
            exact hK.out _ _ (Kp.refl _) rfl
          · exact fun i0 hi0 => by simp at hi0
          intro v w9 k9 hv
          have v8 : v 8 = .bool bl := hv 8 (by omega)
          clear hv
          simp only [G2.growPut, G2.gSlot, List.getElem?_toArray, List.getElem?_cons_zero, List.getElem?_cons_succ, Option.bind_some, List.setIfInBounds_toArray, List.set_cons_zero, List.set_cons_succ, List.drop_succ_cons, List.drop_zero, v8]
          have k29 := k2.trans k9
          clear a0 y9 i0 B1w a1 a2 a3 a4 a5 hbl
          cases bl with
          | true =>
            have HF : Hid (R = (b, 6)) := hid (by rw [HR2.out, if_neg (by rw [h4.out]; simp), if_pos (by rw [HQ.out]; exact hblh.out)])
            clear HR2
            have B1w := B1c.kp k29 hl1
            have B2w := B2c.kp k29 hl2
            have k0w := (k03).trans k29
            obtain ⟨L, hL⟩ : ∃ L : List Value, Hid (L = (refL b (.slice A (lstO b.own).length c) (.slice A' b.n.toNat c'))) := ⟨_, hid rfl⟩
            rw [← hL.out] at B1w
            have rL := B1w.range
            have lL : L.length = 10 := by rw [hL.out]; rfl
            have iL : (Try.prog.info? 58).map (·.size) = some L.length := by rw [lL]; kernel_rfl
            have oL : ∀ u ∈ L, u.oneCell' = true := by rw [hL.out]; simp [Value.oneCell']
            have tL : (w9).there tB 0 L.toArray.size := by simpa [lL] using B2w.thereAt 0 10 (by simp)
            have iL2 : (Try.prog.info? 58).map (·.size) = some L.toArray.size := by simpa using iL
            have E1 := B2w.all (cs := L) (by rw [lL]; rfl)
            have kE : Kp w ((w9).setCells tB 0 L) := Kp.setCells (by omega) _ 0 _ k0w
            go_wp2_with (first | (refine wpList_load_mid rfl 58 (.tmp 3) rfl x0 0 rfl L _ rL Try.underlying58 rfl iL ?_) | (refine wpList_store_mid rfl 58 (.tmp 6) (.tmp 40) rfl tB 0 L.toArray rfl rfl tL iL2 (all_oneCell_toArray oL) ?_; rw [List.toList_toArray]; generalize (w9).setCells tB 0 L = w1 at *) | fail)
            try simp only [Exit.inBlock, Exit.then]
            refine bodyPost_ret (results_cell_bx2 rfl _ _ tB L _ rfl E1.range Try.underlying58 rfl iL) rfl ?_
            rw [HF.out]
            exact ⟨kE, .slice A' b.n.toNat c', by rw [hL.out]; rfl, hR.kp kE⟩
          | false =>
            have HF : Hid (R = ({ b with heard := setH b.heard (j : Int) ⟨num, (p1, p2, p3, p4), l⟩ }, 0)) := hid (by rw [HR2.out, if_neg (by rw [h4.out]; simp), if_neg (by rw [HQ.out, hblh.out]; simp)])
            clear HR2
            obtain ⟨LV, hLm, hLs, hLn⟩ := hR.heard
            have hLl : LV.length = n := by have := congrArg List.length hLm; rw [List.length_map, hdL_len] at this; rw [this, hnn.out]
            have hn5 : n ≤ 5 := by have := hnn.out; omega
            have hlenl : l.length ≤ 2048 := by
              have := h4.out
              unfold validA at this
              simp only [Bool.and_eq_true] at this
              have := ((validL_iff l).1 this.1.2).2.2
              omega
            have k09 := k03.trans k29
            have B1w := B1c.kp k29 hl1
            have BAw := BAc.kp k29 hla
            have B2w := B2c.kp k29 hl2
            have hz9 : wc.heap.size ≤ w9.heap.size := k29.size
            have src7 := hLs.here.keep (pl_stable _) (k09.alloc (.cells #[] 29))
            have hE7 := Own.lit (base := w9.heap.size) (e := 29) (size := 6) encAV w9 #[] [] (Nat.le_refl _) (by simp) rfl rfl
            have kE7 := (Kp.refl w9).alloc (.cells #[] 29)
            have B1e := B1w.kp kE7 (B1w.lt (by simp))
            have y9 := B1e.cell (j := 9) rfl
            have r1 := hid (show LV.length ≤ 1000000000 by omega)
            have r2 := hid (show LV.length * 64 ≤ 140737488355328 by omega)
            replace hLl := hid hLl
            go_upto_region 7 with (fail)
            go_upto_region 8 with (at_builtin; (refine wpl_append_zero rfl (.tmp 41) (.tmp 43) rfl stask encAV_len encAV_one rfl hE7 rfl src7 r1.out r2.out kE7.size ?_; intro v7 w10 own7 k10; have B1f := B1e.kp k10 (B1e.lt (by simp)); have f9 := B1f.free (j := 9) (by simp); have y9f := B1f.cell (j := 9) rfl; obtain ⟨gh, ch, rfl, hch1, hch2, hgh1, hgh2⟩ := own7.row (by rw [hLl.out]; omega)))
            have S1 := B1f.set (j := 9) (by simp) (.slice (some ⟨gh, 0, none⟩) LV.length ch)
            simp only [List.set_cons_zero, List.set_cons_succ] at S1
            have fx11 : Fx (fun q => q = x0) w10 (w10.setCell ⟨x0, 9, none⟩ (.slice (some ⟨gh, 0, none⟩) LV.length ch)) := (Fx.refl _ _).set1 ⟨x0, 9, none⟩ _ (.inl rfl)
            generalize w10.setCell ⟨x0, 9, none⟩ (.slice (some ⟨gh, 0, none⟩) LV.length ch) = w11 at *
            have k910 := kE7.trans k10
            have k0a : Kp w w11 := ((((k09.trans k910).fx _).trans fx11)).kp (fun q hq e => by have e : q = x0 := e; omega)
            have hxg : x0 < gh ∧ ab < gh ∧ tB < gh := by omega
            have own7 := own7.fx fx11 (fun q hq e => by simp [Value.ownBlock] at hq; omega)
            have BAw := (BAw.kp k910 (BAw.lt (by simp))).fx fx11 (by have := (BAw.kp k910 (BAw.lt (by simp))).lt (by simp); exact this) (fun e => by omega)
            have B2w := (B2w.kp k910 (B2w.lt (by simp))).fx fx11 (by have := (B2w.kp k910 (B2w.lt (by simp))).lt (by simp); exact this) (fun e => by omega)
            have hzB : w9.heap.size ≤ w11.heap.size := Nat.le_trans k910.size fx11.size
            have hgh3 : gh < w11.heap.size := Nat.lt_of_lt_of_le hgh2 fx11.size
            clear B1w B1e B1f y9 y9f f9 hE7 src7 fx11 kE7 k10
            have src8 := HV.out.keep (pl_stable _) (k0a.alloc (.cells #[] 41))
            have hE8 := Own.lit (base := w11.heap.size) (e := 41) (size := 4) encNd w11 #[] [] (Nat.le_refl _) (by simp) rfl rfl
            have kE8 := (Kp.refl w11).alloc (.cells #[] 41)
            have BAe := BAw.kp kE8 (BAw.lt (by simp))
            have a5 := BAe.cell (j := 5) rfl
            have r3 := hid (show l.length ≤ 1000000000 by omega)
            have r4 := hid (show l.length * 32 ≤ 140737488355328 by omega)
            go_upto_region 9 with (at_builtin; (refine wpl_append_zero rfl (.tmp 46) (.tmp 48) rfl slnd encNd_len encNd_one rfl hE8 rfl src8 r3.out r4.out kE8.size ?_; intro v8 w12 own8 k12; have BAf := BAe.kp k12 (BAe.lt (by simp)); have f5 := BAf.free (j := 5) (by simp); have a5f := BAf.cell (j := 5) rfl; obtain ⟨A8, c8, rfl, hc81, hc82⟩ := own8.form))
            have S5 := BAf.set (j := 5) (by simp) (.slice A8 l.length c8)
            simp only [List.set_cons_zero, List.set_cons_succ] at S5
            have fx13 : Fx (fun q => q = ab) w12 (w12.setCell ⟨ab, 5, none⟩ (.slice A8 l.length c8)) := (Fx.refl _ _).set1 ⟨ab, 5, none⟩ _ (.inl rfl)
            generalize w12.setCell ⟨ab, 5, none⟩ (.slice A8 l.length c8) = w13 at *
            have k1112 := kE8.trans k12
            have fx1113 : Fx (fun q => q = ab) w11 w13 := (k1112.fx _).trans fx13
            have k0b : Kp w w13 := ((k0a.fx _).trans fx1113).kp (fun q hq e => by have e : q = ab := e; omega)
            have own7 := own7.fx fx1113 (fun q hq e => by simp [Value.ownBlock] at hq; omega)
            have own8 := own8.fx fx13 (fun q hq e => by have h9 := own8.ge q hq; omega)
            have S1b := S1.fx fx1113 (S1.lt (by simp)) (fun e => by omega)
            have B2b := B2w.fx fx1113 (B2w.lt (by simp)) (fun e => by omega)
            have hgh4 : gh < w13.heap.size := Nat.lt_of_lt_of_le hgh3 fx1113.size
            have hzC : w11.heap.size ≤ w13.heap.size := fx1113.size
            clear BAw BAe BAf a5 a5f f5 hE8 src8 fx13 kE8 k12 S1 B2w k1112 fx1113
            have y9 := S1b.cell (j := 9) rfl
            have a0 := S5.cell (j := 0) rfl
            have a1 := S5.cell (j := 1) rfl
            have a2 := S5.cell (j := 2) rfl
            have a3 := S5.cell (j := 3) rfl
            have a4 := S5.cell (j := 4) rfl
            have a5 := S5.cell (j := 5) rfl
            obtain ⟨y, hy⟩ : ∃ y : AV, y = ⟨⟨num, (p1, p2, p3, p4), l⟩, A8, l.length, c8⟩ := ⟨_, rfl⟩
            have hye : (#[.int .i64 num, .int .i64 p1, .int .i64 p2, .int .i64 p3, .int .i64 p4, .slice A8 l.length c8] : Array Value) = (encAV y).toArray := by rw [hy]; rfl
            have hjl : j < LV.length := by rw [hLl.out]; exact hjn
            have hth := own7.thereRow encAV_len rfl hjl
            have own9 := own7.setRow encAV_len rfl hjl y
            have fx15 : Fx (fun q => q = gh) w13 (w13.setCells gh (j * 6) (encAV y)) := (Kg.setCells (.inl rfl) _ _ (Kg.refl w13 gh)).fx (.inl rfl)
            have hjlI : (j : Int) < (LV.length : Int) := by omega
            replace hye := hid hye
            obtain ⟨M, hM⟩ : ∃ M, M = LV.length := ⟨_, rfl⟩
            rw [← hM] at y9 hjlI
            replace hM := hid hM
            have hj0 : (0 : Int) ≤ (j : Int) := by omega
            go_upto_region 10 with (first | (refine wpList_store_mid rfl 29 (.tmp 55) (.tmp 54) rfl gh (j * 6) (encAV y).toArray rfl (congrArg Value.agg hye.out) (by simpa [encAV_len] using hth) (by kernel_rfl) (all_oneCell_toArray (encAV_one y)) ?_; rw [List.toList_toArray]; generalize w13.setCells gh (j * 6) (encAV y) = w15 at *) | fail)
            have S1c := S1b.fx fx15 (S1b.lt (by simp)) (fun e => by omega)
            have B2c' := B2b.fx fx15 (B2b.lt (by simp)) (fun e => by omega)
            have k0c : Kp w w15 := ((k0b.fx _).trans fx15).kp (fun q hq e => by have e : q = gh := e; omega)
            have own8c := own8.fx fx15 (fun q hq e => by have h9 := own8.ge q hq; have e : q = gh := e; omega)
            have hgh5 : gh < w15.heap.size := Nat.lt_of_lt_of_le hgh4 fx15.size
            clear S1b B2b fx15 own7 hth a0 a1 a2 a3 a4 a5 y9 S5
            obtain ⟨L, hL⟩ : ∃ L : List Value, Hid (L = refL R.1 (.slice A (lstO b.own).length c) (.slice (some ⟨gh, 0, none⟩) LV.length ch)) := ⟨_, hid rfl⟩
            have hLS : L = [.int .i64 b.n, .int .i64 b.i, .int .i64 b.num, .bool b.own.isSome, .int .i64 (priO b.own).1, .int .i64 (priO b.own).2.1, .int .i64 (priO b.own).2.2.1, .int .i64 (priO b.own).2.2.2, .slice A (lstO b.own).length c, .slice (some ⟨gh, 0, none⟩) LV.length ch] := by rw [hL.out, HF.out]
            rw [← hLS] at S1c
            have rL := S1c.range
            have lL : L.length = 10 := by rw [hLS]; rfl
            have iL : (Try.prog.info? 58).map (·.size) = some L.length := by rw [lL]; kernel_rfl
            have oL : ∀ u ∈ L, u.oneCell' = true := by rw [hLS]; simp [Value.oneCell']
            have tL : w15.there tB 0 L.toArray.size := by simpa [lL] using B2c'.thereAt 0 10 (by simp)
            have iL2 : (Try.prog.info? 58).map (·.size) = some L.toArray.size := by simpa using iL
            have E1 := B2c'.all (cs := L) (by rw [lL]; rfl)
            have kE : Kp w (w15.setCells tB 0 L) := Kp.setCells (by omega) _ 0 _ k0c
            have fxE : Fx (fun q => q = tB) w15 (w15.setCells tB 0 L) := (Kg.setCells (.inl rfl) _ _ (Kg.refl w15 tB)).fx (.inl rfl)
            have own9' := own9.fx fxE (fun q hq e => by simp [Value.ownBlock] at hq; omega)
            have own8' := own8c.fx fxE (fun q hq e => by have h9 := own8c.ge q hq; have e : q = tB := e; omega)
            replace hLS := hid hLS
            go_wp2_with (first | (refine wpList_load_mid rfl 58 (.tmp 3) rfl x0 0 rfl L _ rL Try.underlying58 rfl iL ?_) | (refine wpList_store_mid rfl 58 (.tmp 6) (.tmp 56) rfl tB 0 L.toArray rfl rfl tL iL2 (all_oneCell_toArray oL) ?_; rw [List.toList_toArray]; generalize w15.setCells tB 0 L = w1 at *) | fail)
            try simp only [Exit.inBlock, Exit.then]
            refine bodyPost_ret (results_cell_bx2 rfl _ _ tB L _ rfl E1.range Try.underlying58 rfl iL) rfl ?_
            refine ⟨kE, .slice (some ⟨gh, 0, none⟩) LV.length ch, by rw [hL.out, HF.out]; rfl, ?_⟩
            rw [HF.out]
            have hyv : y.v = .slice A8 l.length c8 := by rw [hy]
            have hya : y.a = ⟨num, (p1, p2, p3, p4), l⟩ := by rw [hy]
            have hXw : ∀ q, X q → q < w9.heap.size := fun q hq => by have := hX q hq; have := k09.size; omega
            have hXv : ∀ q, X q → q < w11.heap.size := fun q hq => by have := hXw q hq; omega
            refine ⟨hR.all.kp kE, ?_, okB_hear hok hbt.out h3.out h4.out⟩
            have h8 : OwF X w1 fun w' => Nds w' y.v y.a.needs := by
              rw [hyv, hya]
              exact (own8'.owF hXv).imp fun _ h => h.sl encNd_len
            have := HdX.put (b := b) (j := j) (y := y) hLm own9' hXw hLn kE h8 (by rw [← hnn.out]; exact hjn)
            rw [hya] at this
            exact this
        · replace h4 := eq_false_of_ne_true h4
          rw [h4]
          have HF : Hid (R = (b, 1)) := hid (by rw [HR2.out, if_pos (by rw [h4]; rfl)])
          clear HR2
          have B1w := B1c.kp k2 hl1
          have B2w := B2c.kp k2 hl2
          have k0w := (k03).trans k2
          obtain ⟨L, hL⟩ : ∃ L : List Value, Hid (L = (refL b (.slice A (lstO b.own).length c) (.slice A' b.n.toNat c'))) := ⟨_, hid rfl⟩
          rw [← hL.out] at B1w
          have rL := B1w.range
          have lL : L.length = 10 := by rw [hL.out]; rfl
          have iL : (Try.prog.info? 58).map (·.size) = some L.length := by rw [lL]; kernel_rfl
          have oL : ∀ u ∈ L, u.oneCell' = true := by rw [hL.out]; simp [Value.oneCell']
          have tL : (w2).there tB 0 L.toArray.size := by simpa [lL] using B2w.thereAt 0 10 (by simp)
          have iL2 : (Try.prog.info? 58).map (·.size) = some L.toArray.size := by simpa using iL
          have E1 := B2w.all (cs := L) (by rw [lL]; rfl)
          have kE : Kp w ((w2).setCells tB 0 L) := Kp.setCells (by omega) _ 0 _ k0w
          go_wp2_with (first | (refine wpList_load_mid rfl 58 (.tmp 3) rfl x0 0 rfl L _ rL Try.underlying58 rfl iL ?_) | (refine wpList_store_mid rfl 58 (.tmp 6) (.tmp 29) rfl tB 0 L.toArray rfl rfl tL iL2 (all_oneCell_toArray oL) ?_; rw [List.toList_toArray]; generalize (w2).setCells tB 0 L = w1 at *) | fail)
          try simp only [Exit.inBlock, Exit.then]
          refine bodyPost_ret (results_cell_bx2 rfl _ _ tB L _ rfl E1.range Try.underlying58 rfl iL) rfl ?_
          rw [HF.out]
          exact ⟨kE, .slice A' b.n.toNat c', by rw [hL.out]; rfl, hR.kp kE⟩
end Go.Proofs.Ytbcekihjcgnhkaa
