
/-
The reference's reader: bases.
-/
import Derived.Test.YtmeafoakbkjifaaQA
namespace Go.Proofs.Ytmeafoakbkjifaa
set_option linter.unusedSimpArgs false
set_option linter.unusedVariables false
open Go.RowKit

set_option maxRecDepth 8000 in
set_option maxHeartbeats 16000000 in
theorem rBase_any (W0 : World) (g : Nat) (l : List Int) (bad : Bool) (w : World) (hr : Rdr W0 w g l bad) : Reads W0 g baseP (VA rdBaseC) l bad 72 #[.pointer (some ⟨g, 0, none⟩)] w := by
  have hg := hr.lt
  have hlo := hr.lo
  have k0 := (Kp.refl w).alloc (.cells #[.slice none 0 0, .int .i64 0, .slice none 0 0, .slice none 0 0, .slice none 0 0, .slice none 0 0, .slice none 0 0] 42)
  have hr0 := hr.keep k0
  have hZ := Bx.new w #[.slice none 0 0, .int .i64 0, .slice none 0 0, .slice none 0 0, .slice none 0 0, .slice none 0 0, .slice none 0 0] 42
  have hq0 := k0.kg g
  go_enter Try.func72, Try.ntmps72
  go_wp2_with fail
  try rw [← World.size_alloc w (.cells #[.slice none 0 0, .int .i64 0, .slice none 0 0, .slice none 0 0, .slice none 0 0, .slice none 0 0, .slice none 0 0] 42)]
  generalize w.alloc (.cells #[.slice none 0 0, .int .i64 0, .slice none 0 0, .slice none 0 0, .slice none 0 0, .slice none 0 0, .slice none 0 0] 42) = w0 at *
  generalize hbz : w.heap.size = bz at *
  have HBZ := hid hbz
  clear hbz k0 hr
  have hlz := hZ.lt (by simp)
  have hgz : g < bz := hg
  have hloz : W0.heap.size ≤ bz := by omega
  refine (rList_any W0 g _ _ w0 hr0).mono ?_
  rintro e w1 ⟨v1, y1, l1, bad1, rfl, ho1, hs1, hr1, hk1⟩
  have hq1 := hq0.trans hk1
  replace hZ := hZ.keep (World.grownBy.block hk1 bz hlz (by simp; omega))
  try (first | (replace ho1 := ho1.wide (base' := b + 1) (by omega) (Nat.le_refl _)) | (replace ho1 := ho1.wide (base' := bz + 1) (by omega) (Nat.le_refl _)))
  try replace hoA := hoA.kg1 hk1 hgz
  try replace hoB := hoB.kg1 hk1 hgz
  try replace hoC := hoC.kg1 hk1 hgz
  try replace hoD := hoD.kg1 hk1 hgb
  try replace hoE := hoE.kg1 hk1 hgb
  try replace hoF := hoF.kg1 hk1 hgb
  try replace hoG := hoG.kg1 hk1 hgb
  try replace hoP := hoP.kge hk1 hgz (Nat.le_of_lt hlb)
  try replace hoQ := hoQ.kge hk1 hgz (Nat.le_of_lt hlb)
  try replace hB := hB.keep (World.grownBy.block hk1 b hlb (by simp; omega))
  try replace hlb := Nat.lt_of_lt_of_le hlb hk1.size
  replace hlz := Nat.lt_of_lt_of_le hlz hk1.size
  clear hk1 hq0 hr0
  obtain ⟨A1, c1, rfl, hc1, hm1⟩ := ho1.here.form
  have hoA := ho1
  clear ho1
  go_wp2_with fail
  refine (rNext_any W0 g _ _ w1 hr1).mono ?_
  rintro e w2 ⟨vq, y2, l2, bad2, rfl, hoq, hs2, hr2, hk2⟩
  obtain rfl := hoq.here
  clear hoq
  have hq2 := hq1.trans hk2
  replace hZ := hZ.keep (World.grownBy.block hk2 bz hlz (by simp; omega))
  try (first | (replace ho2 := ho2.wide (base' := b + 1) (by omega) (Nat.le_refl _)) | (replace ho2 := ho2.wide (base' := bz + 1) (by omega) (Nat.le_refl _)))
  try replace hoA := hoA.kg1 hk2 hgz
  try replace hoB := hoB.kg1 hk2 hgz
  try replace hoC := hoC.kg1 hk2 hgz
  try replace hoD := hoD.kg1 hk2 hgb
  try replace hoE := hoE.kg1 hk2 hgb
  try replace hoF := hoF.kg1 hk2 hgb
  try replace hoG := hoG.kg1 hk2 hgb
  try replace hoP := hoP.kge hk2 hgz (Nat.le_of_lt hlb)
  try replace hoQ := hoQ.kge hk2 hgz (Nat.le_of_lt hlb)
  try replace hB := hB.keep (World.grownBy.block hk2 b hlb (by simp; omega))
  try replace hlb := Nat.lt_of_lt_of_le hlb hk2.size
  replace hlz := Nat.lt_of_lt_of_le hlz hk2.size
  clear hk2 hq1 hr1
  go_wp2_with fail
  refine (rList_any W0 g _ _ w2 hr2).mono ?_
  rintro e w3 ⟨v3, y3, l3, bad3, rfl, ho3, hs3, hr3, hk3⟩
  have hq3 := hq2.trans hk3
  replace hZ := hZ.keep (World.grownBy.block hk3 bz hlz (by simp; omega))
  try (first | (replace ho3 := ho3.wide (base' := b + 1) (by omega) (Nat.le_refl _)) | (replace ho3 := ho3.wide (base' := bz + 1) (by omega) (Nat.le_refl _)))
  try replace hoA := hoA.kg1 hk3 hgz
  try replace hoB := hoB.kg1 hk3 hgz
  try replace hoC := hoC.kg1 hk3 hgz
  try replace hoD := hoD.kg1 hk3 hgb
  try replace hoE := hoE.kg1 hk3 hgb
  try replace hoF := hoF.kg1 hk3 hgb
  try replace hoG := hoG.kg1 hk3 hgb
  try replace hoP := hoP.kge hk3 hgz (Nat.le_of_lt hlb)
  try replace hoQ := hoQ.kge hk3 hgz (Nat.le_of_lt hlb)
  try replace hB := hB.keep (World.grownBy.block hk3 b hlb (by simp; omega))
  try replace hlb := Nat.lt_of_lt_of_le hlb hk3.size
  replace hlz := Nat.lt_of_lt_of_le hlz hk3.size
  clear hk3 hq2 hr2
  obtain ⟨A3, c3, rfl, hc3, hm3⟩ := ho3.here.form
  have hoB := ho3
  clear ho3
  go_wp2_with fail
  have kS := (Kp.refl w3).alloc (.cells #[.slice A1 y1.length c1, .int .i64 y2, .slice A3 y3.length c3, .slice none 0 0, .slice none 0 0, .slice none 0 0, .slice none 0 0] 42)
  have hB := Bx.new w3 #[.slice A1 y1.length c1, .int .i64 y2, .slice A3 y3.length c3, .slice none 0 0, .slice none 0 0, .slice none 0 0, .slice none 0 0] 42
  have hr4 := hr3.keep kS
  have hq4 := hq3.trans (kS.kg g)
  replace hZ := hZ.keep (kS.block hlz)
  try have hoP := hoA.keepP kS
  try have hoQ := hoB.keepP kS
  try clear hoA
  try clear hoB
  try rw [← World.size_alloc w3 (.cells #[.slice A1 y1.length c1, .int .i64 y2, .slice A3 y3.length c3, .slice none 0 0, .slice none 0 0, .slice none 0 0, .slice none 0 0] 42)]
  have hbz1 : bz < w3.heap.size := hlz
  replace hlz := Nat.lt_of_lt_of_le hlz kS.size
  generalize w3.alloc (.cells #[.slice A1 y1.length c1, .int .i64 y2, .slice A3 y3.length c3, .slice none 0 0, .slice none 0 0, .slice none 0 0, .slice none 0 0] 42) = w4 at *
  generalize w3.heap.size = b at *
  have hlb := hB.lt (by simp)
  have hgb : g < b := by omega
  have hlob : W0.heap.size ≤ b := by omega
  have hzb : bz ≠ b := by omega
  clear kS hr3 hq3
  refine (rLength_any W0 g _ _ w4 hr4).mono ?_
  rintro e w5 ⟨v5, y5, l5, bad5, rfl, ho5, hs5, hr5, hk5⟩
  have hq5 := hq4.trans hk5
  replace hZ := hZ.keep (World.grownBy.block hk5 bz hlz (by simp; omega))
  try (first | (replace ho5 := ho5.wide (base' := b + 1) (by omega) (Nat.le_refl _)) | (replace ho5 := ho5.wide (base' := bz + 1) (by omega) (Nat.le_refl _)))
  try replace hoA := hoA.kg1 hk5 hgz
  try replace hoB := hoB.kg1 hk5 hgz
  try replace hoC := hoC.kg1 hk5 hgz
  try replace hoD := hoD.kg1 hk5 hgb
  try replace hoE := hoE.kg1 hk5 hgb
  try replace hoF := hoF.kg1 hk5 hgb
  try replace hoG := hoG.kg1 hk5 hgb
  try replace hoP := hoP.kge hk5 hgz (Nat.le_of_lt hlb)
  try replace hoQ := hoQ.kge hk5 hgz (Nat.le_of_lt hlb)
  try replace hB := hB.keep (World.grownBy.block hk5 b hlb (by simp; omega))
  try replace hlb := Nat.lt_of_lt_of_le hlb hk5.size
  replace hlz := Nat.lt_of_lt_of_le hlz hk5.size
  clear hk5 hq4 hr4
  obtain ⟨rfl, hn5⟩ := ho5.here
  clear ho5
  go_wp2_with fail
  have hKL := Kb.refl g b w5
  have hBL := hB
  have hgL : g < w5.heap.size := Nat.lt_trans hgb hlb
  have hlbL := hlb
  go_loopw [5] (fun i wr => ∃ (css : List (Elm 3)) (xs : List Merged) (v : Value) (l' : List Int) (b' : Bool), xs.length ≤ y5 ∧ i = .int .i64 (xs.length : Int) ∧ Bx wr b ([.slice A1 y1.length c1, .int .i64 y2, .slice A3 y3.length c3] ++ v :: [.slice none 0 0, .slice none 0 0, .slice none 0 0]) ∧ Own encC 98 3 w5.heap.size wr v css ∧ Els rdMerged w5.heap.size wr v.ownBlock css xs ∧ SpecP (loopP mergedP xs.length) l5 bad5 xs l' b' ∧ Rdr W0 wr g l' b' ∧ Kb g b w5 wr) (fun i _ => y5 - (intOf i).toNat)
  case atStart => exact ⟨[], [], _, l5, bad5, Nat.zero_le _, rfl, hBL, Own.nil _ _ _ _ _, Els.nil _ _ _ _ _, SpecP.ret _ _ _, hr5, hKL⟩
  case round =>
    obtain ⟨css, y6, v, l6, bad6, hxs, rfl, hB, own, hels, hsl, hr, hKr⟩ := hrel
    clear hBL hKL
    obtain ⟨A6, c6, rfl, hc, hm⟩ := own.form
    have hcl := hels.1
    rw [hcl] at own hels hc hB
    have hKs := hKr.size
    have hLr : w5.heap.size ≤ wr.heap.size := by omega
    have hbr : b < wr.heap.size := Nat.lt_of_lt_of_le hlb hLr
    by_cases hpos : y6.length < y5
    · go_wp2_with fail
      obtain ⟨wo, hwo⟩ : ∃ x, x = wr := ⟨_, rfl⟩
      subst hwo
      obtain ⟨bo, hbo⟩ : ∃ x, x = b := ⟨_, rfl⟩
      subst hbo
      have hBo := hB
      have hgbo := hgb
      have hlobo := hlob
      have hzbo := hzb
      have hlbo := hlb
      have hlbLo := hlbL
      have hgLo := hgL
      obtain ⟨cssO, hcssO⟩ : ∃ x, x = css := ⟨_, rfl⟩
      subst hcssO
      have ownO := own
      have helsO := hels
      have hslO := hsl
      have hKrO := hKr
      have hclO := hcl
      have hxsO := hxs
      have hbrO := hbr
      have hLrO := hLr
      have hcO := hc
      have hposO := hpos
      clear hB hgb hlob hzb hlb hlbL hgL own hels hsl hKr hcl hxs hbr hLr hc hKs hpos
      have hro := hr
      clear hr
      refine (rBool_any W0 g l6 bad6 _ hro).mono ?_
      rintro e wa ⟨va, ya, la, ba, rfl, hoa, hsa, hra, hka⟩
      obtain rfl := hoa.here
      go_wp2_with fail
      refine (rBool_any W0 g la ba _ hra).mono ?_
      rintro e wb ⟨vb, yb, lb, bb, rfl, hob, hsb, hrb, hkb⟩
      obtain rfl := hob.here
      replace hkb := hka.trans hkb
      clear hoa hob hka hra hro
      go_wp2_with fail
      have kS := (Kp.refl wb).alloc (.cells #[.bool ya, .bool yb, .slice none 0 0] 98)
      have hB := Bx.new wb #[.bool ya, .bool yb, .slice none 0 0] 98
      have hrc := hrb.keep kS
      have hkc := hkb.trans (kS.kg g)
      have hbb : wo.heap.size ≤ wb.heap.size := hkb.size
      try rw [← World.size_alloc wb (.cells #[.bool ya, .bool yb, .slice none 0 0] 98)]
      generalize wb.alloc (.cells #[.bool ya, .bool yb, .slice none 0 0] 98) = wc at *
      generalize wb.heap.size = b at *
      have hlb := hB.lt (by simp)
      have hgb : g < b := by omega
      have hlob : W0.heap.size ≤ b := by omega
      clear kS hrb hkb
      refine (rLength_any W0 g _ _ wc hrc).mono ?_
      rintro e w20 ⟨vd, y20, l20, bad20, rfl, hod, hs20, hr20, hkd⟩
      obtain ⟨rfl, hn20⟩ := hod.here
      clear hod
      replace hB := hB.keep (World.grownBy.block hkd b hlb (by simp; omega))
      replace hlb := Nat.lt_of_lt_of_le hlb hkd.size
      have hko := hkc.trans hkd
      clear hkc hkd hrc
      go_wp2_with fail
      have hKL := Kb.refl g b w20
      have hBL := hB
      have hgL : g < w20.heap.size := Nat.lt_trans hgb hlb
      have hlbL := hlb
      go_loopw [8] (fun i wr => ∃ (css : List (Elm 4)) (xs : List Mark) (v : Value) (l' : List Int) (b' : Bool), xs.length ≤ y20 ∧ i = .int .i64 (xs.length : Int) ∧ Bx wr b ([.bool ya, .bool yb] ++ v :: []) ∧ Own encC 101 4 w20.heap.size wr v css ∧ Els (Pl encMark) w20.heap.size wr v.ownBlock css xs ∧ SpecP (loopP markP xs.length) l20 bad20 xs l' b' ∧ Rdr W0 wr g l' b' ∧ Kb g b w20 wr) (fun i _ => y20 - (intOf i).toNat)
      case atStart => exact ⟨[], [], _, l20, bad20, Nat.zero_le _, rfl, hBL, Own.nil _ _ _ _ _, Els.nil _ _ _ _ _, SpecP.ret _ _ _, hr20, hKL⟩
      case round =>
        obtain ⟨css, y21, v, l21, bad21, hxs, rfl, hB, own, hels, hsl, hr, hKr⟩ := hrel
        clear hBL hKL
        obtain ⟨A21, c21, rfl, hc, hm⟩ := own.form
        have hcl := hels.1
        rw [hcl] at own hels hc hB
        have hKs := hKr.size
        have hLr : w20.heap.size ≤ wr.heap.size := by omega
        have hbr : b < wr.heap.size := Nat.lt_of_lt_of_le hlb hLr
        by_cases hpos : y21.length < y20
        · go_wp2_with fail
          have hSf : ∀ W, Bx W b ([.bool ya, .bool yb] ++ .slice A21 y21.length c21 :: []) → (W.cell? ⟨b, 2, none⟩ = some (.slice A21 y21.length c21) ∧ W.frozen? ⟨b, 2, none⟩ = false) := fun W h => ⟨h.cell (j := 2) rfl, h.free (j := 2) (by simp)⟩
          refine beginT 14 (S := fun W => W.cell? ⟨b, 2, none⟩ = some (.slice A21 y21.length c21) ∧ W.frozen? ⟨b, 2, none⟩ = false) (by kernel_rfl) (hSf _ (hB.keep rfl)) (fun hHeld => ?_)
          refine take_atT 0 40 (v := ?_) rfl rfl (by kernel_rfl) (by kernel_rfl) (by kernel_rfl) (by kernel_rfl) (by kernel_rfl) (fun _ _ _ h => h) hHeld (Or.inl ⟨by kernel_rfl, ?_⟩) ?_
          rotate_left
          · intro w hSw; (try dsimp only at hSw); go_simp; try with_reducible rfl
          simp only [Act.put, List.setIfInBounds_toArray, List.set_cons_zero, List.set_cons_succ]
          refine take_atT 1 41 (v := ?_) rfl rfl (by kernel_rfl) (by kernel_rfl) (by kernel_rfl) (by kernel_rfl) (by kernel_rfl) (fun _ _ _ h => h) hHeld (Or.inl ⟨by kernel_rfl, ?_⟩) ?_
          rotate_left
          · intro w hSw; (try dsimp only at hSw); go_simp; try with_reducible rfl
          simp only [Act.put, List.setIfInBounds_toArray, List.set_cons_zero, List.set_cons_succ]
          refine take_atT 2 42 (v := ?_) rfl rfl (by kernel_rfl) (by kernel_rfl) (by kernel_rfl) (by kernel_rfl) (by kernel_rfl) (fun _ _ _ h => h) hHeld (Or.inl ⟨by kernel_rfl, ?_⟩) ?_
          rotate_left
          · intro w hSw; (try dsimp only at hSw); go_simp; try with_reducible rfl
          simp only [Act.put, List.setIfInBounds_toArray, List.set_cons_zero, List.set_cons_succ]
          refine take_atT 4 44 (v := ?_) rfl rfl (by kernel_rfl) (by kernel_rfl) (by kernel_rfl) (by kernel_rfl) (by kernel_rfl) (fun _ _ _ h => h) hHeld (Or.inl ⟨by kernel_rfl, ?_⟩) ?_
          rotate_left
          · intro w hSw; (try dsimp only at hSw); go_simp; try with_reducible rfl
          simp only [Act.put, List.setIfInBounds_toArray, List.set_cons_zero, List.set_cons_succ]
          refine take_atT 6 46 (v := ?_) rfl rfl (by kernel_rfl) (by kernel_rfl) (by kernel_rfl) (by kernel_rfl) (by kernel_rfl) (fun _ _ _ h => h) hHeld (Or.inl ⟨by kernel_rfl, ?_⟩) ?_
          rotate_left
          · intro w hSw; (try dsimp only at hSw); go_simp; try with_reducible rfl
          simp only [Act.put, List.setIfInBounds_toArray, List.set_cons_zero, List.set_cons_succ]
          refine take_atT 8 48 (v := ?_) rfl rfl (by kernel_rfl) (by kernel_rfl) (by kernel_rfl) (by kernel_rfl) (by kernel_rfl) (fun _ _ _ h => h) hHeld (Or.inl ⟨by kernel_rfl, ?_⟩) ?_
          rotate_left
          · intro w hSw; (try dsimp only at hSw); go_simp; try with_reducible rfl
          simp only [Act.put, List.setIfInBounds_toArray, List.set_cons_zero, List.set_cons_succ]
          refine stepT (i := 3) (o := _) (by kernel_rfl) rfl (fun K hK => ?_)
          go_simp
          refine (rNext_any W0 g l21 bad21 _ (hr.keep (Kp.refl _).drew)).mono ?_
          rintro e wp ⟨vp, xp, lp, bp, rfl, hop, hsp, hrp, hkp⟩
          obtain rfl := hop.here
          replace hkp : Kg wr wp g := ((Kp.refl wr).drew.kg g).trans hkp
          have hBp := hB.keep (World.grownBy.block hkp b hbr (by simp; omega))
          refine hK.out _ _ (hSf _ hBp) (fun hHeld2 => ?_)
          clear hK K hHeld
          have hHeld := hHeld2
          clear hHeld2
          refine stepT (i := 5) (o := _) (by kernel_rfl) rfl (fun K hK => ?_)
          go_simp
          refine (rNext_any W0 g lp bp _ hrp).mono ?_
          rintro e wq ⟨vq, xq, lq, bq, rfl, hoq, hsq, hrq, hkq⟩
          obtain rfl := hoq.here
          replace hkq := hkp.trans hkq
          have hBq := hB.keep (World.grownBy.block hkq b hbr (by simp; omega))
          refine hK.out _ _ (hSf _ hBq) (fun hHeld2 => ?_)
          clear hK K hHeld
          have hHeld := hHeld2
          clear hHeld2
          refine stepT (i := 7) (o := _) (by kernel_rfl) rfl (fun K hK => ?_)
          go_simp
          refine (rNext_any W0 g lq bq _ hrq).mono ?_
          rintro e wu ⟨vu, xu, lu, bu, rfl, hou, hsu, hru, hku⟩
          obtain rfl := hou.here
          replace hku := hkq.trans hku
          have hBu := hB.keep (World.grownBy.block hku b hbr (by simp; omega))
          refine hK.out _ _ (hSf _ hBu) (fun hHeld2 => ?_)
          clear hK K hHeld
          have hHeld := hHeld2
          clear hHeld2
          refine stepT (i := 9) (o := _) (by kernel_rfl) rfl (fun K hK => ?_)
          go_simp
          refine (rNext_any W0 g lu bu _ hru).mono ?_
          rintro e w3 ⟨vc, xc, l3, b3, rfl, hoc, hsc, hr3, hk3⟩
          obtain rfl := hoc.here
          replace hk3 := hku.trans hk3
          obtain ⟨cs3, hcs3⟩ : ∃ cs : List Value, cs = [.int .i64 xp, .int .i64 xq, .int .i64 xu, .int .i64 xc] := ⟨_, rfl⟩
          obtain ⟨x, hx⟩ : ∃ x : Mark, x = ⟨xp, xq, xu, xc⟩ := ⟨_, rfl⟩
          have hlen3 : cs3.length = 4 := by rw [hcs3]; rfl
          have hone3 : ∀ u ∈ cs3, u.oneCell' = true := by rw [hcs3]; simp [Value.oneCell']
          have hEl : Ow wr.heap.size w3.heap.size w3 (fun w' => Pl encMark w' cs3 x) := fun _ _ _ => by rw [hcs3, hx]; rfl
          have hs3 : SpecP markP l21 bad21 x l3 b3 := by rw [hx]; exact hsp.bind (hsq.bind (hsu.bind (hsc.bind (SpecP.ret _ _ _))))
          clear hop hoq hou hoc hsp hsq hsu hsc hrp hrq hru hkp hkq hku hBp hBq hBu
          replace hcs3 := hid hcs3
          clear hx
          have own3 := own.kg hk3 hgL
          have hels3 := hels.kg hk3 hgL
          have hge := own.ge
          have hlt3 := World.ownsRow.lt own
          have hB3 := hB.keep (World.grownBy.block hk3 b hbr (by simp; omega))
          have hK3 := hKr.trans (hk3.kb b)
          have hs4 : SpecP (loopP markP (y21.length + 1)) l20 bad20 (y21 ++ [x]) l3 b3 := by rw [loopP_snoc]; exact hsl.bind (hs3.bind (SpecP.ret _ _ _))
          have hz3 := hk3.size
          clear own hels hB hr hsl hs3 hKr
          refine hK.out _ _ (hSf _ hB3) (fun hHeld2 => ?_)
          clear hK K hHeld
          have hHeld := hHeld2
          clear hHeld2
          refine take_atT 10 50 (v := ?_) rfl rfl (by kernel_rfl) (by kernel_rfl) (by kernel_rfl) (by kernel_rfl) (by kernel_rfl) (fun _ _ _ h => h) hHeld (Or.inl ⟨by kernel_rfl, ?_⟩) ?_
          rotate_left
          · intro w hSw; (try dsimp only at hSw); go_simp; try with_reducible rfl
          simp only [Act.put, List.setIfInBounds_toArray, List.set_cons_zero, List.set_cons_succ]
          refine stepT (i := 11) (o := _) (by kernel_rfl) rfl (fun K hK => ?_)
          go_simp
          rw [show (#[.int .i64 xp, .int .i64 xq, .int .i64 xu, .int .i64 xc] : Array Value) = cs3.toArray by rw [hcs3.out]]
          have hB4 := hB3.keep (((Kp.refl w3).alloc (.cells cs3.toArray 101)).block (by omega))
          refine hK.out _ _ (hSf _ hB4) (fun hHeld2 => ?_)
          clear hK K hHeld
          have hHeld := hHeld2
          clear hHeld2
          refine stepT (i := 12) (o := _) (by kernel_rfl) rfl (fun K hK => ?_)
          refine step_append4 rfl (.tmp 41) (.tmp 51) rfl stMark encC_len encC_one rfl (own3.alloc _) rfl (Sl.one (R := Pl encC) w3 _ 101 4 (⟨_, hlen3, hone3⟩ : Elm 4) hlen3 rfl) (by simp; omega) (by simp; omega) (by simp; omega) ?_
          intro v4 w4 hown4 hgrow4 hat4
          have hob : ∀ q, (Value.slice A21 y21.length c21).ownBlock = some q → w20.heap.size ≤ q := own3.ge
          have hB5 := hB4.keep (hgrow4.block b (by simp; omega) (fun e => by have := hob b e.symm; omega))
          refine hK.out _ _ (hSf _ hB5) (fun hHeld2 => ?_)
          clear hK K hHeld
          have hHeld := hHeld2
          clear hHeld2
          refine stepT (i := 13) (o := _) (by kernel_rfl) rfl (fun K hK => ?_)
          go_simp
          refine hK.out _ _ hHeld (fun hHeld2 => ?_)
          clear hK K hHeld
          have hHeld := hHeld2
          clear hHeld2
          have hels4 := ((hels3.snoc (⟨_, hlen3, hone3⟩ : Elm 4) x (by omega) (Nat.le_refl _) (fun q hq => .inl (hlt3 q hq).2) hEl).kg (((Kp.refl w3).alloc (.cells cs3.toArray 101)).kg g) hgL).grow hgrow4 hat4
          have hgw3 := hr3.lt
          have hgq : (((w3.alloc (.cells cs3.toArray 101))).heap.size) = w3.heap.size + 1 := by simp
          have hsz4 := hgrow4.size
          have hold : ∀ q, q < w20.heap.size → w4.heap[q]? = w3.heap[q]? := fun q hq => by
            rw [hgrow4.block q (by omega) (fun e => by have := hob q e.symm; omega), heap_alloc_old _ _ (by omega)]
          have hK5 : Kb g b w20 w4 := ⟨hgrow4.os.trans hK3.os, hgrow4.tape.trans hK3.tape, hgrow4.output.trans hK3.output, by omega, fun q hq hqg hqb => (hold q (by omega)).trans (hK3.block q hq hqg hqb)⟩
          have hr4 : Rdr W0 w4 g l3 b3 := hr3.keepG ⟨hgrow4.os.trans hr3.kp.os, hgrow4.tape.trans hr3.kp.tape, hgrow4.output.trans hr3.kp.output, by have := hr3.kp.size; omega, fun q hq => by
            have hq2 : q < W0.heap.size := hq
            rw [hold q (by omega), hr3.kp.block hq2]⟩ (hold g hgL)
          have hB6 := hB5.set (j := 2) (by simp) v4
          simp only [List.set_cons_zero, List.set_cons_succ, List.cons_append, List.nil_append] at hB6
          have hk6 : Kg w4 (w4.setCell ⟨b, 2, none⟩ v4) b := (Kg.refl w4 b).set (.inl rfl) _
          have hown6 := hown4.kg hk6 hlbL
          have hels6 := hels4.kg hk6 hlbL
          have hr6 := hr4.kb ((Kb.refl g b w4).set 2 v4) hlob (set_block _ _ _ _ (by show g ≠ b; omega))
          have hK6 := hK5.set 2 v4
          clear hB3 hB4 hB5 own3 hels3 hels4 hown4 hr3 hr4 hK3 hK5 hk6 hEl hgrow4 hat4 hSf hk3
          obtain ⟨hc8, hf8⟩ := hHeld
          obtain ⟨A4, c4, hv4, hc4, hm4⟩ := hown6.form
          rw [show (css ++ [(⟨_, hlen3, hone3⟩ : Elm 4)]).length = y21.length + 1 by simp [hcl]] at hv4 hc4
          subst hv4
          refine lastT (o := _) (by kernel_rfl) rfl (fun K hK => ?_)
          go_simp
          refine hK.out _ _ ?_
          clear hK K
          refine doneT (by kernel_rfl) ?_ _
          go_wp2
          go_roundw
          case rel => exact ⟨css ++ [⟨_, hlen3, hone3⟩], y21 ++ [x], _, l3, b3, by simp; omega, by simp, hB6, hown6, hels6, by simpa using hs4, hr6, hK6⟩
          case measure => simp [intOf]; omega
        · obtain hxe : y21.length = y20 := by omega
          rw [hxe] at hsl
          have hfin := hels.fin own
          clear hpos
          have eL21 : decide ((y21.length : Int) < (y20 : Int)) = false := decide_eq_false (by omega)
          have eN21 : decide (y21.length < y20) = false := decide_eq_false (by omega)
          have eG21 : ¬ (y21.length < y20) := by omega
          replace hxe := hid hxe
          have hkI : Kg wo wr g := hKr.kg hko (by omega)
          have hs21 := hs20.bind hsl
          simp only [List.cons_append, List.nil_append] at hB
          obtain ⟨cs3, hcs3⟩ : ∃ cs : List Value, cs = [.bool ya, .bool yb, .slice A21 y21.length c21] := ⟨_, rfl⟩
          have hlen3 : cs3.length = 3 := by rw [hcs3]; rfl
          have hone3 : ∀ u ∈ cs3, u.oneCell' = true := by rw [hcs3]; simp [Value.oneCell']
          rw [← hcs3] at hB
          have hEl : Ow w20.heap.size wr.heap.size wr (fun w' => rdMerged w' cs3 ⟨ya, yb, y21⟩) := hfin.imp fun _ h => ⟨_, by rw [hcs3], h⟩
          have hs3 : SpecP mergedP l6 bad6 ⟨ya, yb, y21⟩ l21 bad21 := hsa.bind (hsb.bind (hs21.bind (SpecP.ret _ _ _)))
          have hs4 : SpecP (loopP mergedP (y6.length + 1)) l5 bad5 (y6 ++ [⟨ya, yb, y21⟩]) l21 bad21 := by rw [loopP_snoc]; exact hslO.bind (hs3.bind (SpecP.ret _ _ _))
          have hfl3 : cs3.length = ((#[.bool false, .bool false, .slice none 0 0] : Array Value)).size := hlen3
          have hin3 : (Try.prog.info? 98).map (·.size) = some cs3.length := by rw [hlen3]; kernel_rfl
          have hr3 : cs3 = cs3 := rfl
          replace hcs3 := hid hcs3
          have hko2 := hko.size
          clear hr3 hfin own hels hsl hKr hsa hsb hs20 hs21 hs3 hslO hxs hbr hLr hKs hcl hc hgL hlbL
          have hlt3 := World.ownsRow.lt ownO
          have ownC := ownO.kg hkI hgLo
          have helsC := helsO.kg hkI hgLo
          have hBoC := hBo.keep (World.grownBy.block hkI bo hbrO (by simp; omega))
          have hKC := hKrO.trans (hkI.kb bo)
          have hob : ∀ q, (Value.slice A6 y6.length c6).ownBlock = some q → w5.heap.size ≤ q := ownC.ge
          have hzI := hkI.size
          have hgw3 := hr.lt
          have hc7 := hBoC.cell (j := 3) rfl
          have hbl7 := block_lt_of_cell hc7
          go_wp2_with (first | (refine wpList_load_mid rfl 98 (.tmp 6) rfl b 0 rfl cs3 _ hB.range Try.underlying98 rfl hin3 ?_) | (at_builtin; rw [fold_fill #[.bool false, .bool false, .slice none 0 0] cs3 hfl3]; refine wpl_append_flat rfl (.tmp 55) (.tmp 57) rfl stMerged encC_len encC_one rfl (ownC.alloc _) rfl (Sl.one (R := Pl encC) wr _ 98 3 (⟨_, hlen3, hone3⟩ : Elm 3) hlen3 rfl) (by simp; omega) (by simp; omega) (by simp; omega) ?_; intro v4 w4 hown4 hgrow4 hat4 hnil4; obtain ⟨A4, c4, hv4, hc4, hm4⟩ := hown4.form; rw [show (cssO ++ [(⟨_, hlen3, hone3⟩ : Elm 3)]).length = y6.length + 1 by simp [hclO]] at hv4 hc4; subst hv4; have hB5 := hBoC.keep (w' := w4) (by rw [hgrow4.block bo (by simp; omega) (fun e => by have := hob bo e.symm; omega), heap_alloc_old _ _ (by omega)]); have hc8 := hB5.cell (j := 3) rfl; have hf8 := hB5.free (j := 3) (by simp); have hbl8 := block_lt_of_cell hc8))
          have hsz4 := hgrow4.size
          have hgq : (((wr.alloc (.cells cs3.toArray 98))).heap.size) = wr.heap.size + 1 := by simp
          have hold : ∀ q, q < w5.heap.size → w4.heap[q]? = wr.heap[q]? := fun q hq => by
            rw [hgrow4.block q (by omega) (fun e => by have := hob q e.symm; omega), heap_alloc_old _ _ (by omega)]
          have hK5 : Kb g bo w5 w4 := ⟨hgrow4.os.trans hKC.os, hgrow4.tape.trans hKC.tape, hgrow4.output.trans hKC.output, by omega, fun q hq hqg hqb => (hold q (by omega)).trans (hKC.block q hq hqg hqb)⟩
          have hr4 := hr.keepG (w' := w4) ⟨hgrow4.os.trans hr.kp.os, hgrow4.tape.trans hr.kp.tape, hgrow4.output.trans hr.kp.output, by have := hr.kp.size; omega, fun q hq => by
            have hq2 : q < W0.heap.size := hq
            rw [hold q (by omega), hr.kp.block hq2]⟩ (hold g hgLo)
          have hels4 := ((helsC.snoc (⟨_, hlen3, hone3⟩ : Elm 3) ⟨ya, yb, y21⟩ (by omega) (Nat.le_refl _) (fun q hq => .inl (by have := (hlt3 q hq).2; omega)) hEl).kg (((Kp.refl wr).alloc (.cells cs3.toArray 98)).kg g) hgLo).grow hgrow4 hat4
          have hB6 := hB5.set (j := 3) (by simp) (.slice A4 (y6.length + 1) c4)
          simp only [List.set_cons_zero, List.set_cons_succ, List.cons_append, List.nil_append] at hB6
          have hk6 : Kg w4 (w4.setCell ⟨bo, 3, none⟩ (.slice A4 (y6.length + 1) c4)) bo := (Kg.refl w4 bo).set (.inl rfl) _
          have hown6 := hown4.kg hk6 hlbLo
          have hels6 := hels4.kg hk6 hlbLo
          have hr6 := hr4.kb ((Kb.refl g bo w4).set 3 (.slice A4 (y6.length + 1) c4)) hlobo (set_block _ _ _ _ (by show g ≠ bo; omega))
          have hK6 := hK5.set 3 (.slice A4 (y6.length + 1) c4)
          go_wp2
          go_roundw
          case rel => exact ⟨cssO ++ [⟨_, hlen3, hone3⟩], y6 ++ [⟨ya, yb, y21⟩], _, l21, bad21, by simp; omega, by simp, hB6, hown6, hels6, by simpa using hs4, hr6, hK6⟩
          case measure => simp [intOf]; omega
    · obtain hxe : y6.length = y5 := by omega
      rw [hxe] at hsl
      have hfin := hels.fin own
      clear hpos
      have eL6 : decide ((y6.length : Int) < (y5 : Int)) = false := decide_eq_false (by omega)
      have eN6 : decide (y6.length < y5) = false := decide_eq_false (by omega)
      have eG6 : ¬ (y6.length < y5) := by omega
      replace hxe := hid hxe
      have hq6 := hKr.kg hq5 (by have := HBZ.out; omega)
      replace hZ := hZ.keep (hKr.block bz hlz (by omega) hzb)
      try replace hoD := hoD.kb2 hKr hgb
      try replace hoE := hoE.kb2 hKr hgb
      try replace hoF := hoF.kb2 hKr hgb
      try replace hoG := hoG.kb2 hKr hgb
      try replace hoP := hoP.kbe hKr hgz (Nat.le_of_lt hlb)
      try replace hoQ := hoQ.kbe hKr hgz (Nat.le_of_lt hlb)
      replace hlb := Nat.lt_of_lt_of_le hlb hKr.size
      replace hlz := Nat.lt_of_lt_of_le hlz hKr.size
      have hoD := hfin.wide (base' := b + 1) (by omega) (Nat.le_refl _)
      simp only [List.cons_append, List.nil_append] at hB
      have hr6 := hr
      have hs6 := hs5.bind hsl
      obtain ⟨w6, hwm⟩ : ∃ x, x = wr := ⟨_, rfl⟩
      subst hwm
      clear hfin hr hq5 hr5 hs5 hsl hKr hels own hxs hxe hLr hKs hcl hgL hlbL hbr
      go_wp2_with fail
      refine (rLength_any W0 g _ _ w6 hr6).mono ?_
      rintro e w7 ⟨v7, y7, l7, bad7, rfl, ho7, hs7, hr7, hk7⟩
      have hq7 := hq6.trans hk7
      replace hZ := hZ.keep (World.grownBy.block hk7 bz hlz (by simp; omega))
      try (first | (replace ho7 := ho7.wide (base' := b + 1) (by omega) (Nat.le_refl _)) | (replace ho7 := ho7.wide (base' := bz + 1) (by omega) (Nat.le_refl _)))
      try replace hoA := hoA.kg1 hk7 hgz
      try replace hoB := hoB.kg1 hk7 hgz
      try replace hoC := hoC.kg1 hk7 hgz
      try replace hoD := hoD.kg1 hk7 hgb
      try replace hoE := hoE.kg1 hk7 hgb
      try replace hoF := hoF.kg1 hk7 hgb
      try replace hoG := hoG.kg1 hk7 hgb
      try replace hoP := hoP.kge hk7 hgz (Nat.le_of_lt hlb)
      try replace hoQ := hoQ.kge hk7 hgz (Nat.le_of_lt hlb)
      try replace hB := hB.keep (World.grownBy.block hk7 b hlb (by simp; omega))
      try replace hlb := Nat.lt_of_lt_of_le hlb hk7.size
      replace hlz := Nat.lt_of_lt_of_le hlz hk7.size
      clear hk7 hq6 hr6
      obtain ⟨rfl, hn7⟩ := ho7.here
      clear ho7
      go_wp2_with fail
      have hKL := Kb.refl g b w7
      have hBL := hB
      have hgL : g < w7.heap.size := Nat.lt_trans hgb hlb
      have hlbL := hlb
      go_loopw [9] (fun i wr => ∃ (css : List (Elm 1)) (xs : List (List Int)) (v : Value) (l' : List Int) (b' : Bool), xs.length ≤ y7 ∧ i = .int .i64 (xs.length : Int) ∧ Bx wr b ([.slice A1 y1.length c1, .int .i64 y2, .slice A3 y3.length c3, .slice A6 y6.length c6] ++ v :: [.slice none 0 0, .slice none 0 0]) ∧ Own encC 22 1 w7.heap.size wr v css ∧ Els rdInts w7.heap.size wr v.ownBlock css xs ∧ SpecP (loopP intsP xs.length) l7 bad7 xs l' b' ∧ Rdr W0 wr g l' b' ∧ Kb g b w7 wr) (fun i _ => y7 - (intOf i).toNat)
      case atStart => exact ⟨[], [], _, l7, bad7, Nat.zero_le _, rfl, hBL, Own.nil _ _ _ _ _, Els.nil _ _ _ _ _, SpecP.ret _ _ _, hr7, hKL⟩
      case round =>
        obtain ⟨css, y8, v, l8, bad8, hxs, rfl, hB, own, hels, hsl, hr, hKr⟩ := hrel
        clear hBL hKL
        obtain ⟨A8, c8, rfl, hc, hm⟩ := own.form
        have hcl := hels.1
        rw [hcl] at own hels hc hB
        have hKs := hKr.size
        have hLr : w7.heap.size ≤ wr.heap.size := by omega
        have hbr : b < wr.heap.size := Nat.lt_of_lt_of_le hlb hLr
        by_cases hpos : y8.length < y7
        · go_wp2_with fail
          have hSf : ∀ W, Bx W b ([.slice A1 y1.length c1, .int .i64 y2, .slice A3 y3.length c3, .slice A6 y6.length c6] ++ .slice A8 y8.length c8 :: [.slice none 0 0, .slice none 0 0]) → (W.cell? ⟨b, 4, none⟩ = some (.slice A8 y8.length c8) ∧ W.frozen? ⟨b, 4, none⟩ = false) := fun W h => ⟨h.cell (j := 4) rfl, h.free (j := 4) (by simp)⟩
          refine beginT 7 (S := fun W => W.cell? ⟨b, 4, none⟩ = some (.slice A8 y8.length c8) ∧ W.frozen? ⟨b, 4, none⟩ = false) (by kernel_rfl) (hSf _ (hB.keep rfl)) (fun hHeld => ?_)
          refine take_atT 0 67 (v := ?_) rfl rfl (by kernel_rfl) (by kernel_rfl) (by kernel_rfl) (by kernel_rfl) (by kernel_rfl) (fun _ _ _ h => h) hHeld (Or.inl ⟨by kernel_rfl, ?_⟩) ?_
          rotate_left
          · intro w hSw; (try dsimp only at hSw); go_simp; try with_reducible rfl
          simp only [Act.put, List.setIfInBounds_toArray, List.set_cons_zero, List.set_cons_succ]
          refine take_atT 1 68 (v := ?_) rfl rfl (by kernel_rfl) (by kernel_rfl) (by kernel_rfl) (by kernel_rfl) (by kernel_rfl) (fun _ _ _ h => h) hHeld (Or.inl ⟨by kernel_rfl, ?_⟩) ?_
          rotate_left
          · intro w hSw; (try dsimp only at hSw); go_simp; try with_reducible rfl
          simp only [Act.put, List.setIfInBounds_toArray, List.set_cons_zero, List.set_cons_succ]
          refine take_atT 2 69 (v := ?_) rfl rfl (by kernel_rfl) (by kernel_rfl) (by kernel_rfl) (by kernel_rfl) (by kernel_rfl) (fun _ _ _ h => h) hHeld (Or.inl ⟨by kernel_rfl, ?_⟩) ?_
          rotate_left
          · intro w hSw; (try dsimp only at hSw); go_simp; try with_reducible rfl
          simp only [Act.put, List.setIfInBounds_toArray, List.set_cons_zero, List.set_cons_succ]
          refine stepT (i := 3) (o := _) (by kernel_rfl) rfl (fun K hK => ?_)
          go_simp
          refine (rList_any W0 g l8 bad8 _ (hr.keep (Kp.refl _).drew)).mono ?_
          rintro e w3 ⟨v3, x, l3, b3, rfl, ho, hs3, hr3, hk3⟩
          replace hk3 : Kg wr w3 g := ((Kp.refl wr).drew.kg g).trans hk3
          obtain ⟨Ax, cx, rfl, hcx, hmx⟩ := ho.here.form; obtain ⟨cs3, hcs3⟩ : ∃ cs : List Value, cs = [.slice Ax x.length cx] := ⟨_, rfl⟩; have hlen3 : cs3.length = 1 := (by rw [hcs3]; rfl); have hone3 : ∀ u ∈ cs3, u.oneCell' = true := (by rw [hcs3]; simp [Value.oneCell']); have hEl : Ow wr.heap.size w3.heap.size w3 (fun w' => rdInts w' cs3 x) := (ho.imp fun _ h => ⟨_, hcs3, h⟩); replace hcs3 := hid hcs3
          have own3 := own.kg hk3 hgL
          have hels3 := hels.kg hk3 hgL
          have hge := own.ge
          have hlt3 := World.ownsRow.lt own
          have hB3 := hB.keep (World.grownBy.block hk3 b hbr (by simp; omega))
          have hK3 := hKr.trans (hk3.kb b)
          have hs4 : SpecP (loopP intsP (y8.length + 1)) l7 bad7 (y8 ++ [x]) l3 b3 := by rw [loopP_snoc]; exact hsl.bind (hs3.bind (SpecP.ret _ _ _))
          have hz3 := hk3.size
          clear own hels hB hr hsl hs3 hKr
          refine hK.out _ _ (hSf _ hB3) (fun hHeld2 => ?_)
          clear hK K hHeld
          have hHeld := hHeld2
          clear hHeld2
          refine stepT (i := 4) (o := _) (by kernel_rfl) rfl (fun K hK => ?_)
          go_simp
          rw [show (#[.slice Ax x.length cx] : Array Value) = cs3.toArray by rw [hcs3.out]]
          have hB4 := hB3.keep (((Kp.refl w3).alloc (.cells cs3.toArray 22)).block (by omega))
          refine hK.out _ _ (hSf _ hB4) (fun hHeld2 => ?_)
          clear hK K hHeld
          have hHeld := hHeld2
          clear hHeld2
          refine stepT (i := 5) (o := _) (by kernel_rfl) rfl (fun K hK => ?_)
          refine step_append4 rfl (.tmp 68) (.tmp 71) rfl stIntss encC_len encC_one rfl (own3.alloc _) rfl (Sl.one (R := Pl encC) w3 _ 22 1 (⟨_, hlen3, hone3⟩ : Elm 1) hlen3 rfl) (by simp; omega) (by simp; omega) (by simp; omega) ?_
          intro v4 w4 hown4 hgrow4 hat4
          have hob : ∀ q, (Value.slice A8 y8.length c8).ownBlock = some q → w7.heap.size ≤ q := own3.ge
          have hB5 := hB4.keep (hgrow4.block b (by simp; omega) (fun e => by have := hob b e.symm; omega))
          refine hK.out _ _ (hSf _ hB5) (fun hHeld2 => ?_)
          clear hK K hHeld
          have hHeld := hHeld2
          clear hHeld2
          refine stepT (i := 6) (o := _) (by kernel_rfl) rfl (fun K hK => ?_)
          go_simp
          refine hK.out _ _ hHeld (fun hHeld2 => ?_)
          clear hK K hHeld
          have hHeld := hHeld2
          clear hHeld2
          have hels4 := ((hels3.snoc (⟨_, hlen3, hone3⟩ : Elm 1) x (by omega) (Nat.le_refl _) (fun q hq => .inl (hlt3 q hq).2) hEl).kg (((Kp.refl w3).alloc (.cells cs3.toArray 22)).kg g) hgL).grow hgrow4 hat4
          have hgw3 := hr3.lt
          have hgq : (((w3.alloc (.cells cs3.toArray 22))).heap.size) = w3.heap.size + 1 := by simp
          have hsz4 := hgrow4.size
          have hold : ∀ q, q < w7.heap.size → w4.heap[q]? = w3.heap[q]? := fun q hq => by
            rw [hgrow4.block q (by omega) (fun e => by have := hob q e.symm; omega), heap_alloc_old _ _ (by omega)]
          have hK5 : Kb g b w7 w4 := ⟨hgrow4.os.trans hK3.os, hgrow4.tape.trans hK3.tape, hgrow4.output.trans hK3.output, by omega, fun q hq hqg hqb => (hold q (by omega)).trans (hK3.block q hq hqg hqb)⟩
          have hr4 : Rdr W0 w4 g l3 b3 := hr3.keepG ⟨hgrow4.os.trans hr3.kp.os, hgrow4.tape.trans hr3.kp.tape, hgrow4.output.trans hr3.kp.output, by have := hr3.kp.size; omega, fun q hq => by
            have hq2 : q < W0.heap.size := hq
            rw [hold q (by omega), hr3.kp.block hq2]⟩ (hold g hgL)
          have hB6 := hB5.set (j := 4) (by simp) v4
          simp only [List.set_cons_zero, List.set_cons_succ, List.cons_append, List.nil_append] at hB6
          have hk6 : Kg w4 (w4.setCell ⟨b, 4, none⟩ v4) b := (Kg.refl w4 b).set (.inl rfl) _
          have hown6 := hown4.kg hk6 hlbL
          have hels6 := hels4.kg hk6 hlbL
          have hr6 := hr4.kb ((Kb.refl g b w4).set 4 v4) hlob (set_block _ _ _ _ (by show g ≠ b; omega))
          have hK6 := hK5.set 4 v4
          clear hB3 hB4 hB5 own3 hels3 hels4 hown4 hr3 hr4 hK3 hK5 hk6 hEl hgrow4 hat4 hSf hk3
          obtain ⟨hc8, hf8⟩ := hHeld
          obtain ⟨A4, c4, hv4, hc4, hm4⟩ := hown6.form
          rw [show (css ++ [(⟨_, hlen3, hone3⟩ : Elm 1)]).length = y8.length + 1 by simp [hcl]] at hv4 hc4
          subst hv4
          refine lastT (o := _) (by kernel_rfl) rfl (fun K hK => ?_)
          go_simp
          refine hK.out _ _ ?_
          clear hK K
          refine doneT (by kernel_rfl) ?_ _
          go_wp2
          go_roundw
          case rel => exact ⟨css ++ [⟨_, hlen3, hone3⟩], y8 ++ [x], _, l3, b3, by simp; omega, by simp, hB6, hown6, hels6, by simpa using hs4, hr6, hK6⟩
          case measure => simp [intOf]; omega
        · obtain hxe : y8.length = y7 := by omega
          rw [hxe] at hsl
          have hfin := hels.fin own
          clear hpos
          have eL8 : decide ((y8.length : Int) < (y7 : Int)) = false := decide_eq_false (by omega)
          have eN8 : decide (y8.length < y7) = false := decide_eq_false (by omega)
          have eG8 : ¬ (y8.length < y7) := by omega
          replace hxe := hid hxe
          have hq8 := hKr.kg hq7 (by have := HBZ.out; omega)
          replace hZ := hZ.keep (hKr.block bz hlz (by omega) hzb)
          try replace hoD := hoD.kb2 hKr hgb
          try replace hoE := hoE.kb2 hKr hgb
          try replace hoF := hoF.kb2 hKr hgb
          try replace hoG := hoG.kb2 hKr hgb
          try replace hoP := hoP.kbe hKr hgz (Nat.le_of_lt hlb)
          try replace hoQ := hoQ.kbe hKr hgz (Nat.le_of_lt hlb)
          replace hlb := Nat.lt_of_lt_of_le hlb hKr.size
          replace hlz := Nat.lt_of_lt_of_le hlz hKr.size
          have hoE := hfin.wide (base' := b + 1) (by omega) (Nat.le_refl _)
          simp only [List.cons_append, List.nil_append] at hB
          have hr8 := hr
          have hs8 := hs7.bind hsl
          obtain ⟨w8, hwm⟩ : ∃ x, x = wr := ⟨_, rfl⟩
          subst hwm
          clear hfin hr hq7 hr7 hs7 hsl hKr hels own hxs hxe hLr hKs hcl hgL hlbL hbr
          go_wp2_with fail
          refine (rLength_any W0 g _ _ w8 hr8).mono ?_
          rintro e w9 ⟨v9, y9, l9, bad9, rfl, ho9, hs9, hr9, hk9⟩
          have hq9 := hq8.trans hk9
          replace hZ := hZ.keep (World.grownBy.block hk9 bz hlz (by simp; omega))
          try (first | (replace ho9 := ho9.wide (base' := b + 1) (by omega) (Nat.le_refl _)) | (replace ho9 := ho9.wide (base' := bz + 1) (by omega) (Nat.le_refl _)))
          try replace hoA := hoA.kg1 hk9 hgz
          try replace hoB := hoB.kg1 hk9 hgz
          try replace hoC := hoC.kg1 hk9 hgz
          try replace hoD := hoD.kg1 hk9 hgb
          try replace hoE := hoE.kg1 hk9 hgb
          try replace hoF := hoF.kg1 hk9 hgb
          try replace hoG := hoG.kg1 hk9 hgb
          try replace hoP := hoP.kge hk9 hgz (Nat.le_of_lt hlb)
          try replace hoQ := hoQ.kge hk9 hgz (Nat.le_of_lt hlb)
          try replace hB := hB.keep (World.grownBy.block hk9 b hlb (by simp; omega))
          try replace hlb := Nat.lt_of_lt_of_le hlb hk9.size
          replace hlz := Nat.lt_of_lt_of_le hlz hk9.size
          clear hk9 hq8 hr8
          obtain ⟨rfl, hn9⟩ := ho9.here
          clear ho9
          go_wp2_with fail
          have hKL := Kb.refl g b w9
          have hBL := hB
          have hgL : g < w9.heap.size := Nat.lt_trans hgb hlb
          have hlbL := hlb
          go_loopw [10] (fun i wr => ∃ (css : List (Elm 1)) (xs : List (List (List Int))) (v : Value) (l' : List Int) (b' : Bool), xs.length ≤ y9 ∧ i = .int .i64 (xs.length : Int) ∧ Bx wr b ([.slice A1 y1.length c1, .int .i64 y2, .slice A3 y3.length c3, .slice A6 y6.length c6, .slice A8 y8.length c8] ++ v :: [.slice none 0 0]) ∧ Own encC 39 1 w9.heap.size wr v css ∧ Els rdIntss w9.heap.size wr v.ownBlock css xs ∧ SpecP (loopP (listP intsP) xs.length) l9 bad9 xs l' b' ∧ Rdr W0 wr g l' b' ∧ Kb g b w9 wr) (fun i _ => y9 - (intOf i).toNat)
          case atStart => exact ⟨[], [], _, l9, bad9, Nat.zero_le _, rfl, hBL, Own.nil _ _ _ _ _, Els.nil _ _ _ _ _, SpecP.ret _ _ _, hr9, hKL⟩
          case round =>
            obtain ⟨css, y10, v, l10, bad10, hxs, rfl, hB, own, hels, hsl, hr, hKr⟩ := hrel
            clear hBL hKL
            obtain ⟨A10, c10, rfl, hc, hm⟩ := own.form
            have hcl := hels.1
            rw [hcl] at own hels hc hB
            have hKs := hKr.size
            have hLr : w9.heap.size ≤ wr.heap.size := by omega
            have hbr : b < wr.heap.size := Nat.lt_of_lt_of_le hlb hLr
            by_cases hpos : y10.length < y9
            · go_wp2_with fail
              obtain ⟨wo, hwo⟩ : ∃ x, x = wr := ⟨_, rfl⟩
              subst hwo
              obtain ⟨bo, hbo⟩ : ∃ x, x = b := ⟨_, rfl⟩
              subst hbo
              have hBo := hB
              have hgbo := hgb
              have hlobo := hlob
              have hzbo := hzb
              have hlbo := hlb
              have hlbLo := hlbL
              have hgLo := hgL
              obtain ⟨cssO, hcssO⟩ : ∃ x, x = css := ⟨_, rfl⟩
              subst hcssO
              have ownO := own
              have helsO := hels
              have hslO := hsl
              have hKrO := hKr
              have hclO := hcl
              have hxsO := hxs
              have hbrO := hbr
              have hLrO := hLr
              have hcO := hc
              have hposO := hpos
              clear hB hgb hlob hzb hlb hlbL hgL own hels hsl hKr hcl hxs hbr hLr hc hKs hpos
              have hro := hr
              clear hr
              refine (rLength_any W0 g l10 bad10 _ hro).mono ?_
              rintro e w20 ⟨vd, y20, l20, bad20, rfl, hod, hs20, hr20, hko⟩
              obtain ⟨rfl, hn20⟩ := hod.here
              have hgL : g < w20.heap.size := hr20.lt
              have hKL := Kg.refl w20 g
              have hko2 := hko.size
              clear hod hro
              go_wp2_with fail
              go_loopw [12, 13] (fun v i wr => ∃ (css : List (Elm 1)) (xs : List (List Int)) (l' : List Int) (b' : Bool), xs.length ≤ y20 ∧ i = .int .i64 (xs.length : Int) ∧ Own encC 22 1 w20.heap.size wr v css ∧ Els rdInts w20.heap.size wr v.ownBlock css xs ∧ SpecP (loopP intsP xs.length) l20 bad20 xs l' b' ∧ Rdr W0 wr g l' b' ∧ Kg w20 wr g) (fun _ i _ => y20 - (intOf i).toNat)
              case atStart => exact ⟨[], [], l20, bad20, Nat.zero_le _, rfl, Own.nil _ _ _ _ _, Els.nil _ _ _ _ _, SpecP.ret _ _ _, hr20, hKL⟩
              case round =>
                obtain ⟨css, y21, l21, bad21, hxs, rfl, own, hels, hsl, hr, hKr⟩ := hrel
                clear hKL hr20
                obtain ⟨A21, c21, rfl, hc, hm⟩ := own.form
                have hcl := hels.1
                rw [hcl] at own hels hc ⊢
                have hKs := hKr.size
                by_cases hpos : y21.length < y20
                · go_wp2_with fail
                  refine (rList_any W0 g l21 bad21 _ hr).mono ?_
                  rintro e w3 ⟨v3, x, l3, b3, rfl, ho, hs3, hr3, hk3⟩
                  obtain ⟨Ax, cx, rfl, hcx, hmx⟩ := ho.here.form; obtain ⟨cs3, hcs3⟩ : ∃ cs : List Value, cs = [.slice Ax x.length cx] := ⟨_, rfl⟩; have hlen3 : cs3.length = 1 := (by rw [hcs3]; rfl); have hone3 : ∀ u ∈ cs3, u.oneCell' = true := (by rw [hcs3]; simp [Value.oneCell']); have hEl : Ow wr.heap.size w3.heap.size w3 (fun w' => rdInts w' cs3 x) := (ho.imp fun _ h => ⟨_, hcs3, h⟩); replace hcs3 := hid hcs3
                  have own3 := own.kg hk3 hgL
                  have hels3 := hels.kg hk3 hgL
                  have hlt3 := World.ownsRow.lt own
                  have hkk := hKr.trans hk3
                  have hs4 : SpecP (loopP intsP (y21.length + 1)) l20 bad20 (y21 ++ [x]) l3 b3 := by rw [loopP_snoc]; exact hsl.bind (hs3.bind (SpecP.ret _ _ _))
                  have hz3 := hk3.size
                  have hob : ∀ q, (Value.slice A21 y21.length c21).ownBlock = some q → w20.heap.size ≤ q := own3.ge
                  clear own hels hr hsl hs3
                  go_wp2_with (at_builtin; rw [show (#[.slice Ax x.length cx] : Array Value) = cs3.toArray by rw [hcs3.out]]; refine wpl_append_flat rfl (.tmp 88) (.tmp 91) rfl stIntss encC_len encC_one rfl (own3.alloc _) rfl (Sl.one (R := Pl encC) w3 _ 22 1 (⟨_, hlen3, hone3⟩ : Elm 1) hlen3 rfl) (by simp; omega) (by simp; omega) (by simp; omega) ?_; intro v4 w4 hown4 hgrow4 hat4 hnil4)
                  have hsz4 := hgrow4.size
                  have hgq : (((w3.alloc (.cells cs3.toArray 22))).heap.size) = w3.heap.size + 1 := by simp
                  have hold : ∀ q, q < w20.heap.size → w4.heap[q]? = w3.heap[q]? := fun q hq => by
                    rw [hgrow4.block q (by omega) (fun e => by have := hob q e.symm; omega), heap_alloc_old _ _ (by omega)]
                  have hk5 : Kg w20 w4 g := ⟨hgrow4.os.trans hkk.os, hgrow4.tape.trans hkk.tape, hgrow4.output.trans hkk.output, by omega, fun q hq hne => (hold q hq).trans (hkk.block q hq hne)⟩
                  have hr4 := hr3.keepG (w' := w4) ⟨hgrow4.os.trans hr3.kp.os, hgrow4.tape.trans hr3.kp.tape, hgrow4.output.trans hr3.kp.output, by have := hr3.kp.size; omega, fun q hq => by
                    have hq2 : q < W0.heap.size := hq
                    rw [hold q (by omega), hr3.kp.block hq2]⟩ (hold g hgL)
                  have hels4 := ((hels3.snoc (⟨_, hlen3, hone3⟩ : Elm 1) x (by omega) (Nat.le_refl _) (fun q hq => .inl (by have := (hlt3 q hq).2; omega)) hEl).kg (((Kp.refl w3).alloc (.cells cs3.toArray 22)).kg g) hgL).grow hgrow4 hat4
                  go_roundw
                  case rel => exact ⟨css ++ [⟨_, hlen3, hone3⟩], y21 ++ [x], l3, b3, by simp; omega, by simp, hown4, hels4, by simpa using hs4, hr4, hk5⟩
                  case measure => simp [intOf]; omega
                · obtain hxe : y21.length = y20 := by omega
                  rw [hxe] at hsl
                  have hfin := hels.fin own
                  have eL21 : decide ((y21.length : Int) < (y20 : Int)) = false := decide_eq_false (by omega)
                  have eN21 : decide (y21.length < y20) = false := decide_eq_false (by omega)
                  replace hxe := hid hxe
                  have hkI : Kg wo wr g := hko.trans hKr
                  have hs21 := hs20.bind hsl
                  obtain ⟨cs3, hcs3⟩ : ∃ cs : List Value, cs = [.slice A21 y21.length c21] := ⟨_, rfl⟩
                  have hlen3 : cs3.length = 1 := by rw [hcs3]; rfl
                  have hone3 : ∀ u ∈ cs3, u.oneCell' = true := by rw [hcs3]; simp [Value.oneCell']
                  have hEl : Ow w20.heap.size wr.heap.size wr (fun w' => rdIntss w' cs3 y21) := hfin.imp fun _ h => ⟨_, hcs3, h⟩
                  have hs4 : SpecP (loopP (listP intsP) (y10.length + 1)) l9 bad9 (y10 ++ [y21]) l21 bad21 := by rw [loopP_snoc]; exact hslO.bind (hs21.bind (SpecP.ret _ _ _))
                  replace hcs3 := hid hcs3
                  have hposN := hpos
                  clear hfin own hels hsl hKr hs20 hs21 hslO hxs hcl hc
                  have hlt3 := World.ownsRow.lt ownO
                  have ownC := ownO.kg hkI hgLo
                  have helsC := helsO.kg hkI hgLo
                  have hBoC := hBo.keep (World.grownBy.block hkI bo hbrO (by simp; omega))
                  have hKC := hKrO.trans (hkI.kb bo)
                  have hob : ∀ q, (Value.slice A10 y10.length c10).ownBlock = some q → w9.heap.size ≤ q := ownC.ge
                  have hzI := hkI.size
                  have hgw3 := hr.lt
                  have hc7 := hBoC.cell (j := 5) rfl
                  have hbl7 := block_lt_of_cell hc7
                  go_wp2_with (first  | (at_builtin; rw [show (#[.slice A21 y21.length c21] : Array Value) = cs3.toArray by rw [hcs3.out]]; refine wpl_append_flat rfl (.tmp 94) (.tmp 96) rfl stIntsss encC_len encC_one rfl (ownC.alloc _) rfl (Sl.one (R := Pl encC) wr _ 39 1 (⟨_, hlen3, hone3⟩ : Elm 1) hlen3 rfl) (by simp; omega) (by simp; omega) (by simp; omega) ?_; intro v4 w4 hown4 hgrow4 hat4 hnil4; obtain ⟨A4, c4, hv4, hc4, hm4⟩ := hown4.form; rw [show (cssO ++ [(⟨_, hlen3, hone3⟩ : Elm 1)]).length = y10.length + 1 by simp [hclO]] at hv4 hc4; subst hv4; have hB5 := hBoC.keep (w' := w4) (by rw [hgrow4.block bo (by simp; omega) (fun e => by have := hob bo e.symm; omega), heap_alloc_old _ _ (by omega)]); have hc8 := hB5.cell (j := 5) rfl; have hf8 := hB5.free (j := 5) (by simp); have hbl8 := block_lt_of_cell hc8))
                  have hsz4 := hgrow4.size
                  have hgq : (((wr.alloc (.cells cs3.toArray 39))).heap.size) = wr.heap.size + 1 := by simp
                  have hold : ∀ q, q < w9.heap.size → w4.heap[q]? = wr.heap[q]? := fun q hq => by
                    rw [hgrow4.block q (by omega) (fun e => by have := hob q e.symm; omega), heap_alloc_old _ _ (by omega)]
                  have hK5 : Kb g bo w9 w4 := ⟨hgrow4.os.trans hKC.os, hgrow4.tape.trans hKC.tape, hgrow4.output.trans hKC.output, by omega, fun q hq hqg hqb => (hold q (by omega)).trans (hKC.block q hq hqg hqb)⟩
                  have hr4 := hr.keepG (w' := w4) ⟨hgrow4.os.trans hr.kp.os, hgrow4.tape.trans hr.kp.tape, hgrow4.output.trans hr.kp.output, by have := hr.kp.size; omega, fun q hq => by
                    have hq2 : q < W0.heap.size := hq
                    rw [hold q (by omega), hr.kp.block hq2]⟩ (hold g hgLo)
                  have hels4 := ((helsC.snoc (⟨_, hlen3, hone3⟩ : Elm 1) y21 (by omega) (Nat.le_refl _) (fun q hq => .inl (by have := (hlt3 q hq).2; omega)) hEl).kg (((Kp.refl wr).alloc (.cells cs3.toArray 39)).kg g) hgLo).grow hgrow4 hat4
                  have hB6 := hB5.set (j := 5) (by simp) (.slice A4 (y10.length + 1) c4)
                  simp only [List.set_cons_zero, List.set_cons_succ, List.cons_append, List.nil_append] at hB6
                  have hk6 : Kg w4 (w4.setCell ⟨bo, 5, none⟩ (.slice A4 (y10.length + 1) c4)) bo := (Kg.refl w4 bo).set (.inl rfl) _
                  have hown6 := hown4.kg hk6 hlbLo
                  have hels6 := hels4.kg hk6 hlbLo
                  have hr6 := hr4.kb ((Kb.refl g bo w4).set 5 (.slice A4 (y10.length + 1) c4)) hlobo (set_block _ _ _ _ (by show g ≠ bo; omega))
                  have hK6 := hK5.set 5 (.slice A4 (y10.length + 1) c4)
                  go_wp2
                  go_roundw
                  case rel => exact ⟨cssO ++ [⟨_, hlen3, hone3⟩], y10 ++ [y21], _, l21, bad21, by simp; omega, by simp, hB6, hown6, hels6, by simpa using hs4, hr6, hK6⟩
                  case measure => simp [intOf]; omega
            · obtain hxe : y10.length = y9 := by omega
              rw [hxe] at hsl
              have hfin := hels.fin own
              clear hpos
              have eL10 : decide ((y10.length : Int) < (y9 : Int)) = false := decide_eq_false (by omega)
              have eN10 : decide (y10.length < y9) = false := decide_eq_false (by omega)
              have eG10 : ¬ (y10.length < y9) := by omega
              replace hxe := hid hxe
              have hq10 := hKr.kg hq9 (by have := HBZ.out; omega)
              replace hZ := hZ.keep (hKr.block bz hlz (by omega) hzb)
              try replace hoD := hoD.kb2 hKr hgb
              try replace hoE := hoE.kb2 hKr hgb
              try replace hoF := hoF.kb2 hKr hgb
              try replace hoG := hoG.kb2 hKr hgb
              try replace hoP := hoP.kbe hKr hgz (Nat.le_of_lt hlb)
              try replace hoQ := hoQ.kbe hKr hgz (Nat.le_of_lt hlb)
              replace hlb := Nat.lt_of_lt_of_le hlb hKr.size
              replace hlz := Nat.lt_of_lt_of_le hlz hKr.size
              have hoF := hfin.wide (base' := b + 1) (by omega) (Nat.le_refl _)
              simp only [List.cons_append, List.nil_append] at hB
              have hr10 := hr
              have hs10 := hs9.bind hsl
              obtain ⟨w10, hwm⟩ : ∃ x, x = wr := ⟨_, rfl⟩
              subst hwm
              clear hfin hr hq9 hr9 hs9 hsl hKr hels own hxs hxe hLr hKs hcl hgL hlbL hbr
              go_wp2_with fail
              refine (rList_any W0 g _ _ w10 hr10).mono ?_
              rintro e w11 ⟨v11, y11, l11, bad11, rfl, ho11, hs11, hr11, hk11⟩
              have hq11 := hq10.trans hk11
              replace hZ := hZ.keep (World.grownBy.block hk11 bz hlz (by simp; omega))
              try (first | (replace ho11 := ho11.wide (base' := b + 1) (by omega) (Nat.le_refl _)) | (replace ho11 := ho11.wide (base' := bz + 1) (by omega) (Nat.le_refl _)))
              try replace hoA := hoA.kg1 hk11 hgz
              try replace hoB := hoB.kg1 hk11 hgz
              try replace hoC := hoC.kg1 hk11 hgz
              try replace hoD := hoD.kg1 hk11 hgb
              try replace hoE := hoE.kg1 hk11 hgb
              try replace hoF := hoF.kg1 hk11 hgb
              try replace hoG := hoG.kg1 hk11 hgb
              try replace hoP := hoP.kge hk11 hgz (Nat.le_of_lt hlb)
              try replace hoQ := hoQ.kge hk11 hgz (Nat.le_of_lt hlb)
              try replace hB := hB.keep (World.grownBy.block hk11 b hlb (by simp; omega))
              try replace hlb := Nat.lt_of_lt_of_le hlb hk11.size
              replace hlz := Nat.lt_of_lt_of_le hlz hk11.size
              clear hk11 hq10 hr10
              obtain ⟨A11, c11, rfl, hc11, hm11⟩ := ho11.here.form
              have hoG := ho11
              clear ho11
              have f1 := hB.cell (j := 6) rfl
              have f2 := hB.free (j := 6) (by simp)
              have hBk := hB.set (j := 6) (by simp) (.slice A11 y11.length c11)
              simp only [List.set_cons_zero, List.set_cons_succ] at hBk
              have hkS := (Kb.refl g b w11).set 6 (.slice A11 y11.length c11)
              have hr12 := hr11.kb hkS hlob (set_block _ _ _ _ (by show g ≠ b; omega))
              have hq12 := hkS.kg hq11 (by have := HBZ.out; omega)
              replace hZ := hZ.keep (set_block w11 ⟨b, 6, none⟩ (.slice A11 y11.length c11) bz hzb)
              try replace hoD := hoD.kb2 hkS hgb
              try replace hoE := hoE.kb2 hkS hgb
              try replace hoF := hoF.kb2 hkS hgb
              try replace hoG := hoG.kb2 hkS hgb
              try replace hoP := hoP.kbe hkS hgz (Nat.le_of_lt hlb)
              try replace hoQ := hoQ.kbe hkS hgz (Nat.le_of_lt hlb)
              have hsz := set_size w11 ⟨b, 6, none⟩ (.slice A11 y11.length c11)
              have hlb' := hlb
              have hlz' := hlz
              rw [← hsz] at hlb' hlz'
              clear hkS hr11 hq11 hB
              have hR := hZ.put hBk (by simp)
              have hth := hZ.there
              go_wp2_with (first | (refine wpList_load_mid rfl 42 (.tmp 3) rfl b 0 rfl _ _ hBk.range Try.underlying42 rfl (by kernel_rfl) ?_) | (refine wpList_store_mid rfl 42 (.tmp 2) (.tmp 102) rfl bz 0 _ rfl rfl hth (by kernel_rfl) (all_oneCell_toArray (by simp [Value.oneCell'])) ?_))
              try simp only [Exit.inBlock, Exit.then]
              refine bodyPost_ret (results_cell_bx rfl _ _ bz _ _ rfl hR.range Try.underlying42 rfl (by kernel_rfl)) rfl ?_
              refine fin2 hq12 (Nat.le_of_eq HBZ.out) hr12 hloz hgz (x := (⟨y1, y2, y3, y6, y8, y10, y11⟩ : Base)) ?ow ?sp
              case ow => exact ((hoP.wide (Nat.le_refl _) (Nat.le_of_lt hlb')).and ((hoQ.wide (Nat.le_refl _) (Nat.le_of_lt hlb')).and ((hoD.wide (by omega) (Nat.le_refl _)).and ((hoE.wide (by omega) (Nat.le_refl _)).and ((hoF.wide (by omega) (Nat.le_refl _)).and (hoG.wide (by omega) (Nat.le_refl _))))))).imp fun _ h => ⟨_, rfl, _, _, _, _, _, _, rfl, h⟩
              case sp => exact hs1.bind (hs2.bind (hs3.bind (hs6.bind (hs8.bind (hs10.bind (hs11.bind (SpecP.ret _ _ _)))))))
end Go.Proofs.Ytmeafoakbkjifaa
