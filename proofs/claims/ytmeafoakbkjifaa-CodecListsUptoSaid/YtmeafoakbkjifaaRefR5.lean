
/-
The reference's reader: messages.
-/
import Derived.Test.YtmeafoakbkjifaaQA
namespace Go.Proofs.Ytmeafoakbkjifaa
set_option linter.unusedSimpArgs false
set_option linter.unusedVariables false
open Go.RowKit

set_option maxRecDepth 8000 in
set_option maxHeartbeats 16000000 in
theorem rMessage_any (W0 : World) (g : Nat) (l : List Int) (bad : Bool) (w : World) (hr : Rdr W0 w g l bad) : Reads W0 g messageP MessageV l bad 75 #[.pointer (some ⟨g, 0, none⟩)] w := by
  have hg := hr.lt
  have hlo := hr.lo
  have k0 := (Kp.refl w).alloc (.cells #[.int .i64 0, .int .i64 0, .int .i64 0, .slice none 0 0, .slice none 0 0, .slice none 0 0, .int .i64 0, .int .i64 0, .int .i64 0, .int .i64 0, .int .i64 0, .slice none 0 0, .int .i64 0, .int .i64 0, .int .i64 0, .int .i64 0, .bool false, .slice none 0 0] 78)
  have hr0 := hr.keep k0
  have hZ := Bx.new w #[.int .i64 0, .int .i64 0, .int .i64 0, .slice none 0 0, .slice none 0 0, .slice none 0 0, .int .i64 0, .int .i64 0, .int .i64 0, .int .i64 0, .int .i64 0, .slice none 0 0, .int .i64 0, .int .i64 0, .int .i64 0, .int .i64 0, .bool false, .slice none 0 0] 78
  have hq0 := k0.kg g
  go_enter Try.func75, Try.ntmps75
  go_wp2_with fail
  try rw [← World.size_alloc w (.cells #[.int .i64 0, .int .i64 0, .int .i64 0, .slice none 0 0, .slice none 0 0, .slice none 0 0, .int .i64 0, .int .i64 0, .int .i64 0, .int .i64 0, .int .i64 0, .slice none 0 0, .int .i64 0, .int .i64 0, .int .i64 0, .int .i64 0, .bool false, .slice none 0 0] 78)]
  generalize w.alloc (.cells #[.int .i64 0, .int .i64 0, .int .i64 0, .slice none 0 0, .slice none 0 0, .slice none 0 0, .int .i64 0, .int .i64 0, .int .i64 0, .int .i64 0, .int .i64 0, .slice none 0 0, .int .i64 0, .int .i64 0, .int .i64 0, .int .i64 0, .bool false, .slice none 0 0] 78) = w0 at *
  generalize hbz : w.heap.size = bz at *
  have HBZ := hid hbz
  clear hbz k0 hr
  have hlz := hZ.lt (by simp)
  have hgz : g < bz := hg
  have hloz : W0.heap.size ≤ bz := by omega
  refine (rNext_any W0 g _ _ w0 hr0).mono ?_
  rintro e w1 ⟨vq, y1, l1, bad1, rfl, hoq, hs1, hr1, hk1⟩
  obtain rfl := hoq.here
  clear hoq
  have hq1 := hq0.trans hk1
  replace hZ := hZ.keep (World.grownBy.block hk1 bz hlz (by simp; omega))
  try (first | (replace ho1 := ho1.wide (base' := b + 1) (by omega) (Nat.le_refl _)) | (replace ho1 := ho1.wide (base' := bz + 1) (by omega) (Nat.le_refl _)))
  try replace hoA := hoA.kg1 hk1 hgz
  try replace hoB := hoB.kg1 hk1 hgz
  try replace hoC := hoC.kg1 hk1 hgz
  try replace hoD := hoD.kg1 hk1 hgb
  try replace hoE := hoE.kg1 hk1 hgb
  try replace hoF := hoF.kg1 hk1 hgb
  try replace hoG := hoG.kg1 hk1 hgb
  try replace hoP := hoP.kge hk1 hgz (Nat.le_of_lt hlb)
  try replace hoQ := hoQ.kge hk1 hgz (Nat.le_of_lt hlb)
  try replace hB := hB.keep (World.grownBy.block hk1 b hlb (by simp; omega))
  try replace hlb := Nat.lt_of_lt_of_le hlb hk1.size
  replace hlz := Nat.lt_of_lt_of_le hlz hk1.size
  clear hk1 hq0 hr0
  go_wp2_with fail
  refine (rNext_any W0 g _ _ w1 hr1).mono ?_
  rintro e w2 ⟨vq, y2, l2, bad2, rfl, hoq, hs2, hr2, hk2⟩
  obtain rfl := hoq.here
  clear hoq
  have hq2 := hq1.trans hk2
  replace hZ := hZ.keep (World.grownBy.block hk2 bz hlz (by simp; omega))
  try (first | (replace ho2 := ho2.wide (base' := b + 1) (by omega) (Nat.le_refl _)) | (replace ho2 := ho2.wide (base' := bz + 1) (by omega) (Nat.le_refl _)))
  try replace hoA := hoA.kg1 hk2 hgz
  try replace hoB := hoB.kg1 hk2 hgz
  try replace hoC := hoC.kg1 hk2 hgz
  try replace hoD := hoD.kg1 hk2 hgb
  try replace hoE := hoE.kg1 hk2 hgb
  try replace hoF := hoF.kg1 hk2 hgb
  try replace hoG := hoG.kg1 hk2 hgb
  try replace hoP := hoP.kge hk2 hgz (Nat.le_of_lt hlb)
  try replace hoQ := hoQ.kge hk2 hgz (Nat.le_of_lt hlb)
  try replace hB := hB.keep (World.grownBy.block hk2 b hlb (by simp; omega))
  try replace hlb := Nat.lt_of_lt_of_le hlb hk2.size
  replace hlz := Nat.lt_of_lt_of_le hlz hk2.size
  clear hk2 hq1 hr1
  go_wp2_with fail
  refine (rNext_any W0 g _ _ w2 hr2).mono ?_
  rintro e w3 ⟨vq, y3, l3, bad3, rfl, hoq, hs3, hr3, hk3⟩
  obtain rfl := hoq.here
  clear hoq
  have hq3 := hq2.trans hk3
  replace hZ := hZ.keep (World.grownBy.block hk3 bz hlz (by simp; omega))
  try (first | (replace ho3 := ho3.wide (base' := b + 1) (by omega) (Nat.le_refl _)) | (replace ho3 := ho3.wide (base' := bz + 1) (by omega) (Nat.le_refl _)))
  try replace hoA := hoA.kg1 hk3 hgz
  try replace hoB := hoB.kg1 hk3 hgz
  try replace hoC := hoC.kg1 hk3 hgz
  try replace hoD := hoD.kg1 hk3 hgb
  try replace hoE := hoE.kg1 hk3 hgb
  try replace hoF := hoF.kg1 hk3 hgb
  try replace hoG := hoG.kg1 hk3 hgb
  try replace hoP := hoP.kge hk3 hgz (Nat.le_of_lt hlb)
  try replace hoQ := hoQ.kge hk3 hgz (Nat.le_of_lt hlb)
  try replace hB := hB.keep (World.grownBy.block hk3 b hlb (by simp; omega))
  try replace hlb := Nat.lt_of_lt_of_le hlb hk3.size
  replace hlz := Nat.lt_of_lt_of_le hlz hk3.size
  clear hk3 hq2 hr2
  go_wp2_with fail
  refine (rList_any W0 g _ _ w3 hr3).mono ?_
  rintro e w4 ⟨v4, y4, l4, bad4, rfl, ho4, hs4, hr4, hk4⟩
  have hq4 := hq3.trans hk4
  replace hZ := hZ.keep (World.grownBy.block hk4 bz hlz (by simp; omega))
  try (first | (replace ho4 := ho4.wide (base' := b + 1) (by omega) (Nat.le_refl _)) | (replace ho4 := ho4.wide (base' := bz + 1) (by omega) (Nat.le_refl _)))
  try replace hoA := hoA.kg1 hk4 hgz
  try replace hoB := hoB.kg1 hk4 hgz
  try replace hoC := hoC.kg1 hk4 hgz
  try replace hoD := hoD.kg1 hk4 hgb
  try replace hoE := hoE.kg1 hk4 hgb
  try replace hoF := hoF.kg1 hk4 hgb
  try replace hoG := hoG.kg1 hk4 hgb
  try replace hoP := hoP.kge hk4 hgz (Nat.le_of_lt hlb)
  try replace hoQ := hoQ.kge hk4 hgz (Nat.le_of_lt hlb)
  try replace hB := hB.keep (World.grownBy.block hk4 b hlb (by simp; omega))
  try replace hlb := Nat.lt_of_lt_of_le hlb hk4.size
  replace hlz := Nat.lt_of_lt_of_le hlz hk4.size
  clear hk4 hq3 hr3
  obtain ⟨A4, c4, rfl, hc4, hm4⟩ := ho4.here.form
  have hoA := ho4
  clear ho4
  go_wp2_with fail
  have kS := (Kp.refl w4).alloc (.cells #[.int .i64 y1, .int .i64 y2, .int .i64 y3, .slice A4 y4.length c4, .slice none 0 0, .slice none 0 0, .int .i64 0, .int .i64 0, .int .i64 0, .int .i64 0, .int .i64 0, .slice none 0 0, .int .i64 0, .int .i64 0, .int .i64 0, .int .i64 0, .bool false, .slice none 0 0] 78)
  have hB := Bx.new w4 #[.int .i64 y1, .int .i64 y2, .int .i64 y3, .slice A4 y4.length c4, .slice none 0 0, .slice none 0 0, .int .i64 0, .int .i64 0, .int .i64 0, .int .i64 0, .int .i64 0, .slice none 0 0, .int .i64 0, .int .i64 0, .int .i64 0, .int .i64 0, .bool false, .slice none 0 0] 78
  have hr5 := hr4.keep kS
  have hq5 := hq4.trans (kS.kg g)
  replace hZ := hZ.keep (kS.block hlz)
  try have hoP := hoA.keepP kS
  try have hoQ := hoB.keepP kS
  try clear hoA
  try clear hoB
  try rw [← World.size_alloc w4 (.cells #[.int .i64 y1, .int .i64 y2, .int .i64 y3, .slice A4 y4.length c4, .slice none 0 0, .slice none 0 0, .int .i64 0, .int .i64 0, .int .i64 0, .int .i64 0, .int .i64 0, .slice none 0 0, .int .i64 0, .int .i64 0, .int .i64 0, .int .i64 0, .bool false, .slice none 0 0] 78)]
  have hbz1 : bz < w4.heap.size := hlz
  replace hlz := Nat.lt_of_lt_of_le hlz kS.size
  generalize w4.alloc (.cells #[.int .i64 y1, .int .i64 y2, .int .i64 y3, .slice A4 y4.length c4, .slice none 0 0, .slice none 0 0, .int .i64 0, .int .i64 0, .int .i64 0, .int .i64 0, .int .i64 0, .slice none 0 0, .int .i64 0, .int .i64 0, .int .i64 0, .int .i64 0, .bool false, .slice none 0 0] 78) = w5 at *
  generalize w4.heap.size = b at *
  have hlb := hB.lt (by simp)
  have hgb : g < b := by omega
  have hlob : W0.heap.size ≤ b := by omega
  have hzb : bz ≠ b := by omega
  clear kS hr4 hq4
  refine (rLength_any W0 g _ _ w5 hr5).mono ?_
  rintro e w6 ⟨v6, y6, l6, bad6, rfl, ho6, hs6, hr6, hk6⟩
  have hq6 := hq5.trans hk6
  replace hZ := hZ.keep (World.grownBy.block hk6 bz hlz (by simp; omega))
  try (first | (replace ho6 := ho6.wide (base' := b + 1) (by omega) (Nat.le_refl _)) | (replace ho6 := ho6.wide (base' := bz + 1) (by omega) (Nat.le_refl _)))
  try replace hoA := hoA.kg1 hk6 hgz
  try replace hoB := hoB.kg1 hk6 hgz
  try replace hoC := hoC.kg1 hk6 hgz
  try replace hoD := hoD.kg1 hk6 hgb
  try replace hoE := hoE.kg1 hk6 hgb
  try replace hoF := hoF.kg1 hk6 hgb
  try replace hoG := hoG.kg1 hk6 hgb
  try replace hoP := hoP.kge hk6 hgz (Nat.le_of_lt hlb)
  try replace hoQ := hoQ.kge hk6 hgz (Nat.le_of_lt hlb)
  try replace hB := hB.keep (World.grownBy.block hk6 b hlb (by simp; omega))
  try replace hlb := Nat.lt_of_lt_of_le hlb hk6.size
  replace hlz := Nat.lt_of_lt_of_le hlz hk6.size
  clear hk6 hq5 hr5
  obtain ⟨rfl, hn6⟩ := ho6.here
  clear ho6
  go_wp2_with fail
  have hKL := Kb.refl g b w6
  have hBL := hB
  have hgL : g < w6.heap.size := Nat.lt_trans hgb hlb
  have hlbL := hlb
  go_loopw [5] (fun i wr => ∃ (css : List (Elm 13)) (xs : List Event) (v : Value) (l' : List Int) (b' : Bool), xs.length ≤ y6 ∧ i = .int .i64 (xs.length : Int) ∧ Bx wr b ([.int .i64 y1, .int .i64 y2, .int .i64 y3, .slice A4 y4.length c4] ++ v :: [.slice none 0 0, .int .i64 0, .int .i64 0, .int .i64 0, .int .i64 0, .int .i64 0, .slice none 0 0, .int .i64 0, .int .i64 0, .int .i64 0, .int .i64 0, .bool false, .slice none 0 0]) ∧ Own encC 37 13 w6.heap.size wr v css ∧ Els rdEvent w6.heap.size wr v.ownBlock css xs ∧ SpecP (loopP eventP xs.length) l6 bad6 xs l' b' ∧ Rdr W0 wr g l' b' ∧ Kb g b w6 wr) (fun i _ => y6 - (intOf i).toNat)
  case atStart => exact ⟨[], [], _, l6, bad6, Nat.zero_le _, rfl, hBL, Own.nil _ _ _ _ _, Els.nil _ _ _ _ _, SpecP.ret _ _ _, hr6, hKL⟩
  case round =>
    obtain ⟨css, y7, v, l7, bad7, hxs, rfl, hB, own, hels, hsl, hr, hKr⟩ := hrel
    clear hBL hKL
    obtain ⟨A7, c7, rfl, hc, hm⟩ := own.form
    have hcl := hels.1
    rw [hcl] at own hels hc hB
    have hKs := hKr.size
    have hLr : w6.heap.size ≤ wr.heap.size := by omega
    have hbr : b < wr.heap.size := Nat.lt_of_lt_of_le hlb hLr
    by_cases hpos : y7.length < y6
    · go_wp2_with fail
      have hSf : ∀ W, Bx W b ([.int .i64 y1, .int .i64 y2, .int .i64 y3, .slice A4 y4.length c4] ++ .slice A7 y7.length c7 :: [.slice none 0 0, .int .i64 0, .int .i64 0, .int .i64 0, .int .i64 0, .int .i64 0, .slice none 0 0, .int .i64 0, .int .i64 0, .int .i64 0, .int .i64 0, .bool false, .slice none 0 0]) → (W.cell? ⟨b, 4, none⟩ = some (.slice A7 y7.length c7) ∧ W.frozen? ⟨b, 4, none⟩ = false) := fun W h => ⟨h.cell (j := 4) rfl, h.free (j := 4) (by simp)⟩
      refine beginT 7 (S := fun W => W.cell? ⟨b, 4, none⟩ = some (.slice A7 y7.length c7) ∧ W.frozen? ⟨b, 4, none⟩ = false) (by kernel_rfl) (hSf _ (hB.keep rfl)) (fun hHeld => ?_)
      refine take_atT 0 24 (v := ?_) rfl rfl (by kernel_rfl) (by kernel_rfl) (by kernel_rfl) (by kernel_rfl) (by kernel_rfl) (fun _ _ _ h => h) hHeld (Or.inl ⟨by kernel_rfl, ?_⟩) ?_
      rotate_left
      · intro w hSw; (try dsimp only at hSw); go_simp; try with_reducible rfl
      simp only [Act.put, List.setIfInBounds_toArray, List.set_cons_zero, List.set_cons_succ]
      refine take_atT 1 25 (v := ?_) rfl rfl (by kernel_rfl) (by kernel_rfl) (by kernel_rfl) (by kernel_rfl) (by kernel_rfl) (fun _ _ _ h => h) hHeld (Or.inl ⟨by kernel_rfl, ?_⟩) ?_
      rotate_left
      · intro w hSw; (try dsimp only at hSw); go_simp; try with_reducible rfl
      simp only [Act.put, List.setIfInBounds_toArray, List.set_cons_zero, List.set_cons_succ]
      refine take_atT 2 26 (v := ?_) rfl rfl (by kernel_rfl) (by kernel_rfl) (by kernel_rfl) (by kernel_rfl) (by kernel_rfl) (fun _ _ _ h => h) hHeld (Or.inl ⟨by kernel_rfl, ?_⟩) ?_
      rotate_left
      · intro w hSw; (try dsimp only at hSw); go_simp; try with_reducible rfl
      simp only [Act.put, List.setIfInBounds_toArray, List.set_cons_zero, List.set_cons_succ]
      refine stepT (i := 3) (o := _) (by kernel_rfl) rfl (fun K hK => ?_)
      go_simp
      refine (rEvent_any W0 g l7 bad7 _ (hr.keep (Kp.refl _).drew)).mono ?_
      rintro e w3 ⟨v3, x, l3, b3, rfl, ho, hs3, hr3, hk3⟩
      replace hk3 : Kg wr w3 g := ((Kp.refl wr).drew.kg g).trans hk3
      obtain ⟨cs3, rfl, hrd3⟩ := ho.here; obtain ⟨hlen3, hone3⟩ := event_one hrd3; have hEl := ho.imp (fun w' h => VA.inj h); have hfl3 : cs3.length = ((#[.int .i64 0, .int .i64 0, .int .i64 0, .slice none 0 0, .int .i64 0, .int .i64 0, .int .i64 0, .int .i64 0, .int .i64 0, .int .i64 0, .int .i64 0, .int .i64 0, .int .i64 0] : Array Value)).size := hlen3
      have own3 := own.kg hk3 hgL
      have hels3 := hels.kg hk3 hgL
      have hge := own.ge
      have hlt3 := World.ownsRow.lt own
      have hB3 := hB.keep (World.grownBy.block hk3 b hbr (by simp; omega))
      have hK3 := hKr.trans (hk3.kb b)
      have hs4 : SpecP (loopP eventP (y7.length + 1)) l6 bad6 (y7 ++ [x]) l3 b3 := by rw [loopP_snoc]; exact hsl.bind (hs3.bind (SpecP.ret _ _ _))
      have hz3 := hk3.size
      clear own hels hB hr hsl hs3 hKr
      refine hK.out _ _ (hSf _ hB3) (fun hHeld2 => ?_)
      clear hK K hHeld
      have hHeld := hHeld2
      clear hHeld2
      refine stepT (i := 4) (o := _) (by kernel_rfl) rfl (fun K hK => ?_)
      go_simp
      rw [fold_fill #[.int .i64 0, .int .i64 0, .int .i64 0, .slice none 0 0, .int .i64 0, .int .i64 0, .int .i64 0, .int .i64 0, .int .i64 0, .int .i64 0, .int .i64 0, .int .i64 0, .int .i64 0] cs3 hfl3]
      have hB4 := hB3.keep (((Kp.refl w3).alloc (.cells cs3.toArray 37)).block (by omega))
      refine hK.out _ _ (hSf _ hB4) (fun hHeld2 => ?_)
      clear hK K hHeld
      have hHeld := hHeld2
      clear hHeld2
      refine stepT (i := 5) (o := _) (by kernel_rfl) rfl (fun K hK => ?_)
      refine step_append4 rfl (.tmp 25) (.tmp 28) rfl stEvent encC_len encC_one rfl (own3.alloc _) rfl (Sl.one (R := Pl encC) w3 _ 37 13 (⟨_, hlen3, hone3⟩ : Elm 13) hlen3 rfl) (by simp; omega) (by simp; omega) (by simp; omega) ?_
      intro v4 w4 hown4 hgrow4 hat4
      have hob : ∀ q, (Value.slice A7 y7.length c7).ownBlock = some q → w6.heap.size ≤ q := own3.ge
      have hB5 := hB4.keep (hgrow4.block b (by simp; omega) (fun e => by have := hob b e.symm; omega))
      refine hK.out _ _ (hSf _ hB5) (fun hHeld2 => ?_)
      clear hK K hHeld
      have hHeld := hHeld2
      clear hHeld2
      refine stepT (i := 6) (o := _) (by kernel_rfl) rfl (fun K hK => ?_)
      go_simp
      refine hK.out _ _ hHeld (fun hHeld2 => ?_)
      clear hK K hHeld
      have hHeld := hHeld2
      clear hHeld2
      have hels4 := ((hels3.snoc (⟨_, hlen3, hone3⟩ : Elm 13) x (by omega) (Nat.le_refl _) (fun q hq => .inl (hlt3 q hq).2) hEl).kg (((Kp.refl w3).alloc (.cells cs3.toArray 37)).kg g) hgL).grow hgrow4 hat4
      have hgw3 := hr3.lt
      have hgq : (((w3.alloc (.cells cs3.toArray 37))).heap.size) = w3.heap.size + 1 := by simp
      have hsz4 := hgrow4.size
      have hold : ∀ q, q < w6.heap.size → w4.heap[q]? = w3.heap[q]? := fun q hq => by
        rw [hgrow4.block q (by omega) (fun e => by have := hob q e.symm; omega), heap_alloc_old _ _ (by omega)]
      have hK5 : Kb g b w6 w4 := ⟨hgrow4.os.trans hK3.os, hgrow4.tape.trans hK3.tape, hgrow4.output.trans hK3.output, by omega, fun q hq hqg hqb => (hold q (by omega)).trans (hK3.block q hq hqg hqb)⟩
      have hr4 : Rdr W0 w4 g l3 b3 := hr3.keepG ⟨hgrow4.os.trans hr3.kp.os, hgrow4.tape.trans hr3.kp.tape, hgrow4.output.trans hr3.kp.output, by have := hr3.kp.size; omega, fun q hq => by
        have hq2 : q < W0.heap.size := hq
        rw [hold q (by omega), hr3.kp.block hq2]⟩ (hold g hgL)
      have hB6 := hB5.set (j := 4) (by simp) v4
      simp only [List.set_cons_zero, List.set_cons_succ, List.cons_append, List.nil_append] at hB6
      have hk6 : Kg w4 (w4.setCell ⟨b, 4, none⟩ v4) b := (Kg.refl w4 b).set (.inl rfl) _
      have hown6 := hown4.kg hk6 hlbL
      have hels6 := hels4.kg hk6 hlbL
      have hr6 := hr4.kb ((Kb.refl g b w4).set 4 v4) hlob (set_block _ _ _ _ (by show g ≠ b; omega))
      have hK6 := hK5.set 4 v4
      clear hB3 hB4 hB5 own3 hels3 hels4 hown4 hr3 hr4 hK3 hK5 hk6 hEl hgrow4 hat4 hSf hk3
      obtain ⟨hc8, hf8⟩ := hHeld
      obtain ⟨A4, c4, hv4, hc4, hm4⟩ := hown6.form
      rw [show (css ++ [(⟨_, hlen3, hone3⟩ : Elm 13)]).length = y7.length + 1 by simp [hcl]] at hv4 hc4
      subst hv4
      refine lastT (o := _) (by kernel_rfl) rfl (fun K hK => ?_)
      go_simp
      refine hK.out _ _ ?_
      clear hK K
      refine doneT (by kernel_rfl) ?_ _
      go_wp2
      go_roundw
      case rel => exact ⟨css ++ [⟨_, hlen3, hone3⟩], y7 ++ [x], _, l3, b3, by simp; omega, by simp, hB6, hown6, hels6, by simpa using hs4, hr6, hK6⟩
      case measure => simp [intOf]; omega
    · obtain hxe : y7.length = y6 := by omega
      rw [hxe] at hsl
      have hfin := hels.fin own
      clear hpos
      have eL7 : decide ((y7.length : Int) < (y6 : Int)) = false := decide_eq_false (by omega)
      have eN7 : decide (y7.length < y6) = false := decide_eq_false (by omega)
      have eG7 : ¬ (y7.length < y6) := by omega
      replace hxe := hid hxe
      have hq7 := hKr.kg hq6 (by have := HBZ.out; omega)
      replace hZ := hZ.keep (hKr.block bz hlz (by omega) hzb)
      try replace hoD := hoD.kb2 hKr hgb
      try replace hoE := hoE.kb2 hKr hgb
      try replace hoF := hoF.kb2 hKr hgb
      try replace hoG := hoG.kb2 hKr hgb
      try replace hoP := hoP.kbe hKr hgz (Nat.le_of_lt hlb)
      try replace hoQ := hoQ.kbe hKr hgz (Nat.le_of_lt hlb)
      replace hlb := Nat.lt_of_lt_of_le hlb hKr.size
      replace hlz := Nat.lt_of_lt_of_le hlz hKr.size
      have hoD := hfin.wide (base' := b + 1) (by omega) (Nat.le_refl _)
      simp only [List.cons_append, List.nil_append] at hB
      have hr7 := hr
      have hs7 := hs6.bind hsl
      obtain ⟨w7, hwm⟩ : ∃ x, x = wr := ⟨_, rfl⟩
      subst hwm
      clear hfin hr hq6 hr6 hs6 hsl hKr hels own hxs hxe hLr hKs hcl hgL hlbL hbr
      go_wp2_with fail
      refine (rLength_any W0 g _ _ w7 hr7).mono ?_
      rintro e w8 ⟨v8, y8, l8, bad8, rfl, ho8, hs8, hr8, hk8⟩
      have hq8 := hq7.trans hk8
      replace hZ := hZ.keep (World.grownBy.block hk8 bz hlz (by simp; omega))
      try (first | (replace ho8 := ho8.wide (base' := b + 1) (by omega) (Nat.le_refl _)) | (replace ho8 := ho8.wide (base' := bz + 1) (by omega) (Nat.le_refl _)))
      try replace hoA := hoA.kg1 hk8 hgz
      try replace hoB := hoB.kg1 hk8 hgz
      try replace hoC := hoC.kg1 hk8 hgz
      try replace hoD := hoD.kg1 hk8 hgb
      try replace hoE := hoE.kg1 hk8 hgb
      try replace hoF := hoF.kg1 hk8 hgb
      try replace hoG := hoG.kg1 hk8 hgb
      try replace hoP := hoP.kge hk8 hgz (Nat.le_of_lt hlb)
      try replace hoQ := hoQ.kge hk8 hgz (Nat.le_of_lt hlb)
      try replace hB := hB.keep (World.grownBy.block hk8 b hlb (by simp; omega))
      try replace hlb := Nat.lt_of_lt_of_le hlb hk8.size
      replace hlz := Nat.lt_of_lt_of_le hlz hk8.size
      clear hk8 hq7 hr7
      obtain ⟨rfl, hn8⟩ := ho8.here
      clear ho8
      go_wp2_with fail
      have hKL := Kb.refl g b w8
      have hBL := hB
      have hgL : g < w8.heap.size := Nat.lt_trans hgb hlb
      have hlbL := hlb
      go_loopw [6] (fun i wr => ∃ (css : List (Elm 3)) (xs : List Span) (v : Value) (l' : List Int) (b' : Bool), xs.length ≤ y8 ∧ i = .int .i64 (xs.length : Int) ∧ Bx wr b ([.int .i64 y1, .int .i64 y2, .int .i64 y3, .slice A4 y4.length c4, .slice A7 y7.length c7] ++ v :: [.int .i64 0, .int .i64 0, .int .i64 0, .int .i64 0, .int .i64 0, .slice none 0 0, .int .i64 0, .int .i64 0, .int .i64 0, .int .i64 0, .bool false, .slice none 0 0]) ∧ Own encC 131 3 w8.heap.size wr v css ∧ Els (Pl encSpan) w8.heap.size wr v.ownBlock css xs ∧ SpecP (loopP spanP xs.length) l8 bad8 xs l' b' ∧ Rdr W0 wr g l' b' ∧ Kb g b w8 wr) (fun i _ => y8 - (intOf i).toNat)
      case atStart => exact ⟨[], [], _, l8, bad8, Nat.zero_le _, rfl, hBL, Own.nil _ _ _ _ _, Els.nil _ _ _ _ _, SpecP.ret _ _ _, hr8, hKL⟩
      case round =>
        obtain ⟨css, y9, v, l9, bad9, hxs, rfl, hB, own, hels, hsl, hr, hKr⟩ := hrel
        clear hBL hKL
        obtain ⟨A9, c9, rfl, hc, hm⟩ := own.form
        have hcl := hels.1
        rw [hcl] at own hels hc hB
        have hKs := hKr.size
        have hLr : w8.heap.size ≤ wr.heap.size := by omega
        have hbr : b < wr.heap.size := Nat.lt_of_lt_of_le hlb hLr
        by_cases hpos : y9.length < y8
        · go_wp2_with fail
          have hSf : ∀ W, Bx W b ([.int .i64 y1, .int .i64 y2, .int .i64 y3, .slice A4 y4.length c4, .slice A7 y7.length c7] ++ .slice A9 y9.length c9 :: [.int .i64 0, .int .i64 0, .int .i64 0, .int .i64 0, .int .i64 0, .slice none 0 0, .int .i64 0, .int .i64 0, .int .i64 0, .int .i64 0, .bool false, .slice none 0 0]) → (W.cell? ⟨b, 5, none⟩ = some (.slice A9 y9.length c9) ∧ W.frozen? ⟨b, 5, none⟩ = false) := fun W h => ⟨h.cell (j := 5) rfl, h.free (j := 5) (by simp)⟩
          refine beginT 12 (S := fun W => W.cell? ⟨b, 5, none⟩ = some (.slice A9 y9.length c9) ∧ W.frozen? ⟨b, 5, none⟩ = false) (by kernel_rfl) (hSf _ (hB.keep rfl)) (fun hHeld => ?_)
          refine take_atT 0 38 (v := ?_) rfl rfl (by kernel_rfl) (by kernel_rfl) (by kernel_rfl) (by kernel_rfl) (by kernel_rfl) (fun _ _ _ h => h) hHeld (Or.inl ⟨by kernel_rfl, ?_⟩) ?_
          rotate_left
          · intro w hSw; (try dsimp only at hSw); go_simp; try with_reducible rfl
          simp only [Act.put, List.setIfInBounds_toArray, List.set_cons_zero, List.set_cons_succ]
          refine take_atT 1 39 (v := ?_) rfl rfl (by kernel_rfl) (by kernel_rfl) (by kernel_rfl) (by kernel_rfl) (by kernel_rfl) (fun _ _ _ h => h) hHeld (Or.inl ⟨by kernel_rfl, ?_⟩) ?_
          rotate_left
          · intro w hSw; (try dsimp only at hSw); go_simp; try with_reducible rfl
          simp only [Act.put, List.setIfInBounds_toArray, List.set_cons_zero, List.set_cons_succ]
          refine take_atT 2 40 (v := ?_) rfl rfl (by kernel_rfl) (by kernel_rfl) (by kernel_rfl) (by kernel_rfl) (by kernel_rfl) (fun _ _ _ h => h) hHeld (Or.inl ⟨by kernel_rfl, ?_⟩) ?_
          rotate_left
          · intro w hSw; (try dsimp only at hSw); go_simp; try with_reducible rfl
          simp only [Act.put, List.setIfInBounds_toArray, List.set_cons_zero, List.set_cons_succ]
          refine take_atT 4 42 (v := ?_) rfl rfl (by kernel_rfl) (by kernel_rfl) (by kernel_rfl) (by kernel_rfl) (by kernel_rfl) (fun _ _ _ h => h) hHeld (Or.inl ⟨by kernel_rfl, ?_⟩) ?_
          rotate_left
          · intro w hSw; (try dsimp only at hSw); go_simp; try with_reducible rfl
          simp only [Act.put, List.setIfInBounds_toArray, List.set_cons_zero, List.set_cons_succ]
          refine take_atT 6 44 (v := ?_) rfl rfl (by kernel_rfl) (by kernel_rfl) (by kernel_rfl) (by kernel_rfl) (by kernel_rfl) (fun _ _ _ h => h) hHeld (Or.inl ⟨by kernel_rfl, ?_⟩) ?_
          rotate_left
          · intro w hSw; (try dsimp only at hSw); go_simp; try with_reducible rfl
          simp only [Act.put, List.setIfInBounds_toArray, List.set_cons_zero, List.set_cons_succ]
          refine stepT (i := 3) (o := _) (by kernel_rfl) rfl (fun K hK => ?_)
          go_simp
          refine (rNext_any W0 g l9 bad9 _ (hr.keep (Kp.refl _).drew)).mono ?_
          rintro e wa ⟨va, xa, la, ba, rfl, hoa, hsa, hra, hka⟩
          obtain rfl := hoa.here
          replace hka : Kg wr wa g := ((Kp.refl wr).drew.kg g).trans hka
          have hBa := hB.keep (World.grownBy.block hka b hbr (by simp; omega))
          refine hK.out _ _ (hSf _ hBa) (fun hHeld2 => ?_)
          clear hK K hHeld
          have hHeld := hHeld2
          clear hHeld2
          refine stepT (i := 5) (o := _) (by kernel_rfl) rfl (fun K hK => ?_)
          go_simp
          refine (rNext_any W0 g la ba _ hra).mono ?_
          rintro e wb ⟨vb, xb, lb, bb, rfl, hob, hsb, hrb, hkb⟩
          obtain rfl := hob.here
          replace hkb := hka.trans hkb
          have hBb := hB.keep (World.grownBy.block hkb b hbr (by simp; omega))
          refine hK.out _ _ (hSf _ hBb) (fun hHeld2 => ?_)
          clear hK K hHeld
          have hHeld := hHeld2
          clear hHeld2
          refine stepT (i := 7) (o := _) (by kernel_rfl) rfl (fun K hK => ?_)
          go_simp
          refine (rNext_any W0 g lb bb _ hrb).mono ?_
          rintro e w3 ⟨vc, xc, l3, b3, rfl, hoc, hsc, hr3, hk3⟩
          obtain rfl := hoc.here
          replace hk3 := hkb.trans hk3
          obtain ⟨cs3, hcs3⟩ : ∃ cs : List Value, cs = [.int .i64 xa, .int .i64 xb, .int .i64 xc] := ⟨_, rfl⟩
          obtain ⟨x, hx⟩ : ∃ x : Span, x = ⟨xa, xb, xc⟩ := ⟨_, rfl⟩
          have hlen3 : cs3.length = 3 := by rw [hcs3]; rfl
          have hone3 : ∀ u ∈ cs3, u.oneCell' = true := by rw [hcs3]; simp [Value.oneCell']
          have hEl : Ow wr.heap.size w3.heap.size w3 (fun w' => Pl encSpan w' cs3 x) := fun _ _ _ => by rw [hcs3, hx]; rfl
          have hs3 : SpecP spanP l9 bad9 x l3 b3 := by rw [hx]; exact hsa.bind (hsb.bind (hsc.bind (SpecP.ret _ _ _)))
          clear hoa hob hoc hsa hsb hsc hra hrb hka hkb hBa hBb
          replace hcs3 := hid hcs3
          clear hx
          have own3 := own.kg hk3 hgL
          have hels3 := hels.kg hk3 hgL
          have hge := own.ge
          have hlt3 := World.ownsRow.lt own
          have hB3 := hB.keep (World.grownBy.block hk3 b hbr (by simp; omega))
          have hK3 := hKr.trans (hk3.kb b)
          have hs4 : SpecP (loopP spanP (y9.length + 1)) l8 bad8 (y9 ++ [x]) l3 b3 := by rw [loopP_snoc]; exact hsl.bind (hs3.bind (SpecP.ret _ _ _))
          have hz3 := hk3.size
          clear own hels hB hr hsl hs3 hKr
          refine hK.out _ _ (hSf _ hB3) (fun hHeld2 => ?_)
          clear hK K hHeld
          have hHeld := hHeld2
          clear hHeld2
          refine take_atT 8 46 (v := ?_) rfl rfl (by kernel_rfl) (by kernel_rfl) (by kernel_rfl) (by kernel_rfl) (by kernel_rfl) (fun _ _ _ h => h) hHeld (Or.inl ⟨by kernel_rfl, ?_⟩) ?_
          rotate_left
          · intro w hSw; (try dsimp only at hSw); go_simp; try with_reducible rfl
          simp only [Act.put, List.setIfInBounds_toArray, List.set_cons_zero, List.set_cons_succ]
          refine stepT (i := 9) (o := _) (by kernel_rfl) rfl (fun K hK => ?_)
          go_simp
          rw [show (#[.int .i64 xa, .int .i64 xb, .int .i64 xc] : Array Value) = cs3.toArray by rw [hcs3.out]]
          have hB4 := hB3.keep (((Kp.refl w3).alloc (.cells cs3.toArray 131)).block (by omega))
          refine hK.out _ _ (hSf _ hB4) (fun hHeld2 => ?_)
          clear hK K hHeld
          have hHeld := hHeld2
          clear hHeld2
          refine stepT (i := 10) (o := _) (by kernel_rfl) rfl (fun K hK => ?_)
          refine step_append4 rfl (.tmp 39) (.tmp 47) rfl stSpan encC_len encC_one rfl (own3.alloc _) rfl (Sl.one (R := Pl encC) w3 _ 131 3 (⟨_, hlen3, hone3⟩ : Elm 3) hlen3 rfl) (by simp; omega) (by simp; omega) (by simp; omega) ?_
          intro v4 w4 hown4 hgrow4 hat4
          have hob : ∀ q, (Value.slice A9 y9.length c9).ownBlock = some q → w8.heap.size ≤ q := own3.ge
          have hB5 := hB4.keep (hgrow4.block b (by simp; omega) (fun e => by have := hob b e.symm; omega))
          refine hK.out _ _ (hSf _ hB5) (fun hHeld2 => ?_)
          clear hK K hHeld
          have hHeld := hHeld2
          clear hHeld2
          refine stepT (i := 11) (o := _) (by kernel_rfl) rfl (fun K hK => ?_)
          go_simp
          refine hK.out _ _ hHeld (fun hHeld2 => ?_)
          clear hK K hHeld
          have hHeld := hHeld2
          clear hHeld2
          have hels4 := ((hels3.snoc (⟨_, hlen3, hone3⟩ : Elm 3) x (by omega) (Nat.le_refl _) (fun q hq => .inl (hlt3 q hq).2) hEl).kg (((Kp.refl w3).alloc (.cells cs3.toArray 131)).kg g) hgL).grow hgrow4 hat4
          have hgw3 := hr3.lt
          have hgq : (((w3.alloc (.cells cs3.toArray 131))).heap.size) = w3.heap.size + 1 := by simp
          have hsz4 := hgrow4.size
          have hold : ∀ q, q < w8.heap.size → w4.heap[q]? = w3.heap[q]? := fun q hq => by
            rw [hgrow4.block q (by omega) (fun e => by have := hob q e.symm; omega), heap_alloc_old _ _ (by omega)]
          have hK5 : Kb g b w8 w4 := ⟨hgrow4.os.trans hK3.os, hgrow4.tape.trans hK3.tape, hgrow4.output.trans hK3.output, by omega, fun q hq hqg hqb => (hold q (by omega)).trans (hK3.block q hq hqg hqb)⟩
          have hr4 : Rdr W0 w4 g l3 b3 := hr3.keepG ⟨hgrow4.os.trans hr3.kp.os, hgrow4.tape.trans hr3.kp.tape, hgrow4.output.trans hr3.kp.output, by have := hr3.kp.size; omega, fun q hq => by
            have hq2 : q < W0.heap.size := hq
            rw [hold q (by omega), hr3.kp.block hq2]⟩ (hold g hgL)
          have hB6 := hB5.set (j := 5) (by simp) v4
          simp only [List.set_cons_zero, List.set_cons_succ, List.cons_append, List.nil_append] at hB6
          have hk6 : Kg w4 (w4.setCell ⟨b, 5, none⟩ v4) b := (Kg.refl w4 b).set (.inl rfl) _
          have hown6 := hown4.kg hk6 hlbL
          have hels6 := hels4.kg hk6 hlbL
          have hr6 := hr4.kb ((Kb.refl g b w4).set 5 v4) hlob (set_block _ _ _ _ (by show g ≠ b; omega))
          have hK6 := hK5.set 5 v4
          clear hB3 hB4 hB5 own3 hels3 hels4 hown4 hr3 hr4 hK3 hK5 hk6 hEl hgrow4 hat4 hSf hk3
          obtain ⟨hc8, hf8⟩ := hHeld
          obtain ⟨A4, c4, hv4, hc4, hm4⟩ := hown6.form
          rw [show (css ++ [(⟨_, hlen3, hone3⟩ : Elm 3)]).length = y9.length + 1 by simp [hcl]] at hv4 hc4
          subst hv4
          refine lastT (o := _) (by kernel_rfl) rfl (fun K hK => ?_)
          go_simp
          refine hK.out _ _ ?_
          clear hK K
          refine doneT (by kernel_rfl) ?_ _
          go_wp2
          go_roundw
          case rel => exact ⟨css ++ [⟨_, hlen3, hone3⟩], y9 ++ [x], _, l3, b3, by simp; omega, by simp, hB6, hown6, hels6, by simpa using hs4, hr6, hK6⟩
          case measure => simp [intOf]; omega
        · obtain hxe : y9.length = y8 := by omega
          rw [hxe] at hsl
          have hfin := hels.fin own
          clear hpos
          have eL9 : decide ((y9.length : Int) < (y8 : Int)) = false := decide_eq_false (by omega)
          have eN9 : decide (y9.length < y8) = false := decide_eq_false (by omega)
          have eG9 : ¬ (y9.length < y8) := by omega
          replace hxe := hid hxe
          have hq9 := hKr.kg hq8 (by have := HBZ.out; omega)
          replace hZ := hZ.keep (hKr.block bz hlz (by omega) hzb)
          try replace hoD := hoD.kb2 hKr hgb
          try replace hoE := hoE.kb2 hKr hgb
          try replace hoF := hoF.kb2 hKr hgb
          try replace hoG := hoG.kb2 hKr hgb
          try replace hoP := hoP.kbe hKr hgz (Nat.le_of_lt hlb)
          try replace hoQ := hoQ.kbe hKr hgz (Nat.le_of_lt hlb)
          replace hlb := Nat.lt_of_lt_of_le hlb hKr.size
          replace hlz := Nat.lt_of_lt_of_le hlz hKr.size
          have hoE := hfin.wide (base' := b + 1) (by omega) (Nat.le_refl _)
          simp only [List.cons_append, List.nil_append] at hB
          have hr9 := hr
          have hs9 := hs8.bind hsl
          obtain ⟨w9, hwm⟩ : ∃ x, x = wr := ⟨_, rfl⟩
          subst hwm
          clear hfin hr hq8 hr8 hs8 hsl hKr hels own hxs hxe hLr hKs hcl hgL hlbL hbr
          go_wp2_with fail
          refine (rAsk_any W0 g _ _ w9 hr9).mono ?_
          rintro e w10 ⟨v10, y10, l10, bad10, rfl, ho10, hs10, hr10, hk10⟩
          have hq10 := hq9.trans hk10
          replace hZ := hZ.keep (World.grownBy.block hk10 bz hlz (by simp; omega))
          try (first | (replace ho10 := ho10.wide (base' := b + 1) (by omega) (Nat.le_refl _)) | (replace ho10 := ho10.wide (base' := bz + 1) (by omega) (Nat.le_refl _)))
          try replace hoA := hoA.kg1 hk10 hgz
          try replace hoB := hoB.kg1 hk10 hgz
          try replace hoC := hoC.kg1 hk10 hgz
          try replace hoD := hoD.kg1 hk10 hgb
          try replace hoE := hoE.kg1 hk10 hgb
          try replace hoF := hoF.kg1 hk10 hgb
          try replace hoG := hoG.kg1 hk10 hgb
          try replace hoP := hoP.kge hk10 hgz (Nat.le_of_lt hlb)
          try replace hoQ := hoQ.kge hk10 hgz (Nat.le_of_lt hlb)
          try replace hB := hB.keep (World.grownBy.block hk10 b hlb (by simp; omega))
          try replace hlb := Nat.lt_of_lt_of_le hlb hk10.size
          replace hlz := Nat.lt_of_lt_of_le hlz hk10.size
          clear hk10 hq9 hr9
          obtain ⟨cs, rfl, hcs⟩ := ho10.here
          have hoF := ho10
          clear ho10
          obtain ⟨hl8, h18⟩ := ask_one hcs
          have hBk := hB.setCells cs 6 _ _ (by rw [hl8]; simp)
          have hth := hB.thereAt 6 (cs).length (by rw [hl8]; simp)
          have hin : (Try.prog.info? 75).map (·.size) = some (cs).toArray.size := by rw [List.size_toArray, hl8]; kernel_rfl
          have hkS := Kb.setCells cs 6 _ (Kb.refl g b w10)
          have hr11 := hr10.kb hkS hlob (setCells_block b g (by omega) cs 6 w10)
          have hq11 := hkS.kg hq10 (by have := HBZ.out; omega)
          replace hZ := hZ.keep (setCells_block b bz hzb cs 6 w10)
          try replace hoD := hoD.kb2 hkS hgb
          try replace hoE := hoE.kb2 hkS hgb
          try replace hoF := hoF.kb2 hkS hgb
          try replace hoG := hoG.kb2 hkS hgb
          try replace hoP := hoP.kbe hkS hgz (Nat.le_of_lt hlb)
          try replace hoQ := hoQ.kbe hkS hgz (Nat.le_of_lt hlb)
          have hsz := setCells_size b cs 6 w10
          have hlb' := hlb
          have hlz' := hlz
          rw [← hsz] at hlb' hlz'
          clear hkS hr10 hq10
          go_wp2_with (refine wpList_store_mid rfl 75 (.tmp 52) (.tmp 51) rfl b 6 (cs).toArray rfl rfl hth hin (all_oneCell_toArray h18) ?_)
          try rw [← hsz]
          generalize w10.setCells b 6 cs = w11 at *
          clear hth hin hsz hB hlb hlz
          have hB := hBk
          have hlb := hlb'
          have hlz := hlz'
          clear hBk hlb' hlz'
          obtain ⟨z0, z1, z2, z3, z4, z5⟩ := y10
          obtain ⟨vz, rfl, hN⟩ := hcs
          obtain ⟨A10, c10, rfl, hc10, hm10⟩ := hN.form
          clear hN
          dsimp only at *
          simp [putV] at hB
          refine (rNext_any W0 g _ _ w11 hr11).mono ?_
          rintro e w12 ⟨vq, y12, l12, bad12, rfl, hoq, hs12, hr12, hk12⟩
          obtain rfl := hoq.here
          clear hoq
          have hq12 := hq11.trans hk12
          replace hZ := hZ.keep (World.grownBy.block hk12 bz hlz (by simp; omega))
          try (first | (replace ho12 := ho12.wide (base' := b + 1) (by omega) (Nat.le_refl _)) | (replace ho12 := ho12.wide (base' := bz + 1) (by omega) (Nat.le_refl _)))
          try replace hoA := hoA.kg1 hk12 hgz
          try replace hoB := hoB.kg1 hk12 hgz
          try replace hoC := hoC.kg1 hk12 hgz
          try replace hoD := hoD.kg1 hk12 hgb
          try replace hoE := hoE.kg1 hk12 hgb
          try replace hoF := hoF.kg1 hk12 hgb
          try replace hoG := hoG.kg1 hk12 hgb
          try replace hoP := hoP.kge hk12 hgz (Nat.le_of_lt hlb)
          try replace hoQ := hoQ.kge hk12 hgz (Nat.le_of_lt hlb)
          try replace hB := hB.keep (World.grownBy.block hk12 b hlb (by simp; omega))
          try replace hlb := Nat.lt_of_lt_of_le hlb hk12.size
          replace hlz := Nat.lt_of_lt_of_le hlz hk12.size
          clear hk12 hq11 hr11
          have f1 := hB.cell (j := 12) rfl
          have f2 := hB.free (j := 12) (by simp)
          have hBk := hB.set (j := 12) (by simp) (.int .i64 y12)
          simp only [List.set_cons_zero, List.set_cons_succ] at hBk
          have hkS := (Kb.refl g b w12).set 12 (.int .i64 y12)
          have hr13 := hr12.kb hkS hlob (set_block _ _ _ _ (by show g ≠ b; omega))
          have hq13 := hkS.kg hq12 (by have := HBZ.out; omega)
          replace hZ := hZ.keep (set_block w12 ⟨b, 12, none⟩ (.int .i64 y12) bz hzb)
          try replace hoD := hoD.kb2 hkS hgb
          try replace hoE := hoE.kb2 hkS hgb
          try replace hoF := hoF.kb2 hkS hgb
          try replace hoG := hoG.kb2 hkS hgb
          try replace hoP := hoP.kbe hkS hgz (Nat.le_of_lt hlb)
          try replace hoQ := hoQ.kbe hkS hgz (Nat.le_of_lt hlb)
          have hsz := set_size w12 ⟨b, 12, none⟩ (.int .i64 y12)
          have hlb' := hlb
          have hlz' := hlz
          rw [← hsz] at hlb' hlz'
          clear hkS hr12 hq12
          go_wp2_with fail
          try rw [← hsz]
          generalize w12.setCell ⟨b, 12, none⟩ (.int .i64 y12) = w13 at *
          clear f1 f2 hsz hB hlb hlz
          have hB := hBk
          have hlb := hlb'
          have hlz := hlz'
          clear hBk hlb' hlz'
          refine (rNext_any W0 g _ _ w13 hr13).mono ?_
          rintro e w14 ⟨vq, y14, l14, bad14, rfl, hoq, hs14, hr14, hk14⟩
          obtain rfl := hoq.here
          clear hoq
          have hq14 := hq13.trans hk14
          replace hZ := hZ.keep (World.grownBy.block hk14 bz hlz (by simp; omega))
          try (first | (replace ho14 := ho14.wide (base' := b + 1) (by omega) (Nat.le_refl _)) | (replace ho14 := ho14.wide (base' := bz + 1) (by omega) (Nat.le_refl _)))
          try replace hoA := hoA.kg1 hk14 hgz
          try replace hoB := hoB.kg1 hk14 hgz
          try replace hoC := hoC.kg1 hk14 hgz
          try replace hoD := hoD.kg1 hk14 hgb
          try replace hoE := hoE.kg1 hk14 hgb
          try replace hoF := hoF.kg1 hk14 hgb
          try replace hoG := hoG.kg1 hk14 hgb
          try replace hoP := hoP.kge hk14 hgz (Nat.le_of_lt hlb)
          try replace hoQ := hoQ.kge hk14 hgz (Nat.le_of_lt hlb)
          try replace hB := hB.keep (World.grownBy.block hk14 b hlb (by simp; omega))
          try replace hlb := Nat.lt_of_lt_of_le hlb hk14.size
          replace hlz := Nat.lt_of_lt_of_le hlz hk14.size
          clear hk14 hq13 hr13
          have f1 := hB.cell (j := 13) rfl
          have f2 := hB.free (j := 13) (by simp)
          have hBk := hB.set (j := 13) (by simp) (.int .i64 y14)
          simp only [List.set_cons_zero, List.set_cons_succ] at hBk
          have hkS := (Kb.refl g b w14).set 13 (.int .i64 y14)
          have hr15 := hr14.kb hkS hlob (set_block _ _ _ _ (by show g ≠ b; omega))
          have hq15 := hkS.kg hq14 (by have := HBZ.out; omega)
          replace hZ := hZ.keep (set_block w14 ⟨b, 13, none⟩ (.int .i64 y14) bz hzb)
          try replace hoD := hoD.kb2 hkS hgb
          try replace hoE := hoE.kb2 hkS hgb
          try replace hoF := hoF.kb2 hkS hgb
          try replace hoG := hoG.kb2 hkS hgb
          try replace hoP := hoP.kbe hkS hgz (Nat.le_of_lt hlb)
          try replace hoQ := hoQ.kbe hkS hgz (Nat.le_of_lt hlb)
          have hsz := set_size w14 ⟨b, 13, none⟩ (.int .i64 y14)
          have hlb' := hlb
          have hlz' := hlz
          rw [← hsz] at hlb' hlz'
          clear hkS hr14 hq14
          go_wp2_with fail
          try rw [← hsz]
          generalize w14.setCell ⟨b, 13, none⟩ (.int .i64 y14) = w15 at *
          clear f1 f2 hsz hB hlb hlz
          have hB := hBk
          have hlb := hlb'
          have hlz := hlz'
          clear hBk hlb' hlz'
          refine (rNext_any W0 g _ _ w15 hr15).mono ?_
          rintro e w16 ⟨vq, y16, l16, bad16, rfl, hoq, hs16, hr16, hk16⟩
          obtain rfl := hoq.here
          clear hoq
          have hq16 := hq15.trans hk16
          replace hZ := hZ.keep (World.grownBy.block hk16 bz hlz (by simp; omega))
          try (first | (replace ho16 := ho16.wide (base' := b + 1) (by omega) (Nat.le_refl _)) | (replace ho16 := ho16.wide (base' := bz + 1) (by omega) (Nat.le_refl _)))
          try replace hoA := hoA.kg1 hk16 hgz
          try replace hoB := hoB.kg1 hk16 hgz
          try replace hoC := hoC.kg1 hk16 hgz
          try replace hoD := hoD.kg1 hk16 hgb
          try replace hoE := hoE.kg1 hk16 hgb
          try replace hoF := hoF.kg1 hk16 hgb
          try replace hoG := hoG.kg1 hk16 hgb
          try replace hoP := hoP.kge hk16 hgz (Nat.le_of_lt hlb)
          try replace hoQ := hoQ.kge hk16 hgz (Nat.le_of_lt hlb)
          try replace hB := hB.keep (World.grownBy.block hk16 b hlb (by simp; omega))
          try replace hlb := Nat.lt_of_lt_of_le hlb hk16.size
          replace hlz := Nat.lt_of_lt_of_le hlz hk16.size
          clear hk16 hq15 hr15
          have f1 := hB.cell (j := 14) rfl
          have f2 := hB.free (j := 14) (by simp)
          have hBk := hB.set (j := 14) (by simp) (.int .i64 y16)
          simp only [List.set_cons_zero, List.set_cons_succ] at hBk
          have hkS := (Kb.refl g b w16).set 14 (.int .i64 y16)
          have hr17 := hr16.kb hkS hlob (set_block _ _ _ _ (by show g ≠ b; omega))
          have hq17 := hkS.kg hq16 (by have := HBZ.out; omega)
          replace hZ := hZ.keep (set_block w16 ⟨b, 14, none⟩ (.int .i64 y16) bz hzb)
          try replace hoD := hoD.kb2 hkS hgb
          try replace hoE := hoE.kb2 hkS hgb
          try replace hoF := hoF.kb2 hkS hgb
          try replace hoG := hoG.kb2 hkS hgb
          try replace hoP := hoP.kbe hkS hgz (Nat.le_of_lt hlb)
          try replace hoQ := hoQ.kbe hkS hgz (Nat.le_of_lt hlb)
          have hsz := set_size w16 ⟨b, 14, none⟩ (.int .i64 y16)
          have hlb' := hlb
          have hlz' := hlz
          rw [← hsz] at hlb' hlz'
          clear hkS hr16 hq16
          go_wp2_with fail
          try rw [← hsz]
          generalize w16.setCell ⟨b, 14, none⟩ (.int .i64 y16) = w17 at *
          clear f1 f2 hsz hB hlb hlz
          have hB := hBk
          have hlb := hlb'
          have hlz := hlz'
          clear hBk hlb' hlz'
          refine (rNext_any W0 g _ _ w17 hr17).mono ?_
          rintro e w18 ⟨vq, y18, l18, bad18, rfl, hoq, hs18, hr18, hk18⟩
          obtain rfl := hoq.here
          clear hoq
          have hq18 := hq17.trans hk18
          replace hZ := hZ.keep (World.grownBy.block hk18 bz hlz (by simp; omega))
          try (first | (replace ho18 := ho18.wide (base' := b + 1) (by omega) (Nat.le_refl _)) | (replace ho18 := ho18.wide (base' := bz + 1) (by omega) (Nat.le_refl _)))
          try replace hoA := hoA.kg1 hk18 hgz
          try replace hoB := hoB.kg1 hk18 hgz
          try replace hoC := hoC.kg1 hk18 hgz
          try replace hoD := hoD.kg1 hk18 hgb
          try replace hoE := hoE.kg1 hk18 hgb
          try replace hoF := hoF.kg1 hk18 hgb
          try replace hoG := hoG.kg1 hk18 hgb
          try replace hoP := hoP.kge hk18 hgz (Nat.le_of_lt hlb)
          try replace hoQ := hoQ.kge hk18 hgz (Nat.le_of_lt hlb)
          try replace hB := hB.keep (World.grownBy.block hk18 b hlb (by simp; omega))
          try replace hlb := Nat.lt_of_lt_of_le hlb hk18.size
          replace hlz := Nat.lt_of_lt_of_le hlz hk18.size
          clear hk18 hq17 hr17
          have f1 := hB.cell (j := 15) rfl
          have f2 := hB.free (j := 15) (by simp)
          have hBk := hB.set (j := 15) (by simp) (.int .i64 y18)
          simp only [List.set_cons_zero, List.set_cons_succ] at hBk
          have hkS := (Kb.refl g b w18).set 15 (.int .i64 y18)
          have hr19 := hr18.kb hkS hlob (set_block _ _ _ _ (by show g ≠ b; omega))
          have hq19 := hkS.kg hq18 (by have := HBZ.out; omega)
          replace hZ := hZ.keep (set_block w18 ⟨b, 15, none⟩ (.int .i64 y18) bz hzb)
          try replace hoD := hoD.kb2 hkS hgb
          try replace hoE := hoE.kb2 hkS hgb
          try replace hoF := hoF.kb2 hkS hgb
          try replace hoG := hoG.kb2 hkS hgb
          try replace hoP := hoP.kbe hkS hgz (Nat.le_of_lt hlb)
          try replace hoQ := hoQ.kbe hkS hgz (Nat.le_of_lt hlb)
          have hsz := set_size w18 ⟨b, 15, none⟩ (.int .i64 y18)
          have hlb' := hlb
          have hlz' := hlz
          rw [← hsz] at hlb' hlz'
          clear hkS hr18 hq18
          go_wp2_with fail
          try rw [← hsz]
          generalize w18.setCell ⟨b, 15, none⟩ (.int .i64 y18) = w19 at *
          clear f1 f2 hsz hB hlb hlz
          have hB := hBk
          have hlb := hlb'
          have hlz := hlz'
          clear hBk hlb' hlz'
          refine (rBool_any W0 g _ _ w19 hr19).mono ?_
          rintro e w20 ⟨v20, y20, l20, bad20, rfl, ho20, hs20, hr20, hk20⟩
          have hq20 := hq19.trans hk20
          replace hZ := hZ.keep (World.grownBy.block hk20 bz hlz (by simp; omega))
          try (first | (replace ho20 := ho20.wide (base' := b + 1) (by omega) (Nat.le_refl _)) | (replace ho20 := ho20.wide (base' := bz + 1) (by omega) (Nat.le_refl _)))
          try replace hoA := hoA.kg1 hk20 hgz
          try replace hoB := hoB.kg1 hk20 hgz
          try replace hoC := hoC.kg1 hk20 hgz
          try replace hoD := hoD.kg1 hk20 hgb
          try replace hoE := hoE.kg1 hk20 hgb
          try replace hoF := hoF.kg1 hk20 hgb
          try replace hoG := hoG.kg1 hk20 hgb
          try replace hoP := hoP.kge hk20 hgz (Nat.le_of_lt hlb)
          try replace hoQ := hoQ.kge hk20 hgz (Nat.le_of_lt hlb)
          try replace hB := hB.keep (World.grownBy.block hk20 b hlb (by simp; omega))
          try replace hlb := Nat.lt_of_lt_of_le hlb hk20.size
          replace hlz := Nat.lt_of_lt_of_le hlz hk20.size
          clear hk20 hq19 hr19
          obtain rfl := ho20.here
          clear ho20
          have f1 := hB.cell (j := 16) rfl
          have f2 := hB.free (j := 16) (by simp)
          have hBk := hB.set (j := 16) (by simp) (.bool y20)
          simp only [List.set_cons_zero, List.set_cons_succ] at hBk
          have hkS := (Kb.refl g b w20).set 16 (.bool y20)
          have hr21 := hr20.kb hkS hlob (set_block _ _ _ _ (by show g ≠ b; omega))
          have hq21 := hkS.kg hq20 (by have := HBZ.out; omega)
          replace hZ := hZ.keep (set_block w20 ⟨b, 16, none⟩ (.bool y20) bz hzb)
          try replace hoD := hoD.kb2 hkS hgb
          try replace hoE := hoE.kb2 hkS hgb
          try replace hoF := hoF.kb2 hkS hgb
          try replace hoG := hoG.kb2 hkS hgb
          try replace hoP := hoP.kbe hkS hgz (Nat.le_of_lt hlb)
          try replace hoQ := hoQ.kbe hkS hgz (Nat.le_of_lt hlb)
          have hsz := set_size w20 ⟨b, 16, none⟩ (.bool y20)
          have hlb' := hlb
          have hlz' := hlz
          rw [← hsz] at hlb' hlz'
          clear hkS hr20 hq20
          go_wp2_with fail
          try rw [← hsz]
          generalize w20.setCell ⟨b, 16, none⟩ (.bool y20) = w21 at *
          clear f1 f2 hsz hB hlb hlz
          have hB := hBk
          have hlb := hlb'
          have hlz := hlz'
          clear hBk hlb' hlz'
          refine (rLength_any W0 g _ _ w21 hr21).mono ?_
          rintro e w22 ⟨v22, y22, l22, bad22, rfl, ho22, hs22, hr22, hk22⟩
          have hq22 := hq21.trans hk22
          replace hZ := hZ.keep (World.grownBy.block hk22 bz hlz (by simp; omega))
          try (first | (replace ho22 := ho22.wide (base' := b + 1) (by omega) (Nat.le_refl _)) | (replace ho22 := ho22.wide (base' := bz + 1) (by omega) (Nat.le_refl _)))
          try replace hoA := hoA.kg1 hk22 hgz
          try replace hoB := hoB.kg1 hk22 hgz
          try replace hoC := hoC.kg1 hk22 hgz
          try replace hoD := hoD.kg1 hk22 hgb
          try replace hoE := hoE.kg1 hk22 hgb
          try replace hoF := hoF.kg1 hk22 hgb
          try replace hoG := hoG.kg1 hk22 hgb
          try replace hoP := hoP.kge hk22 hgz (Nat.le_of_lt hlb)
          try replace hoQ := hoQ.kge hk22 hgz (Nat.le_of_lt hlb)
          try replace hB := hB.keep (World.grownBy.block hk22 b hlb (by simp; omega))
          try replace hlb := Nat.lt_of_lt_of_le hlb hk22.size
          replace hlz := Nat.lt_of_lt_of_le hlz hk22.size
          clear hk22 hq21 hr21
          obtain ⟨rfl, hn22⟩ := ho22.here
          clear ho22
          go_wp2_with fail
          have hKL := Kb.refl g b w22
          have hBL := hB
          have hgL : g < w22.heap.size := Nat.lt_trans hgb hlb
          have hlbL := hlb
          go_loopw [7] (fun i wr => ∃ (css : List (Elm 6)) (xs : List Entry) (v : Value) (l' : List Int) (b' : Bool), xs.length ≤ y22 ∧ i = .int .i64 (xs.length : Int) ∧ Bx wr b ([.int .i64 y1, .int .i64 y2, .int .i64 y3, .slice A4 y4.length c4, .slice A7 y7.length c7, .slice A9 y9.length c9, .int .i64 z0, .int .i64 z1, .int .i64 z2, .int .i64 z3, .int .i64 z4, .slice A10 z5.length c10, .int .i64 y12, .int .i64 y14, .int .i64 y16, .int .i64 y18, .bool y20] ++ v :: []) ∧ Own encC 44 6 w22.heap.size wr v css ∧ Els rdEntry w22.heap.size wr v.ownBlock css xs ∧ SpecP (loopP entryP xs.length) l22 bad22 xs l' b' ∧ Rdr W0 wr g l' b' ∧ Kb g b w22 wr) (fun i _ => y22 - (intOf i).toNat)
          case atStart => exact ⟨[], [], _, l22, bad22, Nat.zero_le _, rfl, hBL, Own.nil _ _ _ _ _, Els.nil _ _ _ _ _, SpecP.ret _ _ _, hr22, hKL⟩
          case round =>
            obtain ⟨css, y23, v, l23, bad23, hxs, rfl, hB, own, hels, hsl, hr, hKr⟩ := hrel
            clear hBL hKL
            obtain ⟨A23, c23, rfl, hc, hm⟩ := own.form
            have hcl := hels.1
            rw [hcl] at own hels hc hB
            have hKs := hKr.size
            have hLr : w22.heap.size ≤ wr.heap.size := by omega
            have hbr : b < wr.heap.size := Nat.lt_of_lt_of_le hlb hLr
            by_cases hpos : y23.length < y22
            · go_wp2_with fail
              have hSf : ∀ W, Bx W b ([.int .i64 y1, .int .i64 y2, .int .i64 y3, .slice A4 y4.length c4, .slice A7 y7.length c7, .slice A9 y9.length c9, .int .i64 z0, .int .i64 z1, .int .i64 z2, .int .i64 z3, .int .i64 z4, .slice A10 z5.length c10, .int .i64 y12, .int .i64 y14, .int .i64 y16, .int .i64 y18, .bool y20] ++ .slice A23 y23.length c23 :: []) → (W.cell? ⟨b, 17, none⟩ = some (.slice A23 y23.length c23) ∧ W.frozen? ⟨b, 17, none⟩ = false) := fun W h => ⟨h.cell (j := 17) rfl, h.free (j := 17) (by simp)⟩
              refine beginT 7 (S := fun W => W.cell? ⟨b, 17, none⟩ = some (.slice A23 y23.length c23) ∧ W.frozen? ⟨b, 17, none⟩ = false) (by kernel_rfl) (hSf _ (hB.keep rfl)) (fun hHeld => ?_)
              refine take_atT 0 75 (v := ?_) rfl rfl (by kernel_rfl) (by kernel_rfl) (by kernel_rfl) (by kernel_rfl) (by kernel_rfl) (fun _ _ _ h => h) hHeld (Or.inl ⟨by kernel_rfl, ?_⟩) ?_
              rotate_left
              · intro w hSw; (try dsimp only at hSw); go_simp; try with_reducible rfl
              simp only [Act.put, List.setIfInBounds_toArray, List.set_cons_zero, List.set_cons_succ]
              refine take_atT 1 76 (v := ?_) rfl rfl (by kernel_rfl) (by kernel_rfl) (by kernel_rfl) (by kernel_rfl) (by kernel_rfl) (fun _ _ _ h => h) hHeld (Or.inl ⟨by kernel_rfl, ?_⟩) ?_
              rotate_left
              · intro w hSw; (try dsimp only at hSw); go_simp; try with_reducible rfl
              simp only [Act.put, List.setIfInBounds_toArray, List.set_cons_zero, List.set_cons_succ]
              refine take_atT 2 77 (v := ?_) rfl rfl (by kernel_rfl) (by kernel_rfl) (by kernel_rfl) (by kernel_rfl) (by kernel_rfl) (fun _ _ _ h => h) hHeld (Or.inl ⟨by kernel_rfl, ?_⟩) ?_
              rotate_left
              · intro w hSw; (try dsimp only at hSw); go_simp; try with_reducible rfl
              simp only [Act.put, List.setIfInBounds_toArray, List.set_cons_zero, List.set_cons_succ]
              refine stepT (i := 3) (o := _) (by kernel_rfl) rfl (fun K hK => ?_)
              go_simp
              refine (rEntry_any W0 g l23 bad23 _ (hr.keep (Kp.refl _).drew)).mono ?_
              rintro e w3 ⟨v3, x, l3, b3, rfl, ho, hs3, hr3, hk3⟩
              replace hk3 : Kg wr w3 g := ((Kp.refl wr).drew.kg g).trans hk3
              obtain ⟨cs3, rfl, hrd3⟩ := ho.here; obtain ⟨hlen3, hone3⟩ := entry_one hrd3; have hEl := ho.imp (fun w' h => VA.inj h); have hfl3 : cs3.length = ((#[.int .i64 0, .int .i64 0, .int .i64 0, .int .i64 0, .int .i64 0, .slice none 0 0] : Array Value)).size := hlen3
              have own3 := own.kg hk3 hgL
              have hels3 := hels.kg hk3 hgL
              have hge := own.ge
              have hlt3 := World.ownsRow.lt own
              have hB3 := hB.keep (World.grownBy.block hk3 b hbr (by simp; omega))
              have hK3 := hKr.trans (hk3.kb b)
              have hs4 : SpecP (loopP entryP (y23.length + 1)) l22 bad22 (y23 ++ [x]) l3 b3 := by rw [loopP_snoc]; exact hsl.bind (hs3.bind (SpecP.ret _ _ _))
              have hz3 := hk3.size
              clear own hels hB hr hsl hs3 hKr
              refine hK.out _ _ (hSf _ hB3) (fun hHeld2 => ?_)
              clear hK K hHeld
              have hHeld := hHeld2
              clear hHeld2
              refine stepT (i := 4) (o := _) (by kernel_rfl) rfl (fun K hK => ?_)
              go_simp
              rw [fold_fill #[.int .i64 0, .int .i64 0, .int .i64 0, .int .i64 0, .int .i64 0, .slice none 0 0] cs3 hfl3]
              have hB4 := hB3.keep (((Kp.refl w3).alloc (.cells cs3.toArray 44)).block (by omega))
              refine hK.out _ _ (hSf _ hB4) (fun hHeld2 => ?_)
              clear hK K hHeld
              have hHeld := hHeld2
              clear hHeld2
              refine stepT (i := 5) (o := _) (by kernel_rfl) rfl (fun K hK => ?_)
              refine step_append4 rfl (.tmp 76) (.tmp 79) rfl stEntry encC_len encC_one rfl (own3.alloc _) rfl (Sl.one (R := Pl encC) w3 _ 44 6 (⟨_, hlen3, hone3⟩ : Elm 6) hlen3 rfl) (by simp; omega) (by simp; omega) (by simp; omega) ?_
              intro v4 w4 hown4 hgrow4 hat4
              have hob : ∀ q, (Value.slice A23 y23.length c23).ownBlock = some q → w22.heap.size ≤ q := own3.ge
              have hB5 := hB4.keep (hgrow4.block b (by simp; omega) (fun e => by have := hob b e.symm; omega))
              refine hK.out _ _ (hSf _ hB5) (fun hHeld2 => ?_)
              clear hK K hHeld
              have hHeld := hHeld2
              clear hHeld2
              refine stepT (i := 6) (o := _) (by kernel_rfl) rfl (fun K hK => ?_)
              go_simp
              refine hK.out _ _ hHeld (fun hHeld2 => ?_)
              clear hK K hHeld
              have hHeld := hHeld2
              clear hHeld2
              have hels4 := ((hels3.snoc (⟨_, hlen3, hone3⟩ : Elm 6) x (by omega) (Nat.le_refl _) (fun q hq => .inl (hlt3 q hq).2) hEl).kg (((Kp.refl w3).alloc (.cells cs3.toArray 44)).kg g) hgL).grow hgrow4 hat4
              have hgw3 := hr3.lt
              have hgq : (((w3.alloc (.cells cs3.toArray 44))).heap.size) = w3.heap.size + 1 := by simp
              have hsz4 := hgrow4.size
              have hold : ∀ q, q < w22.heap.size → w4.heap[q]? = w3.heap[q]? := fun q hq => by
                rw [hgrow4.block q (by omega) (fun e => by have := hob q e.symm; omega), heap_alloc_old _ _ (by omega)]
              have hK5 : Kb g b w22 w4 := ⟨hgrow4.os.trans hK3.os, hgrow4.tape.trans hK3.tape, hgrow4.output.trans hK3.output, by omega, fun q hq hqg hqb => (hold q (by omega)).trans (hK3.block q hq hqg hqb)⟩
              have hr4 : Rdr W0 w4 g l3 b3 := hr3.keepG ⟨hgrow4.os.trans hr3.kp.os, hgrow4.tape.trans hr3.kp.tape, hgrow4.output.trans hr3.kp.output, by have := hr3.kp.size; omega, fun q hq => by
                have hq2 : q < W0.heap.size := hq
                rw [hold q (by omega), hr3.kp.block hq2]⟩ (hold g hgL)
              have hB6 := hB5.set (j := 17) (by simp) v4
              simp only [List.set_cons_zero, List.set_cons_succ, List.cons_append, List.nil_append] at hB6
              have hk6 : Kg w4 (w4.setCell ⟨b, 17, none⟩ v4) b := (Kg.refl w4 b).set (.inl rfl) _
              have hown6 := hown4.kg hk6 hlbL
              have hels6 := hels4.kg hk6 hlbL
              have hr6 := hr4.kb ((Kb.refl g b w4).set 17 v4) hlob (set_block _ _ _ _ (by show g ≠ b; omega))
              have hK6 := hK5.set 17 v4
              clear hB3 hB4 hB5 own3 hels3 hels4 hown4 hr3 hr4 hK3 hK5 hk6 hEl hgrow4 hat4 hSf hk3
              obtain ⟨hc8, hf8⟩ := hHeld
              obtain ⟨A4, c4, hv4, hc4, hm4⟩ := hown6.form
              rw [show (css ++ [(⟨_, hlen3, hone3⟩ : Elm 6)]).length = y23.length + 1 by simp [hcl]] at hv4 hc4
              subst hv4
              refine lastT (o := _) (by kernel_rfl) rfl (fun K hK => ?_)
              go_simp
              refine hK.out _ _ ?_
              clear hK K
              refine doneT (by kernel_rfl) ?_ _
              go_wp2
              go_roundw
              case rel => exact ⟨css ++ [⟨_, hlen3, hone3⟩], y23 ++ [x], _, l3, b3, by simp; omega, by simp, hB6, hown6, hels6, by simpa using hs4, hr6, hK6⟩
              case measure => simp [intOf]; omega
            · obtain hxe : y23.length = y22 := by omega
              rw [hxe] at hsl
              have hfin := hels.fin own
              clear hpos
              have eL23 : decide ((y23.length : Int) < (y22 : Int)) = false := decide_eq_false (by omega)
              have eN23 : decide (y23.length < y22) = false := decide_eq_false (by omega)
              have eG23 : ¬ (y23.length < y22) := by omega
              replace hxe := hid hxe
              have hq23 := hKr.kg hq22 (by have := HBZ.out; omega)
              replace hZ := hZ.keep (hKr.block bz hlz (by omega) hzb)
              try replace hoD := hoD.kb2 hKr hgb
              try replace hoE := hoE.kb2 hKr hgb
              try replace hoF := hoF.kb2 hKr hgb
              try replace hoG := hoG.kb2 hKr hgb
              try replace hoP := hoP.kbe hKr hgz (Nat.le_of_lt hlb)
              try replace hoQ := hoQ.kbe hKr hgz (Nat.le_of_lt hlb)
              replace hlb := Nat.lt_of_lt_of_le hlb hKr.size
              replace hlz := Nat.lt_of_lt_of_le hlz hKr.size
              have hoG := hfin.wide (base' := b + 1) (by omega) (Nat.le_refl _)
              simp only [List.cons_append, List.nil_append] at hB
              have hr23 := hr
              have hs23 := hs22.bind hsl
              obtain ⟨w23, hwm⟩ : ∃ x, x = wr := ⟨_, rfl⟩
              subst hwm
              clear hfin hr hq22 hr22 hs22 hsl hKr hels own hxs hxe hLr hKs hcl hgL hlbL hbr
              have hBk := hB
              have hR := hZ.put hBk (by simp)
              have hth := hZ.there
              go_wp2_with (first | (refine wpList_load_mid rfl 78 (.tmp 3) rfl b 0 rfl _ _ hBk.range Try.underlying78 rfl (by kernel_rfl) ?_) | (refine wpList_store_mid rfl 78 (.tmp 2) (.tmp 82) rfl bz 0 _ rfl rfl hth (by kernel_rfl) (all_oneCell_toArray (by simp [Value.oneCell'])) ?_))
              try simp only [Exit.inBlock, Exit.then]
              refine bodyPost_ret (results_cell_bx rfl _ _ bz _ _ rfl hR.range Try.underlying78 rfl (by kernel_rfl)) rfl ?_
              refine fin2 hq23 (Nat.le_of_eq HBZ.out) hr23 hloz hgz (x := (⟨y1, y2, y3, y4, y7, y9, ⟨z0, z1, z2, z3, z4, z5⟩, y12, y14, y16, y18, y20, y23⟩ : Message)) ?ow ?sp
              case ow => exact ((hoP.wide (Nat.le_refl _) (Nat.le_of_lt hlb)).and ((hoD.wide (by omega) (Nat.le_refl _)).and ((hoE.wide (by omega) (Nat.le_refl _)).and (((hoF.wide (by omega) (Nat.le_refl _)).imp fun _ h => ask_in (VA.inj h)).and (hoG.wide (by omega) (Nat.le_refl _)))))).imp fun _ h => ⟨_, _, _, _, _, rfl, h⟩
              case sp => exact hs1.bind (hs2.bind (hs3.bind (hs4.bind (hs7.bind (hs9.bind (hs10.bind (hs12.bind (hs14.bind (hs16.bind (hs18.bind (hs20.bind (hs23.bind (SpecP.ret _ _ _)))))))))))))
end Go.Proofs.Ytmeafoakbkjifaa
