
/-
The reader: a base.
-/
import Derived.Test.YtmeafoakbkjifaaRdr10
namespace Go.Proofs.Ytmeafoakbkjifaa
set_option linter.unusedSimpArgs false
set_option linter.unusedVariables false
open Go.RowKit

theorem Kb.cell0 {g b a : Nat} {w w' : World} {v : Value} (hk : Kb g b w w') (h : w.cell? ⟨a, 0, none⟩ = some v) (hg : a ≠ g) (hb : a ≠ b) : w'.cell? ⟨a, 0, none⟩ = some v :=
  (World.cell?_of_block (a := ⟨a, 0, none⟩) (hk.block a (block_lt_of_cell h) hg hb)).trans h
set_option maxHeartbeats 1000000 in
theorem rdBase1_any (W0 : World) (g a : Nat) (l : List Int) (bad : Bool) (w : World) (hr : Rdr W0 w g l bad) (hc : w.cell? ⟨a, 0, none⟩ = some (.pointer (some ⟨g, 0, none⟩))) : Reads W0 g (listP intsP) Intss l bad 100 #[.pointer (some ⟨a, 0, none⟩)] w := by
  have ha := block_lt_of_cell hc
  go_enter Try.func100, Try.ntmps100
  go_wp2_with fail
  refine (elemInts_any W0 g l bad intsP 94 [.pointer (some ⟨g, 0, none⟩)] [] w hr rdIntegers_real (fun w' l' b' _ h => (rdIntegers_any W0 g l' b' w' h).imp (fun w v x h => ⟨v, rfl, h⟩))).mono ?_
  rintro e w1 ⟨v, xs, l1, b1, rfl, ho, hs, hr1, hk1⟩
  obtain ⟨A, c, rfl, hcc, hm⟩ := ho.here.form
  go_wp2
  go_ret
  exact ⟨_, xs, l1, b1, rfl, ho, hs, hr1, hk1⟩
theorem rdBase1_real : Real Try.prog 100 := ⟨_, Try.func100, by kernel_rfl, by kernel_rfl⟩
/-- how a base lies -/
def rdBaseC : Rd Base := fun w cs b => ∃ v0 v2 v3 v4 v5 v6, cs = [v0, .int .i64 b.time, v2, v3, v4, v5, v6] ∧ Ints w v0 b.clock ∧ Ints w v2 b.state ∧ Mergeds w v3 b.merged ∧ Intss w v4 b.rights ∧ Intsss w v5 b.shares ∧ Ints w v6 b.places
set_option maxHeartbeats 4000000 in
theorem rdBase_any (W0 : World) (g : Nat) (l : List Int) (bad : Bool) (w : World) (hr : Rdr W0 w g l bad) : Reads W0 g baseP (VA rdBaseC) l bad 62 #[.pointer (some ⟨g, 0, none⟩)] w := by
  have hg := hr.lt
  have hlo := hr.lo
  have kq := (Kp.refl w).alloc (.cells #[.pointer (some ⟨g, 0, none⟩)] 111)
  have hcp := alloc_cell w #[.pointer (some ⟨g, 0, none⟩)] 111 0 rfl
  have hsq : (w.alloc (.cells #[.pointer (some ⟨g, 0, none⟩)] 111)).heap.size = w.heap.size + 1 := by simp
  have k0 := (Kp.refl (w.alloc (.cells #[.pointer (some ⟨g, 0, none⟩)] 111))).alloc (.cells #[.slice none 0 0, .int .i64 0, .slice none 0 0, .slice none 0 0, .slice none 0 0, .slice none 0 0, .slice none 0 0] 42)
  have hr0 := (hr.keep kq).keep k0
  have hB0 := Bx.new (w.alloc (.cells #[.pointer (some ⟨g, 0, none⟩)] 111)) #[.slice none 0 0, .int .i64 0, .slice none 0 0, .slice none 0 0, .slice none 0 0, .slice none 0 0, .slice none 0 0] 42
  have hg0 := (kq.trans k0).kg g
  replace hcp := k0.cellS hcp
  rw [hsq] at hB0
  have hlt := block_lt_of_cell hcp
  go_enter Try.func62, Try.ntmps62
  go_wp2_with fail
  generalize (w.alloc (.cells #[.pointer (some ⟨g, 0, none⟩)] 111)).alloc (.cells #[.slice none 0 0, .int .i64 0, .slice none 0 0, .slice none 0 0, .slice none 0 0, .slice none 0 0, .slice none 0 0] 42) = w0 at *
  clear kq k0 hsq hr
  generalize hb : w.heap.size = a at *
  have HA := hid hb
  clear hb
  generalize hb1 : a + 1 = b at *
  have HB1 := hid hb1
  have hag : a ≠ g := by omega
  have hab : a ≠ b := by omega
  have hgb : g < b := by omega
  clear hb1 hg
  have hg := hgb
  clear hgb
  have HB : w.heap.size ≤ b := by rw [HA.out, ← HB1.out]; omega
  replace HB := hid HB
  have hK0 := Kb.refl g b w0
  have hlob : W0.heap.size ≤ b := by omega
  refine (rdIntegers_any W0 g _ _ w0 hr0).mono ?_
  rintro e w1 ⟨v1, y1, l1, bad1, rfl, ho1, hs1, hr1, hk1⟩
  have hB1 := hB0.keep (World.grownBy.block hk1 b (hB0.lt (by simp)) (by simp; omega))
  have hK1 := hK0.trans (hk1.kb b)
  try replace hoA := hoA.kb2 (hk1.kb b) hg
  try replace hoB := hoB.kb2 (hk1.kb b) hg
  try replace hoC := hoC.kb2 (hk1.kb b) hg
  try replace hoD := hoD.kb2 (hk1.kb b) hg
  try replace hoE := hoE.kb2 (hk1.kb b) hg
  try replace hoF := hoF.kb2 (hk1.kb b) hg
  try replace hcp := Kb.cell0 (hk1.kb b) hcp hag hab
  replace ho1 := ho1.wide (Nat.succ_le_of_lt (hB0.lt (by simp))) (Nat.le_refl _)
  clear hk1 hB0 hr0 hK0
  obtain ⟨A1, c1, rfl, hc1, hm1⟩ := ho1.here.form
  have hoA := ho1
  clear ho1
  have hB2 := hB1.set (j := 0) (by simp) (.slice A1 y1.length c1)
  simp only [List.set_cons_zero, List.set_cons_succ] at hB2
  have hkS := (Kb.refl g b w1).set 0 (.slice A1 y1.length c1)
  have hr2 := hr1.kb hkS hlob (set_block _ _ _ _ (by show g ≠ b; omega))
  have hK2 := hK1.trans hkS
  try replace hoA := hoA.kb2 hkS hg
  try replace hoB := hoB.kb2 hkS hg
  try replace hoC := hoC.kb2 hkS hg
  try replace hoD := hoD.kb2 hkS hg
  try replace hoE := hoE.kb2 hkS hg
  try replace hoF := hoF.kb2 hkS hg
  try replace hcp := Kb.cell0 hkS hcp hag hab
  have f1 := hB1.cell (j := 0) rfl
  have f2 := hB1.free (j := 0) (by simp)
  have hsz := set_size w1 ⟨b, 0, none⟩ (.slice A1 y1.length c1)
  clear hkS hr1 hK1
  clear hB1
  go_wp2_with fail
  try rw [← hsz]
  generalize w1.setCell ⟨b, 0, none⟩ (.slice A1 y1.length c1) = w2 at *
  clear f1 f2 hsz
  refine (rdInteger_any W0 g _ _ w2 hr2).mono ?_
  rintro e w3 ⟨v3, y3, l3, bad3, rfl, ho3, hs3, hr3, hk3⟩
  have hB3 := hB2.keep (World.grownBy.block hk3 b (hB2.lt (by simp)) (by simp; omega))
  have hK3 := hK2.trans (hk3.kb b)
  try replace hoA := hoA.kb2 (hk3.kb b) hg
  try replace hoB := hoB.kb2 (hk3.kb b) hg
  try replace hoC := hoC.kb2 (hk3.kb b) hg
  try replace hoD := hoD.kb2 (hk3.kb b) hg
  try replace hoE := hoE.kb2 (hk3.kb b) hg
  try replace hoF := hoF.kb2 (hk3.kb b) hg
  try replace hcp := Kb.cell0 (hk3.kb b) hcp hag hab
  replace ho3 := ho3.wide (Nat.succ_le_of_lt (hB2.lt (by simp))) (Nat.le_refl _)
  clear hk3 hB2 hr2 hK2
  obtain rfl := ho3.here
  clear ho3
  have hB4 := hB3.set (j := 1) (by simp) (.int .i64 y3)
  simp only [List.set_cons_zero, List.set_cons_succ] at hB4
  have hkS := (Kb.refl g b w3).set 1 (.int .i64 y3)
  have hr4 := hr3.kb hkS hlob (set_block _ _ _ _ (by show g ≠ b; omega))
  have hK4 := hK3.trans hkS
  try replace hoA := hoA.kb2 hkS hg
  try replace hoB := hoB.kb2 hkS hg
  try replace hoC := hoC.kb2 hkS hg
  try replace hoD := hoD.kb2 hkS hg
  try replace hoE := hoE.kb2 hkS hg
  try replace hoF := hoF.kb2 hkS hg
  try replace hcp := Kb.cell0 hkS hcp hag hab
  have f1 := hB3.cell (j := 1) rfl
  have f2 := hB3.free (j := 1) (by simp)
  have hsz := set_size w3 ⟨b, 1, none⟩ (.int .i64 y3)
  clear hkS hr3 hK3
  clear hB3
  go_wp2_with fail
  try rw [← hsz]
  generalize w3.setCell ⟨b, 1, none⟩ (.int .i64 y3) = w4 at *
  clear f1 f2 hsz
  refine (rdIntegers_any W0 g _ _ w4 hr4).mono ?_
  rintro e w5 ⟨v5, y5, l5, bad5, rfl, ho5, hs5, hr5, hk5⟩
  have hB5 := hB4.keep (World.grownBy.block hk5 b (hB4.lt (by simp)) (by simp; omega))
  have hK5 := hK4.trans (hk5.kb b)
  try replace hoA := hoA.kb2 (hk5.kb b) hg
  try replace hoB := hoB.kb2 (hk5.kb b) hg
  try replace hoC := hoC.kb2 (hk5.kb b) hg
  try replace hoD := hoD.kb2 (hk5.kb b) hg
  try replace hoE := hoE.kb2 (hk5.kb b) hg
  try replace hoF := hoF.kb2 (hk5.kb b) hg
  try replace hcp := Kb.cell0 (hk5.kb b) hcp hag hab
  replace ho5 := ho5.wide (Nat.succ_le_of_lt (hB4.lt (by simp))) (Nat.le_refl _)
  clear hk5 hB4 hr4 hK4
  obtain ⟨A5, c5, rfl, hc5, hm5⟩ := ho5.here.form
  have hoB := ho5
  clear ho5
  have hB6 := hB5.set (j := 2) (by simp) (.slice A5 y5.length c5)
  simp only [List.set_cons_zero, List.set_cons_succ] at hB6
  have hkS := (Kb.refl g b w5).set 2 (.slice A5 y5.length c5)
  have hr6 := hr5.kb hkS hlob (set_block _ _ _ _ (by show g ≠ b; omega))
  have hK6 := hK5.trans hkS
  try replace hoA := hoA.kb2 hkS hg
  try replace hoB := hoB.kb2 hkS hg
  try replace hoC := hoC.kb2 hkS hg
  try replace hoD := hoD.kb2 hkS hg
  try replace hoE := hoE.kb2 hkS hg
  try replace hoF := hoF.kb2 hkS hg
  try replace hcp := Kb.cell0 hkS hcp hag hab
  have f1 := hB5.cell (j := 2) rfl
  have f2 := hB5.free (j := 2) (by simp)
  have hsz := set_size w5 ⟨b, 2, none⟩ (.slice A5 y5.length c5)
  clear hkS hr5 hK5
  clear hB5
  go_wp2_with fail
  try rw [← hsz]
  generalize w5.setCell ⟨b, 2, none⟩ (.slice A5 y5.length c5) = w6 at *
  clear f1 f2 hsz
  refine (elemMerged_any W0 g _ _ mergedP 97 [.pointer (some ⟨g, 0, none⟩)] [] w6 hr6 rdMerged_real (fun w' l' b' _ h => rdMerged_any W0 g l' b' w' h)).mono ?_
  rintro e w7 ⟨v7, y7, l7, bad7, rfl, ho7, hs7, hr7, hk7⟩
  have hB7 := hB6.keep (World.grownBy.block hk7 b (hB6.lt (by simp)) (by simp; omega))
  have hK7 := hK6.trans (hk7.kb b)
  try replace hoA := hoA.kb2 (hk7.kb b) hg
  try replace hoB := hoB.kb2 (hk7.kb b) hg
  try replace hoC := hoC.kb2 (hk7.kb b) hg
  try replace hoD := hoD.kb2 (hk7.kb b) hg
  try replace hoE := hoE.kb2 (hk7.kb b) hg
  try replace hoF := hoF.kb2 (hk7.kb b) hg
  try replace hcp := Kb.cell0 (hk7.kb b) hcp hag hab
  replace ho7 := ho7.wide (Nat.succ_le_of_lt (hB6.lt (by simp))) (Nat.le_refl _)
  clear hk7 hB6 hr6 hK6
  obtain ⟨A7, c7, rfl, hc7, hm7⟩ := ho7.here.form
  have hoC := ho7
  clear ho7
  have hB8 := hB7.set (j := 3) (by simp) (.slice A7 y7.length c7)
  simp only [List.set_cons_zero, List.set_cons_succ] at hB8
  have hkS := (Kb.refl g b w7).set 3 (.slice A7 y7.length c7)
  have hr8 := hr7.kb hkS hlob (set_block _ _ _ _ (by show g ≠ b; omega))
  have hK8 := hK7.trans hkS
  try replace hoA := hoA.kb2 hkS hg
  try replace hoB := hoB.kb2 hkS hg
  try replace hoC := hoC.kb2 hkS hg
  try replace hoD := hoD.kb2 hkS hg
  try replace hoE := hoE.kb2 hkS hg
  try replace hoF := hoF.kb2 hkS hg
  try replace hcp := Kb.cell0 hkS hcp hag hab
  have f1 := hB7.cell (j := 3) rfl
  have f2 := hB7.free (j := 3) (by simp)
  have hsz := set_size w7 ⟨b, 3, none⟩ (.slice A7 y7.length c7)
  clear hkS hr7 hK7
  clear hB7
  go_wp2_with fail
  try rw [← hsz]
  generalize w7.setCell ⟨b, 3, none⟩ (.slice A7 y7.length c7) = w8 at *
  clear f1 f2 hsz
  refine (elemInts_any W0 g _ _ intsP 94 [.pointer (some ⟨g, 0, none⟩)] [] w8 hr8 rdIntegers_real (fun w' l' b' _ h => (rdIntegers_any W0 g l' b' w' h).imp (fun w v x h => ⟨v, rfl, h⟩))).mono ?_
  rintro e w9 ⟨v9, y9, l9, bad9, rfl, ho9, hs9, hr9, hk9⟩
  have hB9 := hB8.keep (World.grownBy.block hk9 b (hB8.lt (by simp)) (by simp; omega))
  have hK9 := hK8.trans (hk9.kb b)
  try replace hoA := hoA.kb2 (hk9.kb b) hg
  try replace hoB := hoB.kb2 (hk9.kb b) hg
  try replace hoC := hoC.kb2 (hk9.kb b) hg
  try replace hoD := hoD.kb2 (hk9.kb b) hg
  try replace hoE := hoE.kb2 (hk9.kb b) hg
  try replace hoF := hoF.kb2 (hk9.kb b) hg
  try replace hcp := Kb.cell0 (hk9.kb b) hcp hag hab
  replace ho9 := ho9.wide (Nat.succ_le_of_lt (hB8.lt (by simp))) (Nat.le_refl _)
  clear hk9 hB8 hr8 hK8
  obtain ⟨A9, c9, rfl, hc9, hm9⟩ := ho9.here.form
  have hoD := ho9
  clear ho9
  have hB10 := hB9.set (j := 4) (by simp) (.slice A9 y9.length c9)
  simp only [List.set_cons_zero, List.set_cons_succ] at hB10
  have hkS := (Kb.refl g b w9).set 4 (.slice A9 y9.length c9)
  have hr10 := hr9.kb hkS hlob (set_block _ _ _ _ (by show g ≠ b; omega))
  have hK10 := hK9.trans hkS
  try replace hoA := hoA.kb2 hkS hg
  try replace hoB := hoB.kb2 hkS hg
  try replace hoC := hoC.kb2 hkS hg
  try replace hoD := hoD.kb2 hkS hg
  try replace hoE := hoE.kb2 hkS hg
  try replace hoF := hoF.kb2 hkS hg
  try replace hcp := Kb.cell0 hkS hcp hag hab
  have f1 := hB9.cell (j := 4) rfl
  have f2 := hB9.free (j := 4) (by simp)
  have hsz := set_size w9 ⟨b, 4, none⟩ (.slice A9 y9.length c9)
  clear hkS hr9 hK9
  clear hB9
  go_wp2_with fail
  try rw [← hsz]
  generalize w9.setCell ⟨b, 4, none⟩ (.slice A9 y9.length c9) = w10 at *
  clear f1 f2 hsz
  have hcq := hcp
  refine (elemIntss_any W0 g _ _ (listP intsP) 100 [] [.pointer (some ⟨a, 0, none⟩)] w10 hr10 rdBase1_real (fun w' l' b' hk h => (rdBase1_any W0 g a l' b' w' h (hk.cellS hcq hag)).imp (fun w v x h => ⟨v, rfl, h⟩))).mono ?_
  rintro e w11 ⟨v11, y11, l11, bad11, rfl, ho11, hs11, hr11, hk11⟩
  have hB11 := hB10.keep (World.grownBy.block hk11 b (hB10.lt (by simp)) (by simp; omega))
  have hK11 := hK10.trans (hk11.kb b)
  try replace hoA := hoA.kb2 (hk11.kb b) hg
  try replace hoB := hoB.kb2 (hk11.kb b) hg
  try replace hoC := hoC.kb2 (hk11.kb b) hg
  try replace hoD := hoD.kb2 (hk11.kb b) hg
  try replace hoE := hoE.kb2 (hk11.kb b) hg
  try replace hoF := hoF.kb2 (hk11.kb b) hg
  try replace hcp := Kb.cell0 (hk11.kb b) hcp hag hab
  replace ho11 := ho11.wide (Nat.succ_le_of_lt (hB10.lt (by simp))) (Nat.le_refl _)
  clear hk11 hB10 hr10 hK10
  clear hcq
  obtain ⟨A11, c11, rfl, hc11, hm11⟩ := ho11.here.form
  have hoE := ho11
  clear ho11
  have hB12 := hB11.set (j := 5) (by simp) (.slice A11 y11.length c11)
  simp only [List.set_cons_zero, List.set_cons_succ] at hB12
  have hkS := (Kb.refl g b w11).set 5 (.slice A11 y11.length c11)
  have hr12 := hr11.kb hkS hlob (set_block _ _ _ _ (by show g ≠ b; omega))
  have hK12 := hK11.trans hkS
  try replace hoA := hoA.kb2 hkS hg
  try replace hoB := hoB.kb2 hkS hg
  try replace hoC := hoC.kb2 hkS hg
  try replace hoD := hoD.kb2 hkS hg
  try replace hoE := hoE.kb2 hkS hg
  try replace hoF := hoF.kb2 hkS hg
  try replace hcp := Kb.cell0 hkS hcp hag hab
  have f1 := hB11.cell (j := 5) rfl
  have f2 := hB11.free (j := 5) (by simp)
  have hsz := set_size w11 ⟨b, 5, none⟩ (.slice A11 y11.length c11)
  clear hkS hr11 hK11
  clear hB11
  go_wp2_with fail
  try rw [← hsz]
  generalize w11.setCell ⟨b, 5, none⟩ (.slice A11 y11.length c11) = w12 at *
  clear f1 f2 hsz
  refine (rdIntegers_any W0 g _ _ w12 hr12).mono ?_
  rintro e w13 ⟨v13, y13, l13, bad13, rfl, ho13, hs13, hr13, hk13⟩
  have hB13 := hB12.keep (World.grownBy.block hk13 b (hB12.lt (by simp)) (by simp; omega))
  have hK13 := hK12.trans (hk13.kb b)
  try replace hoA := hoA.kb2 (hk13.kb b) hg
  try replace hoB := hoB.kb2 (hk13.kb b) hg
  try replace hoC := hoC.kb2 (hk13.kb b) hg
  try replace hoD := hoD.kb2 (hk13.kb b) hg
  try replace hoE := hoE.kb2 (hk13.kb b) hg
  try replace hoF := hoF.kb2 (hk13.kb b) hg
  try replace hcp := Kb.cell0 (hk13.kb b) hcp hag hab
  replace ho13 := ho13.wide (Nat.succ_le_of_lt (hB12.lt (by simp))) (Nat.le_refl _)
  clear hk13 hB12 hr12 hK12
  obtain ⟨A13, c13, rfl, hc13, hm13⟩ := ho13.here.form
  have hoF := ho13
  clear ho13
  have hB14 := hB13.set (j := 6) (by simp) (.slice A13 y13.length c13)
  simp only [List.set_cons_zero, List.set_cons_succ] at hB14
  have hkS := (Kb.refl g b w13).set 6 (.slice A13 y13.length c13)
  have hr14 := hr13.kb hkS hlob (set_block _ _ _ _ (by show g ≠ b; omega))
  have hK14 := hK13.trans hkS
  try replace hoA := hoA.kb2 hkS hg
  try replace hoB := hoB.kb2 hkS hg
  try replace hoC := hoC.kb2 hkS hg
  try replace hoD := hoD.kb2 hkS hg
  try replace hoE := hoE.kb2 hkS hg
  try replace hoF := hoF.kb2 hkS hg
  try replace hcp := Kb.cell0 hkS hcp hag hab
  have f1 := hB13.cell (j := 6) rfl
  have f2 := hB13.free (j := 6) (by simp)
  have hsz := set_size w13 ⟨b, 6, none⟩ (.slice A13 y13.length c13)
  clear hkS hr13 hK13
  go_wp2_with (first | (refine wpList_load_mid rfl 42 (.tmp 2) rfl b 0 rfl _ _ hB14.range Try.underlying42 rfl (by kernel_rfl) ?_) | (refine wpList_store_mid rfl 42 (.tmp 2) (.tmp 29) rfl b 0 _ rfl rfl hB14.there (by kernel_rfl) (all_oneCell_toArray (by simp [Value.oneCell'])) ?_))
  try simp only [Exit.inBlock, Exit.then]
  refine bodyPost_ret (results_cell_bx rfl _ _ b _ _ rfl (hB14.self.range) Try.underlying42 rfl (by kernel_rfl)) rfl ?_
  refine fin_end hB14 hK14 hg0 HB.out hr14 hlob hg (x := (⟨y1, y3, y5, y7, y9, y11, y13⟩ : Base)) ?ow ?sp
  case ow => exact (hoA.and (hoB.and (hoC.and (hoD.and (hoE.and hoF))))).imp fun _ h => ⟨_, rfl, _, _, _, _, _, _, rfl, h⟩
  case sp => exact hs1.bind (hs3.bind (hs5.bind (hs7.bind (hs9.bind (hs11.bind (hs13.bind (SpecP.ret _ _ _)))))))
end Go.Proofs.Ytmeafoakbkjifaa
