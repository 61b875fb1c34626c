/-
The reader: a base.
The reader: a message.
-/
import Derived.Test.YtmokpnkpfodppaaRdr10
import Derived.Test.YtmokpnkpfodppaaRdr11
namespace Go.Proofs.Ytmokpnkpfodppaa
set_option linter.unusedSimpArgs false
set_option linter.unusedVariables false
open Go.RowKit

theorem Kb.cell0 {g b a : Nat} {w w' : World} {v : Value} (hk : Kb g b w w') (h : w.cell? ⟨a, 0, none⟩ = some v) (hg : a ≠ g) (hb : a ≠ b) : w'.cell? ⟨a, 0, none⟩ = some v :=
  (World.cell?_of_block (a := ⟨a, 0, none⟩) (hk.block a (block_lt_of_cell h) hg hb)).trans h
/-- how a base lies -/
def rdBaseC : Rd Base := fun w cs b => ∃ v0 v2 v3 v4 v5 v6, cs = [v0, .int .i64 b.time, v2, v3, v4, v5, v6] ∧ Ints w v0 b.clock ∧ Ints w v2 b.state ∧ Mergeds w v3 b.merged ∧ Intss w v4 b.rights ∧ Intsss w v5 b.shares ∧ Ints w v6 b.places
end Go.Proofs.Ytmokpnkpfodppaa
namespace Go.Proofs.Ytmokpnkpfodppaa
set_option linter.unusedSimpArgs false
set_option linter.unusedVariables false
open Go.RowKit

theorem message_eq : messageP = bindP (loopP intP 3) fun xs => bindP intsP fun c => bindP (listP eventP) fun ev => bindP (listP spanP) fun sp => bindP askP fun a => bindP (loopP intP 4) fun ys => bindP boolP fun gr => bindP (listP entryP) fun en => retP ⟨xs.getD 0 0, xs.getD 1 0, xs.getD 2 0, c, ev, sp, a, ys.getD 0 0, ys.getD 1 0, ys.getD 2 0, ys.getD 3 0, gr, en⟩ := by
  unfold messageP
  rw [many3]
  congr 1; funext xs
  congr 1; funext c
  congr 1; funext ev
  congr 1; funext sp
  congr 1; funext a
  rw [many4]
theorem ask_in {w : World} {a b c d e : Int} {v : Value} {x : Ask} (h : rdAsk w [.int .i64 a, .int .i64 b, .int .i64 c, .int .i64 d, .int .i64 e, v] x) : Needs w v x.needs := by
  obtain ⟨v', h1, h2⟩ := h
  simp only [List.cons.injEq] at h1
  obtain ⟨-, -, -, -, -, rfl, -⟩ := h1
  exact h2
set_option maxHeartbeats 4000000 in
theorem rdMessage_any (W0 : World) (g : Nat) (l : List Int) (bad : Bool) (w : World) (hr : Rdr W0 w g l bad) : Reads W0 g messageP MessageV l bad 62 #[.pointer (some ⟨g, 0, none⟩)] w := by
  have hg := hr.lt
  have hlo := hr.lo
  have k0 := (Kp.refl w).alloc (.cells #[.int .i64 0, .int .i64 0, .int .i64 0, .slice none 0 0, .slice none 0 0, .slice none 0 0, .int .i64 0, .int .i64 0, .int .i64 0, .int .i64 0, .int .i64 0, .slice none 0 0, .int .i64 0, .int .i64 0, .int .i64 0, .int .i64 0, .bool false, .slice none 0 0] 34)
  have hr0 := hr.keep k0
  have hB0 := Bx.new w #[.int .i64 0, .int .i64 0, .int .i64 0, .slice none 0 0, .slice none 0 0, .slice none 0 0, .int .i64 0, .int .i64 0, .int .i64 0, .int .i64 0, .int .i64 0, .slice none 0 0, .int .i64 0, .int .i64 0, .int .i64 0, .int .i64 0, .bool false, .slice none 0 0] 34
  have hg0 := k0.kg g
  go_enter Try.func62, Try.ntmps62
  go_wp2_with fail
  try rw [← World.size_alloc w (.cells #[.int .i64 0, .int .i64 0, .int .i64 0, .slice none 0 0, .slice none 0 0, .slice none 0 0, .int .i64 0, .int .i64 0, .int .i64 0, .int .i64 0, .int .i64 0, .slice none 0 0, .int .i64 0, .int .i64 0, .int .i64 0, .int .i64 0, .bool false, .slice none 0 0] 34)]
  generalize w.alloc (.cells #[.int .i64 0, .int .i64 0, .int .i64 0, .slice none 0 0, .slice none 0 0, .slice none 0 0, .int .i64 0, .int .i64 0, .int .i64 0, .int .i64 0, .int .i64 0, .slice none 0 0, .int .i64 0, .int .i64 0, .int .i64 0, .int .i64 0, .bool false, .slice none 0 0] 34) = w0 at *
  generalize hb : w.heap.size = b at *
  have HB := hid hb
  clear hb k0 hr
  have hK0 := Kb.refl g b w0
  have hlob : W0.heap.size ≤ b := by omega
  refine (into_lit W0 g b 0 3 _ _ _ w0 _ hr0 hg hB0 (by simp) (by simp) (by simp) rfl).mono ?_
  rintro e w1 ⟨rfl, xs, l1, bad1, hx, hs1, hr1, hB1, hk1⟩
  obtain ⟨x0, x1, x2, rfl⟩ := len3 hx
  simp [putI] at hB1
  have hK1 := hK0.trans hk1
  try replace hoA := hoA.kb2 hk1 hg
  try replace hoB := hoB.kb2 hk1 hg
  try replace hoC := hoC.kb2 hk1 hg
  try replace hoD := hoD.kb2 hk1 hg
  try replace hoE := hoE.kb2 hk1 hg
  try replace hoF := hoF.kb2 hk1 hg
  try replace hcp := Kb.cell0 hk1 hcp hag hab
  clear hx hk1 hB0 hr0 hK0
  go_wp2_with fail
  refine (rdIntegers_any W0 g _ _ w1 hr1).mono ?_
  rintro e w2 ⟨v2, y2, l2, bad2, rfl, ho2, hs2, hr2, hk2⟩
  have hB2 := hB1.keep (World.grownBy.block hk2 b (hB1.lt (by simp)) (by simp; omega))
  have hK2 := hK1.trans (hk2.kb b)
  try replace hoA := hoA.kb2 (hk2.kb b) hg
  try replace hoB := hoB.kb2 (hk2.kb b) hg
  try replace hoC := hoC.kb2 (hk2.kb b) hg
  try replace hoD := hoD.kb2 (hk2.kb b) hg
  try replace hoE := hoE.kb2 (hk2.kb b) hg
  try replace hoF := hoF.kb2 (hk2.kb b) hg
  try replace hcp := Kb.cell0 (hk2.kb b) hcp hag hab
  replace ho2 := ho2.wide (Nat.succ_le_of_lt (hB1.lt (by simp))) (Nat.le_refl _)
  clear hk2 hB1 hr1 hK1
  obtain ⟨A2, c2, rfl, hc2, hm2⟩ := ho2.here.form
  have hoA := ho2
  clear ho2
  have hB3 := hB2.set (j := 3) (by simp) (.slice A2 y2.length c2)
  simp only [List.set_cons_zero, List.set_cons_succ] at hB3
  have hkS := (Kb.refl g b w2).set 3 (.slice A2 y2.length c2)
  have hr3 := hr2.kb hkS hlob (set_block _ _ _ _ (by show g ≠ b; omega))
  have hK3 := hK2.trans hkS
  try replace hoA := hoA.kb2 hkS hg
  try replace hoB := hoB.kb2 hkS hg
  try replace hoC := hoC.kb2 hkS hg
  try replace hoD := hoD.kb2 hkS hg
  try replace hoE := hoE.kb2 hkS hg
  try replace hoF := hoF.kb2 hkS hg
  try replace hcp := Kb.cell0 hkS hcp hag hab
  have f1 := hB2.cell (j := 3) rfl
  have f2 := hB2.free (j := 3) (by simp)
  have hsz := set_size w2 ⟨b, 3, none⟩ (.slice A2 y2.length c2)
  clear hkS hr2 hK2
  clear hB2
  go_wp2_with fail
  try rw [← hsz]
  generalize w2.setCell ⟨b, 3, none⟩ (.slice A2 y2.length c2) = w3 at *
  clear f1 f2 hsz
  refine (elemEvent_any W0 g _ _ eventP 80 [.pointer (some ⟨g, 0, none⟩)] [] w3 hr3 rdEvent_real (fun w' l' b' _ h => rdEvent_any W0 g l' b' w' h)).mono ?_
  rintro e w4 ⟨v4, y4, l4, bad4, rfl, ho4, hs4, hr4, hk4⟩
  have hB4 := hB3.keep (World.grownBy.block hk4 b (hB3.lt (by simp)) (by simp; omega))
  have hK4 := hK3.trans (hk4.kb b)
  try replace hoA := hoA.kb2 (hk4.kb b) hg
  try replace hoB := hoB.kb2 (hk4.kb b) hg
  try replace hoC := hoC.kb2 (hk4.kb b) hg
  try replace hoD := hoD.kb2 (hk4.kb b) hg
  try replace hoE := hoE.kb2 (hk4.kb b) hg
  try replace hoF := hoF.kb2 (hk4.kb b) hg
  try replace hcp := Kb.cell0 (hk4.kb b) hcp hag hab
  replace ho4 := ho4.wide (Nat.succ_le_of_lt (hB3.lt (by simp))) (Nat.le_refl _)
  clear hk4 hB3 hr3 hK3
  obtain ⟨A4, c4, rfl, hc4, hm4⟩ := ho4.here.form
  have hoB := ho4
  clear ho4
  have hB5 := hB4.set (j := 4) (by simp) (.slice A4 y4.length c4)
  simp only [List.set_cons_zero, List.set_cons_succ] at hB5
  have hkS := (Kb.refl g b w4).set 4 (.slice A4 y4.length c4)
  have hr5 := hr4.kb hkS hlob (set_block _ _ _ _ (by show g ≠ b; omega))
  have hK5 := hK4.trans hkS
  try replace hoA := hoA.kb2 hkS hg
  try replace hoB := hoB.kb2 hkS hg
  try replace hoC := hoC.kb2 hkS hg
  try replace hoD := hoD.kb2 hkS hg
  try replace hoE := hoE.kb2 hkS hg
  try replace hoF := hoF.kb2 hkS hg
  try replace hcp := Kb.cell0 hkS hcp hag hab
  have f1 := hB4.cell (j := 4) rfl
  have f2 := hB4.free (j := 4) (by simp)
  have hsz := set_size w4 ⟨b, 4, none⟩ (.slice A4 y4.length c4)
  clear hkS hr4 hK4
  clear hB4
  go_wp2_with fail
  try rw [← hsz]
  generalize w4.setCell ⟨b, 4, none⟩ (.slice A4 y4.length c4) = w5 at *
  clear f1 f2 hsz
  refine (elemSpan_any W0 g _ _ spanP 82 [.pointer (some ⟨g, 0, none⟩)] [] w5 hr5 rdSpan_real (fun w' l' b' _ h => rdSpan_any W0 g l' b' w' h)).mono ?_
  rintro e w6 ⟨v6, y6, l6, bad6, rfl, ho6, hs6, hr6, hk6⟩
  have hB6 := hB5.keep (World.grownBy.block hk6 b (hB5.lt (by simp)) (by simp; omega))
  have hK6 := hK5.trans (hk6.kb b)
  try replace hoA := hoA.kb2 (hk6.kb b) hg
  try replace hoB := hoB.kb2 (hk6.kb b) hg
  try replace hoC := hoC.kb2 (hk6.kb b) hg
  try replace hoD := hoD.kb2 (hk6.kb b) hg
  try replace hoE := hoE.kb2 (hk6.kb b) hg
  try replace hoF := hoF.kb2 (hk6.kb b) hg
  try replace hcp := Kb.cell0 (hk6.kb b) hcp hag hab
  replace ho6 := ho6.wide (Nat.succ_le_of_lt (hB5.lt (by simp))) (Nat.le_refl _)
  clear hk6 hB5 hr5 hK5
  obtain ⟨A6, c6, rfl, hc6, hm6⟩ := ho6.here.form
  have hoC := ho6
  clear ho6
  have hB7 := hB6.set (j := 5) (by simp) (.slice A6 y6.length c6)
  simp only [List.set_cons_zero, List.set_cons_succ] at hB7
  have hkS := (Kb.refl g b w6).set 5 (.slice A6 y6.length c6)
  have hr7 := hr6.kb hkS hlob (set_block _ _ _ _ (by show g ≠ b; omega))
  have hK7 := hK6.trans hkS
  try replace hoA := hoA.kb2 hkS hg
  try replace hoB := hoB.kb2 hkS hg
  try replace hoC := hoC.kb2 hkS hg
  try replace hoD := hoD.kb2 hkS hg
  try replace hoE := hoE.kb2 hkS hg
  try replace hoF := hoF.kb2 hkS hg
  try replace hcp := Kb.cell0 hkS hcp hag hab
  have f1 := hB6.cell (j := 5) rfl
  have f2 := hB6.free (j := 5) (by simp)
  have hsz := set_size w6 ⟨b, 5, none⟩ (.slice A6 y6.length c6)
  clear hkS hr6 hK6
  clear hB6
  go_wp2_with fail
  try rw [← hsz]
  generalize w6.setCell ⟨b, 5, none⟩ (.slice A6 y6.length c6) = w7 at *
  clear f1 f2 hsz
  refine (rdAsk_any W0 g _ _ w7 hr7).mono ?_
  rintro e w8 ⟨v8, y8, l8, bad8, rfl, ho8, hs8, hr8, hk8⟩
  have hB8 := hB7.keep (World.grownBy.block hk8 b (hB7.lt (by simp)) (by simp; omega))
  have hK8 := hK7.trans (hk8.kb b)
  try replace hoA := hoA.kb2 (hk8.kb b) hg
  try replace hoB := hoB.kb2 (hk8.kb b) hg
  try replace hoC := hoC.kb2 (hk8.kb b) hg
  try replace hoD := hoD.kb2 (hk8.kb b) hg
  try replace hoE := hoE.kb2 (hk8.kb b) hg
  try replace hoF := hoF.kb2 (hk8.kb b) hg
  try replace hcp := Kb.cell0 (hk8.kb b) hcp hag hab
  replace ho8 := ho8.wide (Nat.succ_le_of_lt (hB7.lt (by simp))) (Nat.le_refl _)
  clear hk8 hB7 hr7 hK7
  obtain ⟨cs, rfl, hcs⟩ := ho8.here
  have hoD := ho8
  clear ho8
  obtain ⟨hl8, h18⟩ := ask_one hcs
  have hB9 := hB8.setCells cs 6 _ _ (by rw [hl8]; simp)
  have hth := hB8.thereAt 6 (cs).length (by rw [hl8]; simp)
  have hin : (Try.prog.info? 31).map (·.size) = some (cs).toArray.size := by rw [List.size_toArray, hl8]; kernel_rfl
  have hkS := Kb.setCells cs 6 _ (Kb.refl g b w8)
  have hr9 := hr8.kb hkS hlob (setCells_block b g (by omega) cs 6 w8)
  have hK9 := hK8.trans hkS
  try replace hoA := hoA.kb2 hkS hg
  try replace hoB := hoB.kb2 hkS hg
  try replace hoC := hoC.kb2 hkS hg
  try replace hoD := hoD.kb2 hkS hg
  try replace hoE := hoE.kb2 hkS hg
  try replace hoF := hoF.kb2 hkS hg
  try replace hcp := Kb.cell0 hkS hcp hag hab
  have hsz := setCells_size b cs 6 w8
  clear hkS hr8 hK8 hB8
  go_wp2_with (refine wpList_store_mid rfl 31 (.tmp 24) (.tmp 23) rfl b 6 (cs).toArray rfl rfl hth hin (all_oneCell_toArray h18) ?_)
  try rw [← hsz]
  generalize w8.setCells b 6 cs = w9 at *
  clear hth hsz hin
  obtain ⟨z0, z1, z2, z3, z4, z5⟩ := y8
  obtain ⟨vz, rfl, hN⟩ := hcs
  obtain ⟨A9, c9, rfl, hc9, hm9⟩ := hN.form
  clear hN
  dsimp only at *
  simp [putV] at hB9
  refine (into_lit W0 g b 12 4 _ _ _ w9 _ hr9 hg hB9 (by simp) (by simp) (by simp) rfl).mono ?_
  rintro e w10 ⟨rfl, xs, l10, bad10, hx, hs10, hr10, hB10, hk10⟩
  obtain ⟨t0, t1, t2, t3, rfl⟩ := len4 hx
  simp [putI] at hB10
  have hK10 := hK9.trans hk10
  try replace hoA := hoA.kb2 hk10 hg
  try replace hoB := hoB.kb2 hk10 hg
  try replace hoC := hoC.kb2 hk10 hg
  try replace hoD := hoD.kb2 hk10 hg
  try replace hoE := hoE.kb2 hk10 hg
  try replace hoF := hoF.kb2 hk10 hg
  try replace hcp := Kb.cell0 hk10 hcp hag hab
  clear hx hk10 hB9 hr9 hK9
  go_wp2_with fail
  refine (rdTruth_any W0 g _ _ w10 hr10).mono ?_
  rintro e w11 ⟨v11, y11, l11, bad11, rfl, ho11, hs11, hr11, hk11⟩
  have hB11 := hB10.keep (World.grownBy.block hk11 b (hB10.lt (by simp)) (by simp; omega))
  have hK11 := hK10.trans (hk11.kb b)
  try replace hoA := hoA.kb2 (hk11.kb b) hg
  try replace hoB := hoB.kb2 (hk11.kb b) hg
  try replace hoC := hoC.kb2 (hk11.kb b) hg
  try replace hoD := hoD.kb2 (hk11.kb b) hg
  try replace hoE := hoE.kb2 (hk11.kb b) hg
  try replace hoF := hoF.kb2 (hk11.kb b) hg
  try replace hcp := Kb.cell0 (hk11.kb b) hcp hag hab
  replace ho11 := ho11.wide (Nat.succ_le_of_lt (hB10.lt (by simp))) (Nat.le_refl _)
  clear hk11 hB10 hr10 hK10
  obtain rfl := ho11.here
  clear ho11
  have hB12 := hB11.set (j := 16) (by simp) (.bool y11)
  simp only [List.set_cons_zero, List.set_cons_succ] at hB12
  have hkS := (Kb.refl g b w11).set 16 (.bool y11)
  have hr12 := hr11.kb hkS hlob (set_block _ _ _ _ (by show g ≠ b; omega))
  have hK12 := hK11.trans hkS
  try replace hoA := hoA.kb2 hkS hg
  try replace hoB := hoB.kb2 hkS hg
  try replace hoC := hoC.kb2 hkS hg
  try replace hoD := hoD.kb2 hkS hg
  try replace hoE := hoE.kb2 hkS hg
  try replace hoF := hoF.kb2 hkS hg
  try replace hcp := Kb.cell0 hkS hcp hag hab
  have f1 := hB11.cell (j := 16) rfl
  have f2 := hB11.free (j := 16) (by simp)
  have hsz := set_size w11 ⟨b, 16, none⟩ (.bool y11)
  clear hkS hr11 hK11
  clear hB11
  go_wp2_with fail
  try rw [← hsz]
  generalize w11.setCell ⟨b, 16, none⟩ (.bool y11) = w12 at *
  clear f1 f2 hsz
  refine (elemEntry_any W0 g _ _ entryP 86 [.pointer (some ⟨g, 0, none⟩)] [] w12 hr12 rdEntry_real (fun w' l' b' _ h => rdEntry_any W0 g l' b' w' h)).mono ?_
  rintro e w13 ⟨v13, y13, l13, bad13, rfl, ho13, hs13, hr13, hk13⟩
  have hB13 := hB12.keep (World.grownBy.block hk13 b (hB12.lt (by simp)) (by simp; omega))
  have hK13 := hK12.trans (hk13.kb b)
  try replace hoA := hoA.kb2 (hk13.kb b) hg
  try replace hoB := hoB.kb2 (hk13.kb b) hg
  try replace hoC := hoC.kb2 (hk13.kb b) hg
  try replace hoD := hoD.kb2 (hk13.kb b) hg
  try replace hoE := hoE.kb2 (hk13.kb b) hg
  try replace hoF := hoF.kb2 (hk13.kb b) hg
  try replace hcp := Kb.cell0 (hk13.kb b) hcp hag hab
  replace ho13 := ho13.wide (Nat.succ_le_of_lt (hB12.lt (by simp))) (Nat.le_refl _)
  clear hk13 hB12 hr12 hK12
  obtain ⟨A13, c13, rfl, hc13, hm13⟩ := ho13.here.form
  have hoE := ho13
  clear ho13
  have hB14 := hB13.set (j := 17) (by simp) (.slice A13 y13.length c13)
  simp only [List.set_cons_zero, List.set_cons_succ] at hB14
  have hkS := (Kb.refl g b w13).set 17 (.slice A13 y13.length c13)
  have hr14 := hr13.kb hkS hlob (set_block _ _ _ _ (by show g ≠ b; omega))
  have hK14 := hK13.trans hkS
  try replace hoA := hoA.kb2 hkS hg
  try replace hoB := hoB.kb2 hkS hg
  try replace hoC := hoC.kb2 hkS hg
  try replace hoD := hoD.kb2 hkS hg
  try replace hoE := hoE.kb2 hkS hg
  try replace hoF := hoF.kb2 hkS hg
  try replace hcp := Kb.cell0 hkS hcp hag hab
  have f1 := hB13.cell (j := 17) rfl
  have f2 := hB13.free (j := 17) (by simp)
  have hsz := set_size w13 ⟨b, 17, none⟩ (.slice A13 y13.length c13)
  clear hkS hr13 hK13
  go_wp2_with (first | (refine wpList_load_mid rfl 34 (.tmp 2) rfl b 0 rfl _ _ hB14.range Try.underlying34 rfl (by kernel_rfl) ?_) | (refine wpList_store_mid rfl 34 (.tmp 2) (.tmp 40) rfl b 0 _ rfl rfl hB14.there (by kernel_rfl) (all_oneCell_toArray (by simp [Value.oneCell'])) ?_))
  try simp only [Exit.inBlock, Exit.then]
  refine bodyPost_ret (results_cell_bx rfl _ _ b _ _ rfl (hB14.self.range) Try.underlying34 rfl (by kernel_rfl)) rfl ?_
  refine fin_end hB14 hK14 hg0 (Nat.le_of_eq HB.out) hr14 hlob hg (x := (⟨x0, x1, x2, y2, y4, y6, ⟨z0, z1, z2, z3, z4, z5⟩, t0, t1, t2, t3, y11, y13⟩ : Message)) ?ow ?sp
  case ow => exact (hoA.and (hoB.and (hoC.and ((hoD.imp fun _ h => ask_in (VA.inj h)).and hoE)))).imp fun _ h => ⟨_, _, _, _, _, rfl, h⟩
  case sp => exact SpecP.of_eq message_eq (hs1.bind (hs2.bind (hs4.bind (hs6.bind (hs8.bind (hs10.bind (hs11.bind (hs13.bind (SpecP.ret _ _ _)))))))))
end Go.Proofs.Ytmokpnkpfodppaa
