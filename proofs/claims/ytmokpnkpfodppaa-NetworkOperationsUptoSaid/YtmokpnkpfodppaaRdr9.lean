
/-
The reader: an entry, a request, what is known of a convergent cell, an event.
-/
import Derived.Test.YtmokpnkpfodppaaRdr8
namespace Go.Proofs.Ytmokpnkpfodppaa
set_option linter.unusedSimpArgs false
set_option linter.unusedVariables false
open Go.RowKit

set_option maxHeartbeats 2000000 in
theorem rdEntry_any (W0 : World) (g : Nat) (l : List Int) (bad : Bool) (w : World) (hr : Rdr W0 w g l bad) : Reads W0 g entryP (VA rdEntry) l bad 86 #[.pointer (some ⟨g, 0, none⟩)] w := by
  have hg := hr.lt
  have hlo := hr.lo
  have k0 := (Kp.refl w).alloc (.cells #[.int .i64 0, .int .i64 0, .int .i64 0, .int .i64 0, .int .i64 0, .slice none 0 0] 89)
  have hr0 := hr.keep k0
  have hB0 := Bx.new w #[.int .i64 0, .int .i64 0, .int .i64 0, .int .i64 0, .int .i64 0, .slice none 0 0] 89
  have hg0 := k0.kg g
  go_enter Try.func86, Try.ntmps86
  go_wp2_with fail
  try rw [← World.size_alloc w (.cells #[.int .i64 0, .int .i64 0, .int .i64 0, .int .i64 0, .int .i64 0, .slice none 0 0] 89)]
  generalize w.alloc (.cells #[.int .i64 0, .int .i64 0, .int .i64 0, .int .i64 0, .int .i64 0, .slice none 0 0] 89) = w0 at *
  generalize hb : w.heap.size = b at *
  have HB := hid hb
  clear hb k0 hr
  have hK0 := Kb.refl g b w0
  have hlob : W0.heap.size ≤ b := by omega
  refine (into_lit W0 g b 0 5 _ _ _ w0 _ hr0 hg hB0 (by simp) (by simp) (by simp) rfl).mono ?_
  rintro e w1 ⟨rfl, xs, l1, bad1, hx, hs1, hr1, hB1, hk1⟩
  obtain ⟨x0, x1, x2, x3, x4, rfl⟩ := len5 hx
  simp [putI] at hB1
  have hK1 := hK0.trans hk1
  try replace hoA := hoA.kb2 hk1 hg
  try replace hoB := hoB.kb2 hk1 hg
  try replace hoC := hoC.kb2 hk1 hg
  try replace hoD := hoD.kb2 hk1 hg
  try replace hoE := hoE.kb2 hk1 hg
  try replace hoF := hoF.kb2 hk1 hg
  try replace hcp := Kb.cell0 hk1 hcp hag hab
  clear hx hk1 hB0 hr0 hK0
  go_wp2_with fail
  refine (rdIntegers_any W0 g _ _ w1 hr1).mono ?_
  rintro e w2 ⟨v2, y2, l2, bad2, rfl, ho2, hs2, hr2, hk2⟩
  have hB2 := hB1.keep (World.grownBy.block hk2 b (hB1.lt (by simp)) (by simp; omega))
  have hK2 := hK1.trans (hk2.kb b)
  try replace hoA := hoA.kb2 (hk2.kb b) hg
  try replace hoB := hoB.kb2 (hk2.kb b) hg
  try replace hoC := hoC.kb2 (hk2.kb b) hg
  try replace hoD := hoD.kb2 (hk2.kb b) hg
  try replace hoE := hoE.kb2 (hk2.kb b) hg
  try replace hoF := hoF.kb2 (hk2.kb b) hg
  try replace hcp := Kb.cell0 (hk2.kb b) hcp hag hab
  replace ho2 := ho2.wide (Nat.succ_le_of_lt (hB1.lt (by simp))) (Nat.le_refl _)
  clear hk2 hB1 hr1 hK1
  obtain ⟨A2, c2, rfl, hc2, hm2⟩ := ho2.here.form
  have hoA := ho2
  clear ho2
  have hB3 := hB2.set (j := 5) (by simp) (.slice A2 y2.length c2)
  simp only [List.set_cons_zero, List.set_cons_succ] at hB3
  have hkS := (Kb.refl g b w2).set 5 (.slice A2 y2.length c2)
  have hr3 := hr2.kb hkS hlob (set_block _ _ _ _ (by show g ≠ b; omega))
  have hK3 := hK2.trans hkS
  try replace hoA := hoA.kb2 hkS hg
  try replace hoB := hoB.kb2 hkS hg
  try replace hoC := hoC.kb2 hkS hg
  try replace hoD := hoD.kb2 hkS hg
  try replace hoE := hoE.kb2 hkS hg
  try replace hoF := hoF.kb2 hkS hg
  try replace hcp := Kb.cell0 hkS hcp hag hab
  have f1 := hB2.cell (j := 5) rfl
  have f2 := hB2.free (j := 5) (by simp)
  have hsz := set_size w2 ⟨b, 5, none⟩ (.slice A2 y2.length c2)
  clear hkS hr2 hK2
  go_wp2_with (first | (refine wpList_load_mid rfl 89 (.tmp 2) rfl b 0 rfl _ _ hB3.range Try.underlying89 rfl (by kernel_rfl) ?_) | (refine wpList_store_mid rfl 89 (.tmp 2) (.tmp 14) rfl b 0 _ rfl rfl hB3.there (by kernel_rfl) (all_oneCell_toArray (by simp [Value.oneCell'])) ?_))
  try simp only [Exit.inBlock, Exit.then]
  refine bodyPost_ret (results_cell_bx rfl _ _ b _ _ rfl (hB3.self.range) Try.underlying89 rfl (by kernel_rfl)) rfl ?_
  refine fin_end hB3 hK3 hg0 (Nat.le_of_eq HB.out) hr3 hlob hg (x := (⟨x0, x1, x2, x3, x4, y2⟩ : Entry)) ?ow ?sp
  case ow => exact hoA.imp fun _ h => ⟨_, rfl, _, rfl, h⟩
  case sp => exact SpecP.of_eq (many5 _) (hs1.bind (hs2.bind (SpecP.ret _ _ _)))
theorem rdEntry_real : Real Try.prog 86 := ⟨_, Try.func86, by kernel_rfl, by kernel_rfl⟩
/-- how a request lies -/
def rdAsk : Rd Ask := fun w cs e => ∃ v, cs = [.int .i64 e.number, .int .i64 e.place, .int .i64 e.time, .int .i64 e.replica, .int .i64 e.serial, v] ∧ Needs w v e.needs
set_option maxHeartbeats 2000000 in
theorem rdAsk_any (W0 : World) (g : Nat) (l : List Int) (bad : Bool) (w : World) (hr : Rdr W0 w g l bad) : Reads W0 g askP (VA rdAsk) l bad 83 #[.pointer (some ⟨g, 0, none⟩)] w := by
  have hg := hr.lt
  have hlo := hr.lo
  have k0 := (Kp.refl w).alloc (.cells #[.int .i64 0, .int .i64 0, .int .i64 0, .int .i64 0, .int .i64 0, .slice none 0 0] 31)
  have hr0 := hr.keep k0
  have hB0 := Bx.new w #[.int .i64 0, .int .i64 0, .int .i64 0, .int .i64 0, .int .i64 0, .slice none 0 0] 31
  have hg0 := k0.kg g
  go_enter Try.func83, Try.ntmps83
  go_wp2_with fail
  try rw [← World.size_alloc w (.cells #[.int .i64 0, .int .i64 0, .int .i64 0, .int .i64 0, .int .i64 0, .slice none 0 0] 31)]
  generalize w.alloc (.cells #[.int .i64 0, .int .i64 0, .int .i64 0, .int .i64 0, .int .i64 0, .slice none 0 0] 31) = w0 at *
  generalize hb : w.heap.size = b at *
  have HB := hid hb
  clear hb k0 hr
  have hK0 := Kb.refl g b w0
  have hlob : W0.heap.size ≤ b := by omega
  refine (into_lit W0 g b 0 5 _ _ _ w0 _ hr0 hg hB0 (by simp) (by simp) (by simp) rfl).mono ?_
  rintro e w1 ⟨rfl, xs, l1, bad1, hx, hs1, hr1, hB1, hk1⟩
  obtain ⟨x0, x1, x2, x3, x4, rfl⟩ := len5 hx
  simp [putI] at hB1
  have hK1 := hK0.trans hk1
  try replace hoA := hoA.kb2 hk1 hg
  try replace hoB := hoB.kb2 hk1 hg
  try replace hoC := hoC.kb2 hk1 hg
  try replace hoD := hoD.kb2 hk1 hg
  try replace hoE := hoE.kb2 hk1 hg
  try replace hoF := hoF.kb2 hk1 hg
  try replace hcp := Kb.cell0 hk1 hcp hag hab
  clear hx hk1 hB0 hr0 hK0
  go_wp2_with fail
  refine (elemNeed_any W0 g _ _ needP 97 [.pointer (some ⟨g, 0, none⟩)] [] w1 hr1 rdNeed_real (fun w' l' b' _ h => rdNeed_any W0 g l' b' w' h)).mono ?_
  rintro e w2 ⟨v2, y2, l2, bad2, rfl, ho2, hs2, hr2, hk2⟩
  have hB2 := hB1.keep (World.grownBy.block hk2 b (hB1.lt (by simp)) (by simp; omega))
  have hK2 := hK1.trans (hk2.kb b)
  try replace hoA := hoA.kb2 (hk2.kb b) hg
  try replace hoB := hoB.kb2 (hk2.kb b) hg
  try replace hoC := hoC.kb2 (hk2.kb b) hg
  try replace hoD := hoD.kb2 (hk2.kb b) hg
  try replace hoE := hoE.kb2 (hk2.kb b) hg
  try replace hoF := hoF.kb2 (hk2.kb b) hg
  try replace hcp := Kb.cell0 (hk2.kb b) hcp hag hab
  replace ho2 := ho2.wide (Nat.succ_le_of_lt (hB1.lt (by simp))) (Nat.le_refl _)
  clear hk2 hB1 hr1 hK1
  obtain ⟨A2, c2, rfl, hc2, hm2⟩ := ho2.here.form
  have hoA := ho2
  clear ho2
  have hB3 := hB2.set (j := 5) (by simp) (.slice A2 y2.length c2)
  simp only [List.set_cons_zero, List.set_cons_succ] at hB3
  have hkS := (Kb.refl g b w2).set 5 (.slice A2 y2.length c2)
  have hr3 := hr2.kb hkS hlob (set_block _ _ _ _ (by show g ≠ b; omega))
  have hK3 := hK2.trans hkS
  try replace hoA := hoA.kb2 hkS hg
  try replace hoB := hoB.kb2 hkS hg
  try replace hoC := hoC.kb2 hkS hg
  try replace hoD := hoD.kb2 hkS hg
  try replace hoE := hoE.kb2 hkS hg
  try replace hoF := hoF.kb2 hkS hg
  try replace hcp := Kb.cell0 hkS hcp hag hab
  have f1 := hB2.cell (j := 5) rfl
  have f2 := hB2.free (j := 5) (by simp)
  have hsz := set_size w2 ⟨b, 5, none⟩ (.slice A2 y2.length c2)
  clear hkS hr2 hK2
  go_wp2_with (first | (refine wpList_load_mid rfl 31 (.tmp 2) rfl b 0 rfl _ _ hB3.range Try.underlying31 rfl (by kernel_rfl) ?_) | (refine wpList_store_mid rfl 31 (.tmp 2) (.tmp 20) rfl b 0 _ rfl rfl hB3.there (by kernel_rfl) (all_oneCell_toArray (by simp [Value.oneCell'])) ?_))
  try simp only [Exit.inBlock, Exit.then]
  refine bodyPost_ret (results_cell_bx rfl _ _ b _ _ rfl (hB3.self.range) Try.underlying31 rfl (by kernel_rfl)) rfl ?_
  refine fin_end hB3 hK3 hg0 (Nat.le_of_eq HB.out) hr3 hlob hg (x := (⟨x0, x1, x2, x3, x4, y2⟩ : Ask)) ?ow ?sp
  case ow => exact hoA.imp fun _ h => ⟨_, rfl, _, rfl, h⟩
  case sp => exact SpecP.of_eq (many5 _) (hs1.bind (hs2.bind (SpecP.ret _ _ _)))
theorem event_eq : eventP = bindP (loopP intP 3) fun xs => bindP intsP fun d => bindP (loopP intP 2) fun ys => bindP needP fun n => bindP (loopP intP 3) fun zs => retP ⟨xs.getD 0 0, xs.getD 1 0, xs.getD 2 0, d, ys.getD 0 0, ys.getD 1 0, n, zs.getD 0 0, zs.getD 1 0, zs.getD 2 0⟩ := by
  unfold eventP
  rw [many3]
  congr 1; funext xs
  congr 1; funext d
  rw [many2]
  congr 1; funext ys
  congr 1; funext n
  rw [many3]
set_option maxHeartbeats 2000000 in
theorem rdEvent_any (W0 : World) (g : Nat) (l : List Int) (bad : Bool) (w : World) (hr : Rdr W0 w g l bad) : Reads W0 g eventP (VA rdEvent) l bad 80 #[.pointer (some ⟨g, 0, none⟩)] w := by
  have hg := hr.lt
  have hlo := hr.lo
  have k0 := (Kp.refl w).alloc (.cells #[.int .i64 0, .int .i64 0, .int .i64 0, .slice none 0 0, .int .i64 0, .int .i64 0, .int .i64 0, .int .i64 0, .int .i64 0, .int .i64 0, .int .i64 0, .int .i64 0, .int .i64 0] 82)
  have hr0 := hr.keep k0
  have hB0 := Bx.new w #[.int .i64 0, .int .i64 0, .int .i64 0, .slice none 0 0, .int .i64 0, .int .i64 0, .int .i64 0, .int .i64 0, .int .i64 0, .int .i64 0, .int .i64 0, .int .i64 0, .int .i64 0] 82
  have hg0 := k0.kg g
  go_enter Try.func80, Try.ntmps80
  go_wp2_with fail
  try rw [← World.size_alloc w (.cells #[.int .i64 0, .int .i64 0, .int .i64 0, .slice none 0 0, .int .i64 0, .int .i64 0, .int .i64 0, .int .i64 0, .int .i64 0, .int .i64 0, .int .i64 0, .int .i64 0, .int .i64 0] 82)]
  generalize w.alloc (.cells #[.int .i64 0, .int .i64 0, .int .i64 0, .slice none 0 0, .int .i64 0, .int .i64 0, .int .i64 0, .int .i64 0, .int .i64 0, .int .i64 0, .int .i64 0, .int .i64 0, .int .i64 0] 82) = w0 at *
  generalize hb : w.heap.size = b at *
  have HB := hid hb
  clear hb k0 hr
  have hK0 := Kb.refl g b w0
  have hlob : W0.heap.size ≤ b := by omega
  refine (into_lit W0 g b 0 3 _ _ _ w0 _ hr0 hg hB0 (by simp) (by simp) (by simp) rfl).mono ?_
  rintro e w1 ⟨rfl, xs, l1, bad1, hx, hs1, hr1, hB1, hk1⟩
  obtain ⟨x0, x1, x2, rfl⟩ := len3 hx
  simp [putI] at hB1
  have hK1 := hK0.trans hk1
  try replace hoA := hoA.kb2 hk1 hg
  try replace hoB := hoB.kb2 hk1 hg
  try replace hoC := hoC.kb2 hk1 hg
  try replace hoD := hoD.kb2 hk1 hg
  try replace hoE := hoE.kb2 hk1 hg
  try replace hoF := hoF.kb2 hk1 hg
  try replace hcp := Kb.cell0 hk1 hcp hag hab
  clear hx hk1 hB0 hr0 hK0
  go_wp2_with fail
  refine (rdIntegers_any W0 g _ _ w1 hr1).mono ?_
  rintro e w2 ⟨v2, y2, l2, bad2, rfl, ho2, hs2, hr2, hk2⟩
  have hB2 := hB1.keep (World.grownBy.block hk2 b (hB1.lt (by simp)) (by simp; omega))
  have hK2 := hK1.trans (hk2.kb b)
  try replace hoA := hoA.kb2 (hk2.kb b) hg
  try replace hoB := hoB.kb2 (hk2.kb b) hg
  try replace hoC := hoC.kb2 (hk2.kb b) hg
  try replace hoD := hoD.kb2 (hk2.kb b) hg
  try replace hoE := hoE.kb2 (hk2.kb b) hg
  try replace hoF := hoF.kb2 (hk2.kb b) hg
  try replace hcp := Kb.cell0 (hk2.kb b) hcp hag hab
  replace ho2 := ho2.wide (Nat.succ_le_of_lt (hB1.lt (by simp))) (Nat.le_refl _)
  clear hk2 hB1 hr1 hK1
  obtain ⟨A2, c2, rfl, hc2, hm2⟩ := ho2.here.form
  have hoA := ho2
  clear ho2
  have hB3 := hB2.set (j := 3) (by simp) (.slice A2 y2.length c2)
  simp only [List.set_cons_zero, List.set_cons_succ] at hB3
  have hkS := (Kb.refl g b w2).set 3 (.slice A2 y2.length c2)
  have hr3 := hr2.kb hkS hlob (set_block _ _ _ _ (by show g ≠ b; omega))
  have hK3 := hK2.trans hkS
  try replace hoA := hoA.kb2 hkS hg
  try replace hoB := hoB.kb2 hkS hg
  try replace hoC := hoC.kb2 hkS hg
  try replace hoD := hoD.kb2 hkS hg
  try replace hoE := hoE.kb2 hkS hg
  try replace hoF := hoF.kb2 hkS hg
  try replace hcp := Kb.cell0 hkS hcp hag hab
  have f1 := hB2.cell (j := 3) rfl
  have f2 := hB2.free (j := 3) (by simp)
  have hsz := set_size w2 ⟨b, 3, none⟩ (.slice A2 y2.length c2)
  clear hkS hr2 hK2
  clear hB2
  go_wp2_with fail
  try rw [← hsz]
  generalize w2.setCell ⟨b, 3, none⟩ (.slice A2 y2.length c2) = w3 at *
  clear f1 f2 hsz
  refine (into_lit W0 g b 4 2 _ _ _ w3 _ hr3 hg hB3 (by simp) (by simp) (by simp) rfl).mono ?_
  rintro e w4 ⟨rfl, xs, l4, bad4, hx, hs4, hr4, hB4, hk4⟩
  obtain ⟨x4, x5, rfl⟩ := len2 hx
  simp [putI] at hB4
  have hK4 := hK3.trans hk4
  try replace hoA := hoA.kb2 hk4 hg
  try replace hoB := hoB.kb2 hk4 hg
  try replace hoC := hoC.kb2 hk4 hg
  try replace hoD := hoD.kb2 hk4 hg
  try replace hoE := hoE.kb2 hk4 hg
  try replace hoF := hoF.kb2 hk4 hg
  try replace hcp := Kb.cell0 hk4 hcp hag hab
  clear hx hk4 hB3 hr3 hK3
  go_wp2_with fail
  refine (rdNeed_any W0 g _ _ w4 hr4).mono ?_
  rintro e w5 ⟨v5, y5, l5, bad5, rfl, ho5, hs5, hr5, hk5⟩
  have hB5 := hB4.keep (World.grownBy.block hk5 b (hB4.lt (by simp)) (by simp; omega))
  have hK5 := hK4.trans (hk5.kb b)
  try replace hoA := hoA.kb2 (hk5.kb b) hg
  try replace hoB := hoB.kb2 (hk5.kb b) hg
  try replace hoC := hoC.kb2 (hk5.kb b) hg
  try replace hoD := hoD.kb2 (hk5.kb b) hg
  try replace hoE := hoE.kb2 (hk5.kb b) hg
  try replace hoF := hoF.kb2 (hk5.kb b) hg
  try replace hcp := Kb.cell0 (hk5.kb b) hcp hag hab
  replace ho5 := ho5.wide (Nat.succ_le_of_lt (hB4.lt (by simp))) (Nat.le_refl _)
  clear hk5 hB4 hr4 hK4
  obtain ⟨cs, rfl, hcs⟩ := ho5.here
  clear ho5
  obtain ⟨hl5, h15⟩ := need_one hcs
  have hB6 := hB5.setCells cs 6 _ _ (by rw [hl5]; simp)
  have hth := hB5.thereAt 6 (cs).length (by rw [hl5]; simp)
  have hin : (Try.prog.info? 80).map (·.size) = some (cs).toArray.size := by rw [List.size_toArray, hl5]; kernel_rfl
  have hkS := Kb.setCells cs 6 _ (Kb.refl g b w5)
  have hr6 := hr5.kb hkS hlob (setCells_block b g (by omega) cs 6 w5)
  have hK6 := hK5.trans hkS
  try replace hoA := hoA.kb2 hkS hg
  try replace hoB := hoB.kb2 hkS hg
  try replace hoC := hoC.kb2 hkS hg
  try replace hoD := hoD.kb2 hkS hg
  try replace hoE := hoE.kb2 hkS hg
  try replace hoF := hoF.kb2 hkS hg
  try replace hcp := Kb.cell0 hkS hcp hag hab
  have hsz := setCells_size b cs 6 w5
  clear hkS hr5 hK5 hB5
  go_wp2_with (refine wpList_store_mid rfl 80 (.tmp 19) (.tmp 18) rfl b 6 (cs).toArray rfl rfl hth hin (all_oneCell_toArray h15) ?_)
  try rw [← hsz]
  generalize w5.setCells b 6 cs = w6 at *
  clear hth hsz hin
  obtain ⟨z0, z1, z2, z3⟩ := y5
  unfold Pl encNeed at hcs
  subst hcs
  dsimp only at *
  simp [putV] at hB6
  refine (into_lit W0 g b 10 3 _ _ _ w6 _ hr6 hg hB6 (by simp) (by simp) (by simp) rfl).mono ?_
  rintro e w7 ⟨rfl, xs, l7, bad7, hx, hs7, hr7, hB7, hk7⟩
  obtain ⟨u0, u1, u2, rfl⟩ := len3 hx
  simp [putI] at hB7
  have hK7 := hK6.trans hk7
  try replace hoA := hoA.kb2 hk7 hg
  try replace hoB := hoB.kb2 hk7 hg
  try replace hoC := hoC.kb2 hk7 hg
  try replace hoD := hoD.kb2 hk7 hg
  try replace hoE := hoE.kb2 hk7 hg
  try replace hoF := hoF.kb2 hk7 hg
  try replace hcp := Kb.cell0 hk7 hcp hag hab
  clear hx hk7 hB6 hr6 hK6
  go_wp2_with (first | (refine wpList_load_mid rfl 82 (.tmp 2) rfl b 0 rfl _ _ hB7.range Try.underlying82 rfl (by kernel_rfl) ?_) | (refine wpList_store_mid rfl 82 (.tmp 2) (.tmp 26) rfl b 0 _ rfl rfl hB7.there (by kernel_rfl) (all_oneCell_toArray (by simp [Value.oneCell'])) ?_))
  try simp only [Exit.inBlock, Exit.then]
  refine bodyPost_ret (results_cell_bx rfl _ _ b _ _ rfl (hB7.self.range) Try.underlying82 rfl (by kernel_rfl)) rfl ?_
  refine fin_end hB7 hK7 hg0 (Nat.le_of_eq HB.out) hr7 hlob hg (x := (⟨x0, x1, x2, y2, x4, x5, ⟨z0, z1, z2, z3⟩, u0, u1, u2⟩ : Event)) ?ow ?sp
  case ow => exact hoA.imp fun _ h => ⟨_, rfl, _, rfl, h⟩
  case sp => exact SpecP.of_eq event_eq (hs1.bind (hs2.bind (hs4.bind (hs5.bind (hs7.bind (SpecP.ret _ _ _))))))
theorem rdEvent_real : Real Try.prog 80 := ⟨_, Try.func80, by kernel_rfl, by kernel_rfl⟩
end Go.Proofs.Ytmokpnkpfodppaa
