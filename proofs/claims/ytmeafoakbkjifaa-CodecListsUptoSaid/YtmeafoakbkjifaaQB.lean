/-
The reference's reader: records.
The reference: decoding.
-/
import Derived.Test.YtmeafoakbkjifaaRefR6
import Derived.Test.YtmeafoakbkjifaaRefR5
import Derived.Test.YtmeafoakbkjifaaRefD1
import Derived.Test.YtmeafoakbkjifaaCodD4
namespace Go.Proofs.Ytmeafoakbkjifaa
set_option linter.unusedSimpArgs false
set_option linter.unusedVariables false
open Go.RowKit

set_option maxRecDepth 8000 in
set_option maxHeartbeats 16000000 in
theorem rRecord_any (W0 : World) (g : Nat) (l : List Int) (bad : Bool) (w : World) (hr : Rdr W0 w g l bad) : Reads W0 g recordP (VA rdRecord) l bad 69 #[.pointer (some ⟨g, 0, none⟩)] w := by
  have hg := hr.lt
  have hlo := hr.lo
  have k0 := (Kp.refl w).alloc (.cells #[.int .i64 0, .int .i64 0, .int .i64 0, .int .i64 0, .slice none 0 0, .int .i64 0, .int .i64 0, .int .i64 0, .int .i64 0, .int .i64 0, .int .i64 0, .int .i64 0, .int .i64 0, .int .i64 0, .slice none 0 0, .int .i64 0, .slice none 0 0, .slice none 0 0, .slice none 0 0, .slice none 0 0, .slice none 0 0, .int .i64 0, .int .i64 0, .int .i64 0, .int .i64 0, .int .i64 0, .int .i64 0, .int .i64 0, .int .i64 0, .slice none 0 0] 46)
  have hr0 := hr.keep k0
  have hZ := Bx.new w #[.int .i64 0, .int .i64 0, .int .i64 0, .int .i64 0, .slice none 0 0, .int .i64 0, .int .i64 0, .int .i64 0, .int .i64 0, .int .i64 0, .int .i64 0, .int .i64 0, .int .i64 0, .int .i64 0, .slice none 0 0, .int .i64 0, .slice none 0 0, .slice none 0 0, .slice none 0 0, .slice none 0 0, .slice none 0 0, .int .i64 0, .int .i64 0, .int .i64 0, .int .i64 0, .int .i64 0, .int .i64 0, .int .i64 0, .int .i64 0, .slice none 0 0] 46
  have hq0 := k0.kg g
  go_enter Try.func69, Try.ntmps69
  go_wp2_with fail
  try rw [← World.size_alloc w (.cells #[.int .i64 0, .int .i64 0, .int .i64 0, .int .i64 0, .slice none 0 0, .int .i64 0, .int .i64 0, .int .i64 0, .int .i64 0, .int .i64 0, .int .i64 0, .int .i64 0, .int .i64 0, .int .i64 0, .slice none 0 0, .int .i64 0, .slice none 0 0, .slice none 0 0, .slice none 0 0, .slice none 0 0, .slice none 0 0, .int .i64 0, .int .i64 0, .int .i64 0, .int .i64 0, .int .i64 0, .int .i64 0, .int .i64 0, .int .i64 0, .slice none 0 0] 46)]
  generalize w.alloc (.cells #[.int .i64 0, .int .i64 0, .int .i64 0, .int .i64 0, .slice none 0 0, .int .i64 0, .int .i64 0, .int .i64 0, .int .i64 0, .int .i64 0, .int .i64 0, .int .i64 0, .int .i64 0, .int .i64 0, .slice none 0 0, .int .i64 0, .slice none 0 0, .slice none 0 0, .slice none 0 0, .slice none 0 0, .slice none 0 0, .int .i64 0, .int .i64 0, .int .i64 0, .int .i64 0, .int .i64 0, .int .i64 0, .int .i64 0, .int .i64 0, .slice none 0 0] 46) = w0 at *
  generalize hbz : w.heap.size = bz at *
  have HBZ := hid hbz
  clear hbz k0 hr
  have hlz := hZ.lt (by simp)
  have hgz : g < bz := hg
  have hloz : W0.heap.size ≤ bz := by omega
  refine (rNext_any W0 g _ _ w0 hr0).mono ?_
  rintro e w1 ⟨vq, y1, l1, bad1, rfl, hoq, hs1, hr1, hk1⟩
  obtain rfl := hoq.here
  clear hoq
  have hq1 := hq0.trans hk1
  replace hZ := hZ.keep (World.grownBy.block hk1 bz hlz (by simp; omega))
  try (first | (replace ho1 := ho1.wide (base' := b + 1) (by omega) (Nat.le_refl _)) | (replace ho1 := ho1.wide (base' := bz + 1) (by omega) (Nat.le_refl _)))
  try replace hoA := hoA.kg1 hk1 hgz
  try replace hoB := hoB.kg1 hk1 hgz
  try replace hoC := hoC.kg1 hk1 hgz
  try replace hoD := hoD.kg1 hk1 hgb
  try replace hoE := hoE.kg1 hk1 hgb
  try replace hoF := hoF.kg1 hk1 hgb
  try replace hoG := hoG.kg1 hk1 hgb
  try replace hoP := hoP.kge hk1 hgz (Nat.le_of_lt hlb)
  try replace hoQ := hoQ.kge hk1 hgz (Nat.le_of_lt hlb)
  try replace hB := hB.keep (World.grownBy.block hk1 b hlb (by simp; omega))
  try replace hlb := Nat.lt_of_lt_of_le hlb hk1.size
  replace hlz := Nat.lt_of_lt_of_le hlz hk1.size
  clear hk1 hq0 hr0
  have kS := (Kp.refl w1).alloc (.cells #[.int .i64 0, .int .i64 0, .int .i64 0, .int .i64 0, .slice none 0 0, .int .i64 0, .int .i64 0, .int .i64 0, .int .i64 0, .int .i64 0, .int .i64 0, .int .i64 0, .int .i64 0, .int .i64 0, .slice none 0 0, .int .i64 0, .slice none 0 0, .slice none 0 0, .slice none 0 0, .slice none 0 0, .slice none 0 0, .int .i64 0, .int .i64 0, .int .i64 0, .int .i64 0, .int .i64 0, .int .i64 0, .int .i64 0, .int .i64 0, .slice none 0 0] 46)
  have hth := there_new w1 #[.int .i64 0, .int .i64 0, .int .i64 0, .int .i64 0, .slice none 0 0, .int .i64 0, .int .i64 0, .int .i64 0, .int .i64 0, .int .i64 0, .int .i64 0, .int .i64 0, .int .i64 0, .int .i64 0, .slice none 0 0, .int .i64 0, .slice none 0 0, .slice none 0 0, .slice none 0 0, .slice none 0 0, .slice none 0 0, .int .i64 0, .int .i64 0, .int .i64 0, .int .i64 0, .int .i64 0, .int .i64 0, .int .i64 0, .int .i64 0, .slice none 0 0] 46 30 rfl
  have hB := (Bx.new w1 #[.int .i64 0, .int .i64 0, .int .i64 0, .int .i64 0, .slice none 0 0, .int .i64 0, .int .i64 0, .int .i64 0, .int .i64 0, .int .i64 0, .int .i64 0, .int .i64 0, .int .i64 0, .int .i64 0, .slice none 0 0, .int .i64 0, .slice none 0 0, .slice none 0 0, .slice none 0 0, .slice none 0 0, .slice none 0 0, .int .i64 0, .int .i64 0, .int .i64 0, .int .i64 0, .int .i64 0, .int .i64 0, .int .i64 0, .int .i64 0, .slice none 0 0] 46).all (cs := [.int .i64 y1, .int .i64 0, .int .i64 0, .int .i64 0, .slice none 0 0, .int .i64 0, .int .i64 0, .int .i64 0, .int .i64 0, .int .i64 0, .int .i64 0, .int .i64 0, .int .i64 0, .int .i64 0, .slice none 0 0, .int .i64 0, .slice none 0 0, .slice none 0 0, .slice none 0 0, .slice none 0 0, .slice none 0 0, .int .i64 0, .int .i64 0, .int .i64 0, .int .i64 0, .int .i64 0, .int .i64 0, .int .i64 0, .int .i64 0, .slice none 0 0]) rfl
  have kT : Kp w1 ((w1.alloc (.cells #[.int .i64 0, .int .i64 0, .int .i64 0, .int .i64 0, .slice none 0 0, .int .i64 0, .int .i64 0, .int .i64 0, .int .i64 0, .int .i64 0, .int .i64 0, .int .i64 0, .int .i64 0, .int .i64 0, .slice none 0 0, .int .i64 0, .slice none 0 0, .slice none 0 0, .slice none 0 0, .slice none 0 0, .slice none 0 0, .int .i64 0, .int .i64 0, .int .i64 0, .int .i64 0, .int .i64 0, .int .i64 0, .int .i64 0, .int .i64 0, .slice none 0 0] 46)).setCells w1.heap.size 0 [.int .i64 y1, .int .i64 0, .int .i64 0, .int .i64 0, .slice none 0 0, .int .i64 0, .int .i64 0, .int .i64 0, .int .i64 0, .int .i64 0, .int .i64 0, .int .i64 0, .int .i64 0, .int .i64 0, .slice none 0 0, .int .i64 0, .slice none 0 0, .slice none 0 0, .slice none 0 0, .slice none 0 0, .slice none 0 0, .int .i64 0, .int .i64 0, .int .i64 0, .int .i64 0, .int .i64 0, .int .i64 0, .int .i64 0, .int .i64 0, .slice none 0 0]) := Kp.setCells (Nat.le_refl _) _ 0 _ kS
  have hr2 := hr1.keep kT
  have hq2 := hq1.trans (kT.kg g)
  replace hZ := hZ.keep (kT.block hlz)
  have hbz1 : bz < w1.heap.size := hlz
  replace hlz := Nat.lt_of_lt_of_le hlz kT.size
  clear kS kT hr1 hq1
  go_upto_region 2 with (refine wpList_store_mid rfl 46 (.tmp 3) (.tmp 6) rfl w1.heap.size 0 _ rfl rfl hth (by kernel_rfl) (all_oneCell_toArray (by simp [Value.oneCell'])) ?_; generalize (w1.alloc (.cells #[.int .i64 0, .int .i64 0, .int .i64 0, .int .i64 0, .slice none 0 0, .int .i64 0, .int .i64 0, .int .i64 0, .int .i64 0, .int .i64 0, .int .i64 0, .int .i64 0, .int .i64 0, .int .i64 0, .slice none 0 0, .int .i64 0, .slice none 0 0, .slice none 0 0, .slice none 0 0, .slice none 0 0, .slice none 0 0, .int .i64 0, .int .i64 0, .int .i64 0, .int .i64 0, .int .i64 0, .int .i64 0, .int .i64 0, .int .i64 0, .slice none 0 0] 46)).setCells w1.heap.size 0 [.int .i64 y1, .int .i64 0, .int .i64 0, .int .i64 0, .slice none 0 0, .int .i64 0, .int .i64 0, .int .i64 0, .int .i64 0, .int .i64 0, .int .i64 0, .int .i64 0, .int .i64 0, .int .i64 0, .slice none 0 0, .int .i64 0, .slice none 0 0, .slice none 0 0, .slice none 0 0, .slice none 0 0, .slice none 0 0, .int .i64 0, .int .i64 0, .int .i64 0, .int .i64 0, .int .i64 0, .int .i64 0, .int .i64 0, .int .i64 0, .slice none 0 0] = w2 at *)
  generalize w1.heap.size = b at *
  have hlb := hB.lt (by simp)
  have hgb : g < b := by omega
  have hlob : W0.heap.size ≤ b := by omega
  have hzb : bz ≠ b := by omega
  clear hth
  have dk := hB.cell (j := 0) rfl
  by_cases h0 : y1 = 0
  · subst h0
    go_wp2_with fail
    clear dk
    refine (rEvent_any W0 g _ _ w2 hr2).mono ?_
    rintro e w3 ⟨v3, y3, l3, bad3, rfl, ho3, hs3, hr3, hk3⟩
    have hq3 := hq2.trans hk3
    replace hZ := hZ.keep (World.grownBy.block hk3 bz hlz (by simp; omega))
    try (first | (replace ho3 := ho3.wide (base' := b + 1) (by omega) (Nat.le_refl _)) | (replace ho3 := ho3.wide (base' := bz + 1) (by omega) (Nat.le_refl _)))
    try replace hoA := hoA.kg1 hk3 hgz
    try replace hoB := hoB.kg1 hk3 hgz
    try replace hoC := hoC.kg1 hk3 hgz
    try replace hoD := hoD.kg1 hk3 hgb
    try replace hoE := hoE.kg1 hk3 hgb
    try replace hoF := hoF.kg1 hk3 hgb
    try replace hoG := hoG.kg1 hk3 hgb
    try replace hoP := hoP.kge hk3 hgz (Nat.le_of_lt hlb)
    try replace hoQ := hoQ.kge hk3 hgz (Nat.le_of_lt hlb)
    try replace hB := hB.keep (World.grownBy.block hk3 b hlb (by simp; omega))
    try replace hlb := Nat.lt_of_lt_of_le hlb hk3.size
    replace hlz := Nat.lt_of_lt_of_le hlz hk3.size
    clear hk3 hq2 hr2
    obtain ⟨cs, rfl, hcs⟩ := ho3.here
    have hoD := ho3
    clear ho3
    obtain ⟨hl3, h13⟩ := event_one hcs
    obtain ⟨e0, e1, e2, e3, e4, e5, ⟨f0, f1, f2, f3⟩, e7, e8, e9⟩ := y3
    have hBk := hB.setCells cs 1 _ _ (by rw [hl3]; simp)
    have hth := hB.thereAt 1 (cs).length (by rw [hl3]; simp)
    have hin : (Try.prog.info? 37).map (·.size) = some (cs).toArray.size := by rw [List.size_toArray, hl3]; kernel_rfl
    have hkS := Kb.setCells cs 1 _ (Kb.refl g b w3)
    have hr4 := hr3.kb hkS hlob (setCells_block b g (by omega) cs 1 w3)
    have hq4 := hkS.kg hq3 (by have := HBZ.out; omega)
    replace hZ := hZ.keep (setCells_block b bz hzb cs 1 w3)
    try replace hoD := hoD.kb2 hkS hgb
    try replace hoE := hoE.kb2 hkS hgb
    try replace hoF := hoF.kb2 hkS hgb
    try replace hoG := hoG.kb2 hkS hgb
    try replace hoP := hoP.kbe hkS hgz (Nat.le_of_lt hlb)
    try replace hoQ := hoQ.kbe hkS hgz (Nat.le_of_lt hlb)
    have hthZ := hZ.there
    clear hkS hr3 hq3 hB hlb hlz
    go_wp2_with (first | (refine wpList_store_mid rfl 37 (.tmp 16) (.tmp 15) rfl b 1 (cs).toArray rfl rfl hth hin (all_oneCell_toArray h13) ?_; generalize w3.setCells b 1 cs = w4 at *; clear hth hin; obtain ⟨vz, rfl, hN⟩ := hcs; obtain ⟨A9, c9, rfl, hc9, hm9⟩ := hN.form; clear hN; simp [putV] at hBk) | (refine wpList_load_mid rfl 46 (.tmp 3) rfl b 0 rfl _ _ hBk.range Try.underlying46 rfl (by kernel_rfl) ?_) | (refine wpList_store_mid rfl 46 (.tmp 2) (.tmp 43) rfl bz 0 _ rfl rfl hthZ (by kernel_rfl) (all_oneCell_toArray (by simp [Value.oneCell'])) ?_))
    try simp only [Exit.inBlock, Exit.then]
    refine bodyPost_ret (results_cell_bx rfl _ _ bz _ _ rfl (hZ.put hBk (by simp)).range Try.underlying46 rfl (by kernel_rfl)) rfl ?_
    refine fin2 hq4 (Nat.le_of_eq HBZ.out) hr4 hloz hgz (x := (⟨0, ⟨e0, e1, e2, e3, e4, e5, ⟨f0, f1, f2, f3⟩, e7, e8, e9⟩, zB, 0, 0, 0, zN⟩ : Record)) ?ow ?sp
    case ow => exact (hoD.wide (by omega) (Nat.le_refl _)).imp fun _ h => ⟨_, rfl, _, _, _, _, _, _, _, _, rfl, event_in (VA.inj h), Sl.nil _ _ _, Sl.nil _ _ _, Sl.nil _ _ _, Sl.nil _ _ _, Sl.nil _ _ _, Sl.nil _ _ _, Sl.nil _ _ _⟩
    case sp => exact hs1.bind (hs3.bind (SpecP.ret _ _ _))
  by_cases h1 : y1 = 1
  · subst h1
    go_wp2_with fail
    clear dk
    refine (rBase_any W0 g _ _ w2 hr2).mono ?_
    rintro e w3 ⟨v3, y3, l3, bad3, rfl, ho3, hs3, hr3, hk3⟩
    have hq3 := hq2.trans hk3
    replace hZ := hZ.keep (World.grownBy.block hk3 bz hlz (by simp; omega))
    try (first | (replace ho3 := ho3.wide (base' := b + 1) (by omega) (Nat.le_refl _)) | (replace ho3 := ho3.wide (base' := bz + 1) (by omega) (Nat.le_refl _)))
    try replace hoA := hoA.kg1 hk3 hgz
    try replace hoB := hoB.kg1 hk3 hgz
    try replace hoC := hoC.kg1 hk3 hgz
    try replace hoD := hoD.kg1 hk3 hgb
    try replace hoE := hoE.kg1 hk3 hgb
    try replace hoF := hoF.kg1 hk3 hgb
    try replace hoG := hoG.kg1 hk3 hgb
    try replace hoP := hoP.kge hk3 hgz (Nat.le_of_lt hlb)
    try replace hoQ := hoQ.kge hk3 hgz (Nat.le_of_lt hlb)
    try replace hB := hB.keep (World.grownBy.block hk3 b hlb (by simp; omega))
    try replace hlb := Nat.lt_of_lt_of_le hlb hk3.size
    replace hlz := Nat.lt_of_lt_of_le hlz hk3.size
    clear hk3 hq2 hr2
    obtain ⟨cs, rfl, hcs⟩ := ho3.here
    have hoD := ho3
    clear ho3
    obtain ⟨hl3, h13⟩ := base_one hcs
    obtain ⟨e0, e1, e2, e3, e4, e5, e6⟩ := y3
    have hBk := hB.setCells cs 14 _ _ (by rw [hl3]; simp)
    have hth := hB.thereAt 14 (cs).length (by rw [hl3]; simp)
    have hin : (Try.prog.info? 42).map (·.size) = some (cs).toArray.size := by rw [List.size_toArray, hl3]; kernel_rfl
    have hkS := Kb.setCells cs 14 _ (Kb.refl g b w3)
    have hr4 := hr3.kb hkS hlob (setCells_block b g (by omega) cs 14 w3)
    have hq4 := hkS.kg hq3 (by have := HBZ.out; omega)
    replace hZ := hZ.keep (setCells_block b bz hzb cs 14 w3)
    try replace hoD := hoD.kb2 hkS hgb
    try replace hoE := hoE.kb2 hkS hgb
    try replace hoF := hoF.kb2 hkS hgb
    try replace hoG := hoG.kb2 hkS hgb
    try replace hoP := hoP.kbe hkS hgz (Nat.le_of_lt hlb)
    try replace hoQ := hoQ.kbe hkS hgz (Nat.le_of_lt hlb)
    have hthZ := hZ.there
    clear hkS hr3 hq3 hB hlb hlz
    go_wp2_with (first | (refine wpList_store_mid rfl 42 (.tmp 21) (.tmp 20) rfl b 14 (cs).toArray rfl rfl hth hin (all_oneCell_toArray h13) ?_; generalize w3.setCells b 14 cs = w4 at *; clear hth hin; obtain ⟨u0, u2, u3, u4, u5, u6, rfl, q0, q2, q3, q4, q5, q6⟩ := hcs; obtain ⟨A0, c0, rfl, hc0, hm0⟩ := q0.form; obtain ⟨A2, c2, rfl, hc2, hm2⟩ := q2.form; obtain ⟨A3, c3, rfl, hc3, hm3⟩ := q3.form; obtain ⟨A4, c4, rfl, hc4, hm4⟩ := q4.form; obtain ⟨A5, c5, rfl, hc5, hm5⟩ := q5.form; obtain ⟨A6, c6, rfl, hc6, hm6⟩ := q6.form; clear q0 q2 q3 q4 q5 q6; simp [putV] at hBk) | (refine wpList_load_mid rfl 46 (.tmp 3) rfl b 0 rfl _ _ hBk.range Try.underlying46 rfl (by kernel_rfl) ?_) | (refine wpList_store_mid rfl 46 (.tmp 2) (.tmp 43) rfl bz 0 _ rfl rfl hthZ (by kernel_rfl) (all_oneCell_toArray (by simp [Value.oneCell'])) ?_))
    try simp only [Exit.inBlock, Exit.then]
    refine bodyPost_ret (results_cell_bx rfl _ _ bz _ _ rfl (hZ.put hBk (by simp)).range Try.underlying46 rfl (by kernel_rfl)) rfl ?_
    refine fin2 hq4 (Nat.le_of_eq HBZ.out) hr4 hloz hgz (x := (⟨1, zE, ⟨e0, e1, e2, e3, e4, e5, e6⟩, 0, 0, 0, zN⟩ : Record)) ?ow ?sp
    case ow => exact (hoD.wide (by omega) (Nat.le_refl _)).imp fun _ h => ⟨_, rfl, _, _, _, _, _, _, _, _, rfl, Sl.nil _ _ _, (base_in (VA.inj h)).1, (base_in (VA.inj h)).2.1, (base_in (VA.inj h)).2.2.1, (base_in (VA.inj h)).2.2.2.1, (base_in (VA.inj h)).2.2.2.2.1, (base_in (VA.inj h)).2.2.2.2.2, Sl.nil _ _ _⟩
    case sp => exact hs1.bind (hs3.bind (SpecP.ret _ _ _))
  by_cases h2 : y1 = 2
  · subst h2
    go_wp2_with fail
    clear dk
    refine (rNext_any W0 g _ _ w2 hr2).mono ?_
    rintro e w3 ⟨vq, y3, l3, bad3, rfl, hoq, hs3, hr3, hk3⟩
    obtain rfl := hoq.here
    clear hoq
    have hq3 := hq2.trans hk3
    replace hZ := hZ.keep (World.grownBy.block hk3 bz hlz (by simp; omega))
    try (first | (replace ho3 := ho3.wide (base' := b + 1) (by omega) (Nat.le_refl _)) | (replace ho3 := ho3.wide (base' := bz + 1) (by omega) (Nat.le_refl _)))
    try replace hoA := hoA.kg1 hk3 hgz
    try replace hoB := hoB.kg1 hk3 hgz
    try replace hoC := hoC.kg1 hk3 hgz
    try replace hoD := hoD.kg1 hk3 hgb
    try replace hoE := hoE.kg1 hk3 hgb
    try replace hoF := hoF.kg1 hk3 hgb
    try replace hoG := hoG.kg1 hk3 hgb
    try replace hoP := hoP.kge hk3 hgz (Nat.le_of_lt hlb)
    try replace hoQ := hoQ.kge hk3 hgz (Nat.le_of_lt hlb)
    try replace hB := hB.keep (World.grownBy.block hk3 b hlb (by simp; omega))
    try replace hlb := Nat.lt_of_lt_of_le hlb hk3.size
    replace hlz := Nat.lt_of_lt_of_le hlz hk3.size
    clear hk3 hq2 hr2
    have f1 := hB.cell (j := 21) rfl
    have f2 := hB.free (j := 21) (by simp)
    have hBk := hB.set (j := 21) (by simp) (.int .i64 y3)
    simp only [List.set_cons_zero, List.set_cons_succ] at hBk
    have hkS := (Kb.refl g b w3).set 21 (.int .i64 y3)
    have hr4 := hr3.kb hkS hlob (set_block _ _ _ _ (by show g ≠ b; omega))
    have hq4 := hkS.kg hq3 (by have := HBZ.out; omega)
    replace hZ := hZ.keep (set_block w3 ⟨b, 21, none⟩ (.int .i64 y3) bz hzb)
    try replace hoD := hoD.kb2 hkS hgb
    try replace hoE := hoE.kb2 hkS hgb
    try replace hoF := hoF.kb2 hkS hgb
    try replace hoG := hoG.kb2 hkS hgb
    try replace hoP := hoP.kbe hkS hgz (Nat.le_of_lt hlb)
    try replace hoQ := hoQ.kbe hkS hgz (Nat.le_of_lt hlb)
    have hsz := set_size w3 ⟨b, 21, none⟩ (.int .i64 y3)
    have hlb' := hlb
    have hlz' := hlz
    rw [← hsz] at hlb' hlz'
    clear hkS hr3 hq3
    go_wp2_with fail
    try rw [← hsz]
    generalize w3.setCell ⟨b, 21, none⟩ (.int .i64 y3) = w4 at *
    clear f1 f2 hsz hB hlb hlz
    have hB := hBk
    have hlb := hlb'
    have hlz := hlz'
    clear hBk hlb' hlz'
    refine (rNext_any W0 g _ _ w4 hr4).mono ?_
    rintro e w5 ⟨vq, y5, l5, bad5, rfl, hoq, hs5, hr5, hk5⟩
    obtain rfl := hoq.here
    clear hoq
    have hq5 := hq4.trans hk5
    replace hZ := hZ.keep (World.grownBy.block hk5 bz hlz (by simp; omega))
    try (first | (replace ho5 := ho5.wide (base' := b + 1) (by omega) (Nat.le_refl _)) | (replace ho5 := ho5.wide (base' := bz + 1) (by omega) (Nat.le_refl _)))
    try replace hoA := hoA.kg1 hk5 hgz
    try replace hoB := hoB.kg1 hk5 hgz
    try replace hoC := hoC.kg1 hk5 hgz
    try replace hoD := hoD.kg1 hk5 hgb
    try replace hoE := hoE.kg1 hk5 hgb
    try replace hoF := hoF.kg1 hk5 hgb
    try replace hoG := hoG.kg1 hk5 hgb
    try replace hoP := hoP.kge hk5 hgz (Nat.le_of_lt hlb)
    try replace hoQ := hoQ.kge hk5 hgz (Nat.le_of_lt hlb)
    try replace hB := hB.keep (World.grownBy.block hk5 b hlb (by simp; omega))
    try replace hlb := Nat.lt_of_lt_of_le hlb hk5.size
    replace hlz := Nat.lt_of_lt_of_le hlz hk5.size
    clear hk5 hq4 hr4
    have f1 := hB.cell (j := 22) rfl
    have f2 := hB.free (j := 22) (by simp)
    have hBk := hB.set (j := 22) (by simp) (.int .i64 y5)
    simp only [List.set_cons_zero, List.set_cons_succ] at hBk
    have hkS := (Kb.refl g b w5).set 22 (.int .i64 y5)
    have hr6 := hr5.kb hkS hlob (set_block _ _ _ _ (by show g ≠ b; omega))
    have hq6 := hkS.kg hq5 (by have := HBZ.out; omega)
    replace hZ := hZ.keep (set_block w5 ⟨b, 22, none⟩ (.int .i64 y5) bz hzb)
    try replace hoD := hoD.kb2 hkS hgb
    try replace hoE := hoE.kb2 hkS hgb
    try replace hoF := hoF.kb2 hkS hgb
    try replace hoG := hoG.kb2 hkS hgb
    try replace hoP := hoP.kbe hkS hgz (Nat.le_of_lt hlb)
    try replace hoQ := hoQ.kbe hkS hgz (Nat.le_of_lt hlb)
    have hsz := set_size w5 ⟨b, 22, none⟩ (.int .i64 y5)
    have hlb' := hlb
    have hlz' := hlz
    rw [← hsz] at hlb' hlz'
    clear hkS hr5 hq5 hB
    have hR := hZ.put hBk (by simp)
    have hth := hZ.there
    go_wp2_with (first | (refine wpList_load_mid rfl 46 (.tmp 3) rfl b 0 rfl _ _ hBk.range Try.underlying46 rfl (by kernel_rfl) ?_) | (refine wpList_store_mid rfl 46 (.tmp 2) (.tmp 43) rfl bz 0 _ rfl rfl hth (by kernel_rfl) (all_oneCell_toArray (by simp [Value.oneCell'])) ?_))
    try simp only [Exit.inBlock, Exit.then]
    refine bodyPost_ret (results_cell_bx rfl _ _ bz _ _ rfl hR.range Try.underlying46 rfl (by kernel_rfl)) rfl ?_
    refine fin2 hq6 (Nat.le_of_eq HBZ.out) hr6 hloz hgz (x := (⟨2, zE, zB, y3, y5, 0, zN⟩ : Record)) ?ow ?sp
    case ow => exact fun _ _ _ => ⟨_, rfl, _, _, _, _, _, _, _, _, rfl, Sl.nil _ _ _, Sl.nil _ _ _, Sl.nil _ _ _, Sl.nil _ _ _, Sl.nil _ _ _, Sl.nil _ _ _, Sl.nil _ _ _, Sl.nil _ _ _⟩
    case sp =>
      have hA : SpecP (loopP intP 1) l3 bad3 [y5] l5 bad5 := hs5.bind ((SpecP.ret [] l5 bad5).bind (SpecP.ret [y5] _ _))
      have hC : SpecP (loopP intP 2) l1 bad1 [y3, y5] l5 bad5 := hs3.bind (hA.bind (SpecP.ret [y3, y5] _ _))
      exact hs1.bind (hC.bind (SpecP.ret _ _ _))
  by_cases h3 : y1 = 3
  · subst h3
    go_wp2_with fail
    clear dk
    refine (rNext_any W0 g _ _ w2 hr2).mono ?_
    rintro e w3 ⟨vq, y3, l3, bad3, rfl, hoq, hs3, hr3, hk3⟩
    obtain rfl := hoq.here
    clear hoq
    have hq3 := hq2.trans hk3
    replace hZ := hZ.keep (World.grownBy.block hk3 bz hlz (by simp; omega))
    try (first | (replace ho3 := ho3.wide (base' := b + 1) (by omega) (Nat.le_refl _)) | (replace ho3 := ho3.wide (base' := bz + 1) (by omega) (Nat.le_refl _)))
    try replace hoA := hoA.kg1 hk3 hgz
    try replace hoB := hoB.kg1 hk3 hgz
    try replace hoC := hoC.kg1 hk3 hgz
    try replace hoD := hoD.kg1 hk3 hgb
    try replace hoE := hoE.kg1 hk3 hgb
    try replace hoF := hoF.kg1 hk3 hgb
    try replace hoG := hoG.kg1 hk3 hgb
    try replace hoP := hoP.kge hk3 hgz (Nat.le_of_lt hlb)
    try replace hoQ := hoQ.kge hk3 hgz (Nat.le_of_lt hlb)
    try replace hB := hB.keep (World.grownBy.block hk3 b hlb (by simp; omega))
    try replace hlb := Nat.lt_of_lt_of_le hlb hk3.size
    replace hlz := Nat.lt_of_lt_of_le hlz hk3.size
    clear hk3 hq2 hr2
    have f1 := hB.cell (j := 23) rfl
    have f2 := hB.free (j := 23) (by simp)
    have hBk := hB.set (j := 23) (by simp) (.int .i64 y3)
    simp only [List.set_cons_zero, List.set_cons_succ] at hBk
    have hkS := (Kb.refl g b w3).set 23 (.int .i64 y3)
    have hr4 := hr3.kb hkS hlob (set_block _ _ _ _ (by show g ≠ b; omega))
    have hq4 := hkS.kg hq3 (by have := HBZ.out; omega)
    replace hZ := hZ.keep (set_block w3 ⟨b, 23, none⟩ (.int .i64 y3) bz hzb)
    try replace hoD := hoD.kb2 hkS hgb
    try replace hoE := hoE.kb2 hkS hgb
    try replace hoF := hoF.kb2 hkS hgb
    try replace hoG := hoG.kb2 hkS hgb
    try replace hoP := hoP.kbe hkS hgz (Nat.le_of_lt hlb)
    try replace hoQ := hoQ.kbe hkS hgz (Nat.le_of_lt hlb)
    have hsz := set_size w3 ⟨b, 23, none⟩ (.int .i64 y3)
    have hlb' := hlb
    have hlz' := hlz
    rw [← hsz] at hlb' hlz'
    clear hkS hr3 hq3
    go_wp2_with fail
    try rw [← hsz]
    generalize w3.setCell ⟨b, 23, none⟩ (.int .i64 y3) = w4 at *
    clear f1 f2 hsz hB hlb hlz
    have hB := hBk
    have hlb := hlb'
    have hlz := hlz'
    clear hBk hlb' hlz'
    refine (rEntry_any W0 g _ _ w4 hr4).mono ?_
    rintro e w5 ⟨v5, y5, l5, bad5, rfl, ho5, hs5, hr5, hk5⟩
    have hq5 := hq4.trans hk5
    replace hZ := hZ.keep (World.grownBy.block hk5 bz hlz (by simp; omega))
    try (first | (replace ho5 := ho5.wide (base' := b + 1) (by omega) (Nat.le_refl _)) | (replace ho5 := ho5.wide (base' := bz + 1) (by omega) (Nat.le_refl _)))
    try replace hoA := hoA.kg1 hk5 hgz
    try replace hoB := hoB.kg1 hk5 hgz
    try replace hoC := hoC.kg1 hk5 hgz
    try replace hoD := hoD.kg1 hk5 hgb
    try replace hoE := hoE.kg1 hk5 hgb
    try replace hoF := hoF.kg1 hk5 hgb
    try replace hoG := hoG.kg1 hk5 hgb
    try replace hoP := hoP.kge hk5 hgz (Nat.le_of_lt hlb)
    try replace hoQ := hoQ.kge hk5 hgz (Nat.le_of_lt hlb)
    try replace hB := hB.keep (World.grownBy.block hk5 b hlb (by simp; omega))
    try replace hlb := Nat.lt_of_lt_of_le hlb hk5.size
    replace hlz := Nat.lt_of_lt_of_le hlz hk5.size
    clear hk5 hq4 hr4
    obtain ⟨cs, rfl, hcs⟩ := ho5.here
    have hoD := ho5
    clear ho5
    obtain ⟨hl5, h15⟩ := entry_one hcs
    obtain ⟨n0, n1, n2, n3, n4, n5⟩ := y5
    have hBk := hB.setCells cs 24 _ _ (by rw [hl5]; simp)
    have hth := hB.thereAt 24 (cs).length (by rw [hl5]; simp)
    have hin : (Try.prog.info? 44).map (·.size) = some (cs).toArray.size := by rw [List.size_toArray, hl5]; kernel_rfl
    have hkS := Kb.setCells cs 24 _ (Kb.refl g b w5)
    have hr6 := hr5.kb hkS hlob (setCells_block b g (by omega) cs 24 w5)
    have hq6 := hkS.kg hq5 (by have := HBZ.out; omega)
    replace hZ := hZ.keep (setCells_block b bz hzb cs 24 w5)
    try replace hoD := hoD.kb2 hkS hgb
    try replace hoE := hoE.kb2 hkS hgb
    try replace hoF := hoF.kb2 hkS hgb
    try replace hoG := hoG.kb2 hkS hgb
    try replace hoP := hoP.kbe hkS hgz (Nat.le_of_lt hlb)
    try replace hoQ := hoQ.kbe hkS hgz (Nat.le_of_lt hlb)
    have hthZ := hZ.there
    clear hkS hr5 hq5 hB hlb hlz
    go_wp2_with (first | (refine wpList_store_mid rfl 44 (.tmp 37) (.tmp 36) rfl b 24 (cs).toArray rfl rfl hth hin (all_oneCell_toArray h15) ?_; generalize w5.setCells b 24 cs = w6 at *; clear hth hin; obtain ⟨vz, rfl, hN⟩ := hcs; obtain ⟨A9, c9, rfl, hc9, hm9⟩ := hN.form; clear hN; simp [putV] at hBk) | (refine wpList_load_mid rfl 46 (.tmp 3) rfl b 0 rfl _ _ hBk.range Try.underlying46 rfl (by kernel_rfl) ?_) | (refine wpList_store_mid rfl 46 (.tmp 2) (.tmp 43) rfl bz 0 _ rfl rfl hthZ (by kernel_rfl) (all_oneCell_toArray (by simp [Value.oneCell'])) ?_))
    try simp only [Exit.inBlock, Exit.then]
    refine bodyPost_ret (results_cell_bx rfl _ _ bz _ _ rfl (hZ.put hBk (by simp)).range Try.underlying46 rfl (by kernel_rfl)) rfl ?_
    refine fin2 hq6 (Nat.le_of_eq HBZ.out) hr6 hloz hgz (x := (⟨3, zE, zB, 0, 0, y3, ⟨n0, n1, n2, n3, n4, n5⟩⟩ : Record)) ?ow ?sp
    case ow => exact (hoD.wide (by omega) (Nat.le_refl _)).imp fun _ h => ⟨_, rfl, _, _, _, _, _, _, _, _, rfl, Sl.nil _ _ _, Sl.nil _ _ _, Sl.nil _ _ _, Sl.nil _ _ _, Sl.nil _ _ _, Sl.nil _ _ _, Sl.nil _ _ _, entry_in (VA.inj h)⟩
    case sp => exact hs1.bind (hs3.bind (hs5.bind (SpecP.ret _ _ _)))
  by_cases h4 : y1 = 4
  · subst h4
    go_wp2_with fail
    clear dk
    refine (rNext_any W0 g _ _ w2 hr2).mono ?_
    rintro e w3 ⟨vq, y3, l3, bad3, rfl, hoq, hs3, hr3, hk3⟩
    obtain rfl := hoq.here
    clear hoq
    have hq3 := hq2.trans hk3
    replace hZ := hZ.keep (World.grownBy.block hk3 bz hlz (by simp; omega))
    try (first | (replace ho3 := ho3.wide (base' := b + 1) (by omega) (Nat.le_refl _)) | (replace ho3 := ho3.wide (base' := bz + 1) (by omega) (Nat.le_refl _)))
    try replace hoA := hoA.kg1 hk3 hgz
    try replace hoB := hoB.kg1 hk3 hgz
    try replace hoC := hoC.kg1 hk3 hgz
    try replace hoD := hoD.kg1 hk3 hgb
    try replace hoE := hoE.kg1 hk3 hgb
    try replace hoF := hoF.kg1 hk3 hgb
    try replace hoG := hoG.kg1 hk3 hgb
    try replace hoP := hoP.kge hk3 hgz (Nat.le_of_lt hlb)
    try replace hoQ := hoQ.kge hk3 hgz (Nat.le_of_lt hlb)
    try replace hB := hB.keep (World.grownBy.block hk3 b hlb (by simp; omega))
    try replace hlb := Nat.lt_of_lt_of_le hlb hk3.size
    replace hlz := Nat.lt_of_lt_of_le hlz hk3.size
    clear hk3 hq2 hr2
    have f1 := hB.cell (j := 23) rfl
    have f2 := hB.free (j := 23) (by simp)
    have hBk := hB.set (j := 23) (by simp) (.int .i64 y3)
    simp only [List.set_cons_zero, List.set_cons_succ] at hBk
    have hkS := (Kb.refl g b w3).set 23 (.int .i64 y3)
    have hr4 := hr3.kb hkS hlob (set_block _ _ _ _ (by show g ≠ b; omega))
    have hq4 := hkS.kg hq3 (by have := HBZ.out; omega)
    replace hZ := hZ.keep (set_block w3 ⟨b, 23, none⟩ (.int .i64 y3) bz hzb)
    try replace hoD := hoD.kb2 hkS hgb
    try replace hoE := hoE.kb2 hkS hgb
    try replace hoF := hoF.kb2 hkS hgb
    try replace hoG := hoG.kb2 hkS hgb
    try replace hoP := hoP.kbe hkS hgz (Nat.le_of_lt hlb)
    try replace hoQ := hoQ.kbe hkS hgz (Nat.le_of_lt hlb)
    have hsz := set_size w3 ⟨b, 23, none⟩ (.int .i64 y3)
    have hlb' := hlb
    have hlz' := hlz
    rw [← hsz] at hlb' hlz'
    clear hkS hr3 hq3 hB
    have hR := hZ.put hBk (by simp)
    have hth := hZ.there
    go_wp2_with (first | (refine wpList_load_mid rfl 46 (.tmp 3) rfl b 0 rfl _ _ hBk.range Try.underlying46 rfl (by kernel_rfl) ?_) | (refine wpList_store_mid rfl 46 (.tmp 2) (.tmp 43) rfl bz 0 _ rfl rfl hth (by kernel_rfl) (all_oneCell_toArray (by simp [Value.oneCell'])) ?_))
    try simp only [Exit.inBlock, Exit.then]
    refine bodyPost_ret (results_cell_bx rfl _ _ bz _ _ rfl hR.range Try.underlying46 rfl (by kernel_rfl)) rfl ?_
    refine fin2 hq4 (Nat.le_of_eq HBZ.out) hr4 hloz hgz (x := (⟨4, zE, zB, 0, 0, y3, zN⟩ : Record)) ?ow ?sp
    case ow => exact fun _ _ _ => ⟨_, rfl, _, _, _, _, _, _, _, _, rfl, Sl.nil _ _ _, Sl.nil _ _ _, Sl.nil _ _ _, Sl.nil _ _ _, Sl.nil _ _ _, Sl.nil _ _ _, Sl.nil _ _ _, Sl.nil _ _ _⟩
    case sp => exact hs1.bind (hs3.bind (SpecP.ret _ _ _))
  have a0 : decide (y1 = 0) = false := decide_eq_false h0
  have a1 : decide (y1 = 1) = false := decide_eq_false h1
  have a2 : decide (y1 = 2) = false := decide_eq_false h2
  have a3 : decide (y1 = 3) = false := decide_eq_false h3
  have a4 : decide (y1 = 4) = false := decide_eq_false h4
  have c0 : (y1 == 0) = false := by simpa using h0
  have c1 : (y1 == 1) = false := by simpa using h1
  have c2 : (y1 == 2) = false := by simpa using h2
  have c3 : (y1 == 3) = false := by simpa using h3
  have c4 : (y1 == 4) = false := by simpa using h4
  have hsp : Hid (SpecP recordP l bad ⟨y1, zE, zB, 0, 0, 0, zN⟩ l1 true) := hid (hs1.bind (by rw [if_neg h0, if_neg h1, if_neg h2, if_neg h3, if_neg h4]; exact SpecP.no _ _ _ _))
  go_upto_region 3 with (fail)
  clear dk
  obtain ⟨vr, hir, g1, g2, g3, g4⟩ := hr2.cells
  have hgl := hr2.lt
  have hrE := hr2.bad true
  have hqE := hq2.setg 1 (.bool true)
  have hBk := hB.keep (set_block w2 ⟨g, 1, none⟩ (.bool true) b (by show b ≠ g; omega))
  replace hZ := hZ.keep (set_block w2 ⟨g, 1, none⟩ (.bool true) bz (by show bz ≠ g; omega))
  have hthZ := hZ.there
  go_wp2_with (first | (refine wpList_load_mid rfl 46 (.tmp 3) rfl b 0 rfl _ _ hBk.range Try.underlying46 rfl (by kernel_rfl) ?_) | (refine wpList_store_mid rfl 46 (.tmp 2) (.tmp 43) rfl bz 0 _ rfl rfl hthZ (by kernel_rfl) (all_oneCell_toArray (by simp [Value.oneCell'])) ?_))
  try simp only [Exit.inBlock, Exit.then]
  refine bodyPost_ret (results_cell_bx rfl _ _ bz _ _ rfl (hZ.put hBk (by simp)).range Try.underlying46 rfl (by kernel_rfl)) rfl ?_
  refine fin2 hqE (Nat.le_of_eq HBZ.out) hrE hloz hgz (x := (⟨y1, zE, zB, 0, 0, 0, zN⟩ : Record)) ?ow ?sp
  case ow => exact fun _ _ _ => ⟨_, rfl, _, _, _, _, _, _, _, _, rfl, Sl.nil _ _ _, Sl.nil _ _ _, Sl.nil _ _ _, Sl.nil _ _ _, Sl.nil _ _ _, Sl.nil _ _ _, Sl.nil _ _ _, Sl.nil _ _ _⟩
  case sp => exact hsp.out
theorem rRecord_real : Real Try.prog 69 := ⟨_, Try.func69, by kernel_rfl, by kernel_rfl⟩
end Go.Proofs.Ytmeafoakbkjifaa
namespace Go.Proofs.Ytmeafoakbkjifaa
set_option linter.unusedSimpArgs false
set_option linter.unusedVariables false
open Go.RowKit

theorem decE_len (bs : List UInt8) : (decE bs).1.length ≤ 65536 := by
  unfold decE
  split
  · simp
  · rename_i hb
    cases hd : dec 0 0 bs with
    | none => simp [decO]
    | some l =>
      have h1 := ((dec_iff bs l).1 hd).1
      have h2 := encB_le l
      rw [h1] at h2
      simp only [decO]
      omega
set_option maxRecDepth 8000 in
set_option maxHeartbeats 4000000 in
theorem rDecodeEvent_any (bs : List UInt8) (w : World) (HZ : ∀ w, (VA rdEvent) w (.agg #[.int .i64 0, .int .i64 0, .int .i64 0, .slice none 0 0, .int .i64 0, .int .i64 0, .int .i64 0, .int .i64 0, .int .i64 0, .int .i64 0, .int .i64 0, .int .i64 0, .int .i64 0]) zE) : Calls Try.prog 34 #[strV bs] w (DecEnd (VA rdEvent) zE (readE eventP bs) w) := by
  have HZZ := hid HZ
  clear HZ
  have k0 := (Kp.refl w).alloc (.cells #[.int .i64 0, .int .i64 0, .int .i64 0, .slice none 0 0, .int .i64 0, .int .i64 0, .int .i64 0, .int .i64 0, .int .i64 0, .int .i64 0, .int .i64 0, .int .i64 0, .int .i64 0] 37)
  have hZ := Bx.new w #[.int .i64 0, .int .i64 0, .int .i64 0, .slice none 0 0, .int .i64 0, .int .i64 0, .int .i64 0, .int .i64 0, .int .i64 0, .int .i64 0, .int .i64 0, .int .i64 0, .int .i64 0] 37
  have hlz := hZ.lt (by simp)
  go_enter Try.func34, Try.ntmps34
  go_wp2_with fail
  generalize w.alloc (.cells #[.int .i64 0, .int .i64 0, .int .i64 0, .slice none 0 0, .int .i64 0, .int .i64 0, .int .i64 0, .int .i64 0, .int .i64 0, .int .i64 0, .int .i64 0, .int .i64 0, .int .i64 0] 37) = w0 at *
  generalize hbz : w.heap.size = bz at *
  have HBZ := hid hbz
  clear hbz
  refine (rDecode_any bs w0).mono ?_
  rintro e w1 ⟨v, rfl, own, k1⟩
  have hlen := decE_len bs
  generalize hd : decE bs = d at *
  have HD := hid hd
  clear hd
  obtain ⟨l, er⟩ := d
  dsimp only at own hlen ⊢
  obtain ⟨A, c, rfl, hcc, hmm⟩ := own.form
  have hint := own.sl encInt_len
  replace hZ := hZ.keep (k1.block hlz)
  replace hlz := Nat.lt_of_lt_of_le hlz k1.size
  have hbz1 := hlz
  have k01 := k0.trans k1
  have k2 := (Kp.refl w1).alloc (.cells #[.slice A l.length c, .bool false] 125)
  have hrd : Rdr w1 (w1.alloc (.cells #[.slice A l.length c, .bool false] 125)) w1.heap.size l false :=
    ⟨k2, Nat.le_refl _, by omega, _, hint, alloc_cell w1 _ _ 0 rfl, alloc_frozen w1 _ _ 0, alloc_cell w1 _ _ 1 rfl, alloc_frozen w1 _ _ 1⟩
  have hs2 : (w1.alloc (.cells #[.slice A l.length c, .bool false] 125)).heap.size = w1.heap.size + 1 := by simp
  replace hZ := hZ.keep (k2.block hlz)
  clear own hint k0 k1
  go_wp2_with fail
  refine (rEvent_any w1 w1.heap.size l false _ hrd).mono ?_
  rintro e w3 ⟨v3, x, l3, b3, rfl, ho, hsp, hr3, hk3⟩
  obtain ⟨cs, rfl, hcl, h1⟩ := (va_cells fun _ _ _ h => event_one h) _ _ _ ho.here
  rw [hs2] at ho
  have hsz3 := hk3.size
  rw [hs2] at hsz3
  replace hZ := hZ.keep (World.grownBy.block hk3 bz (by omega) (by simp; omega))
  replace hlz : bz < w3.heap.size := by omega
  have kw3 : Kp w w3 := k01.trans hr3.kp
  have k4 := (Kp.refl w3).alloc (.cells #[.int .i64 0, .int .i64 0, .int .i64 0, .slice none 0 0, .int .i64 0, .int .i64 0, .int .i64 0, .int .i64 0, .int .i64 0, .int .i64 0, .int .i64 0, .int .i64 0, .int .i64 0] 37)
  have hth := there_new w3 #[.int .i64 0, .int .i64 0, .int .i64 0, .slice none 0 0, .int .i64 0, .int .i64 0, .int .i64 0, .int .i64 0, .int .i64 0, .int .i64 0, .int .i64 0, .int .i64 0, .int .i64 0] 37 cs.length (by rw [hcl]; rfl)
  have hin : (Try.prog.info? 37).map (·.size) = some cs.length := by rw [hcl]; kernel_rfl
  have hB := (Bx.new w3 #[.int .i64 0, .int .i64 0, .int .i64 0, .slice none 0 0, .int .i64 0, .int .i64 0, .int .i64 0, .int .i64 0, .int .i64 0, .int .i64 0, .int .i64 0, .int .i64 0, .int .i64 0] 37).all (cs := cs) (by rw [hcl]; rfl)
  have kq : Kp w3 ((w3.alloc (.cells #[.int .i64 0, .int .i64 0, .int .i64 0, .slice none 0 0, .int .i64 0, .int .i64 0, .int .i64 0, .int .i64 0, .int .i64 0, .int .i64 0, .int .i64 0, .int .i64 0, .int .i64 0] 37)).setCells w3.heap.size 0 cs) := Kp.setCells (Nat.le_refl _) cs 0 _ k4
  have hr4 := hr3.keep kq
  have ho4 := ho.step kq.size (fun k _ hk2 => kq.block hk2)
  have kw4 := kw3.trans kq
  have hsq : ((w3.alloc (.cells #[.int .i64 0, .int .i64 0, .int .i64 0, .slice none 0 0, .int .i64 0, .int .i64 0, .int .i64 0, .int .i64 0, .int .i64 0, .int .i64 0, .int .i64 0, .int .i64 0, .int .i64 0] 37)).setCells w3.heap.size 0 cs).heap.size = w3.heap.size + 1 := by rw [setCells_size]; simp
  replace hZ := hZ.keep (kq.block hlz)
  have hRz := hZ.all (cs := cs) (by rw [hcl]; rfl)
  have hR0 := hZ.self
  have hthZ := hZ.there
  have hthC : ((w3.alloc (.cells #[.int .i64 0, .int .i64 0, .int .i64 0, .slice none 0 0, .int .i64 0, .int .i64 0, .int .i64 0, .int .i64 0, .int .i64 0, .int .i64 0, .int .i64 0, .int .i64 0, .int .i64 0] 37)).setCells w3.heap.size 0 cs).there bz 0 cs.length := hZ.thereAt 0 cs.length (by rw [hcl]; exact Nat.le_of_eq rfl)
  clear ho hr3 hk3 kq k4 kw3 k2 hrd
  by_cases he : er = 0
  · subst he
    go_wp2_with (refine wpList_store_mid rfl 37 (.tmp 7) (.tmp 15) rfl w3.heap.size 0 cs.toArray rfl rfl hth hin (all_oneCell_toArray h1) ?_; generalize (w3.alloc (.cells #[.int .i64 0, .int .i64 0, .int .i64 0, .slice none 0 0, .int .i64 0, .int .i64 0, .int .i64 0, .int .i64 0, .int .i64 0, .int .i64 0, .int .i64 0, .int .i64 0, .int .i64 0] 37)).setCells w3.heap.size 0 cs = w4 at *)
    refine (rDone_any w1 w1.heap.size l3 b3 w4 hr4).mono ?_
    rintro e w5 ⟨rfl, rfl⟩
    by_cases hok : b3 = false ∧ l3 = []
    · obtain ⟨rfl, rfl⟩ := hok
      have HN : Hid (readE eventP bs = (some x, 0)) := hid (readE_ok HD.out hsp)
      clear hsp
      simp only [Bool.not_false, List.isEmpty_nil, Bool.and_self]
      go_wp2_with (first | (refine wpList_load_mid rfl 37 (.tmp 7) rfl w3.heap.size 0 rfl cs _ hB.range Try.underlying37 rfl hin ?_) | (refine wpList_store_mid rfl 37 (.tmp 2) (.tmp 26) rfl bz 0 cs.toArray rfl rfl hthC hin (all_oneCell_toArray h1) ?_))
      try simp only [Exit.inBlock, Exit.then]
      refine bodyPost_ret (results_cell_bx2 rfl _ _ bz cs _ rfl hRz.range Try.underlying37 rfl hin) rfl ?_
      refine ⟨_, by rw [HN.out]; rfl, ?_, Kp.setCells (Nat.le_of_eq HBZ.out) cs 0 _ kw4⟩
      rw [HN.out]
      have hbz := HBZ.out
      exact (ho4.step (by rw [setCells_size]; exact Nat.le_refl _) (fun k hk1 _ => setCells_block bz k (by omega) cs 0 _)).wide (by omega) (by rw [setCells_size]; omega)
    · have HN : Hid (readE eventP bs = (none, 13)) := hid (readE_bad HD.out hsp (by
        cases b3 with
        | true => exact .inl rfl
        | false =>
          right
          cases l3 with
          | nil => exact absurd ⟨rfl, rfl⟩ hok
          | cons _ _ => simp))
      have hok2 : (!b3 && l3.isEmpty) = false := by
        cases b3 with
        | true => rfl
        | false =>
          cases l3 with
          | nil => exact absurd ⟨rfl, rfl⟩ hok
          | cons _ _ => rfl
      rw [hok2]
      clear hok hok2 hsp
      go_wp2_with (refine wpList_store_mid rfl 37 (.tmp 2) (.tmp 24) rfl bz 0 _ rfl rfl hthZ (by kernel_rfl) (all_oneCell_toArray (by simp [Value.oneCell'])) ?_)
      try simp only [Exit.inBlock, Exit.then]
      refine bodyPost_ret (results_cell_bx2 rfl _ _ bz _ _ rfl hR0.range Try.underlying37 rfl (by kernel_rfl)) rfl ?_
      exact ⟨_, by rw [HN.out]; rfl, by rw [HN.out]; exact fun _ _ _ => HZZ.out _, Kp.setCells (Nat.le_of_eq HBZ.out) _ 0 _ kw4⟩
  · have HN : Hid (readE eventP bs = (none, er)) := hid (readE_err eventP HD.out he)
    have f1 : (er == 0) = false := by simpa using he
    have f2 : (er != 0) = true := by simpa using he
    clear hsp
    go_wp2_with (first | (refine wpList_store_mid rfl 37 (.tmp 7) (.tmp 15) rfl w3.heap.size 0 cs.toArray rfl rfl hth hin (all_oneCell_toArray h1) ?_; generalize (w3.alloc (.cells #[.int .i64 0, .int .i64 0, .int .i64 0, .slice none 0 0, .int .i64 0, .int .i64 0, .int .i64 0, .int .i64 0, .int .i64 0, .int .i64 0, .int .i64 0, .int .i64 0, .int .i64 0] 37)).setCells w3.heap.size 0 cs = w4 at *) | (refine wpList_store_mid rfl 37 (.tmp 2) (.tmp 24) rfl bz 0 _ rfl rfl hthZ (by kernel_rfl) (all_oneCell_toArray (by simp [Value.oneCell'])) ?_))
    try simp only [Exit.inBlock, Exit.then]
    refine bodyPost_ret (results_cell_bx2 rfl _ _ bz _ _ rfl hR0.range Try.underlying37 rfl (by kernel_rfl)) rfl ?_
    exact ⟨_, by rw [HN.out]; rfl, by rw [HN.out]; exact fun _ _ _ => HZZ.out _, Kp.setCells (Nat.le_of_eq HBZ.out) _ 0 _ kw4⟩
set_option maxRecDepth 8000 in
set_option maxHeartbeats 4000000 in
theorem rDecodeBase_any (bs : List UInt8) (w : World) (HZ : ∀ w, (VA rdBaseC) w (.agg #[.slice none 0 0, .int .i64 0, .slice none 0 0, .slice none 0 0, .slice none 0 0, .slice none 0 0, .slice none 0 0]) zB) : Calls Try.prog 35 #[strV bs] w (DecEnd (VA rdBaseC) zB (readE baseP bs) w) := by
  have HZZ := hid HZ
  clear HZ
  have k0 := (Kp.refl w).alloc (.cells #[.slice none 0 0, .int .i64 0, .slice none 0 0, .slice none 0 0, .slice none 0 0, .slice none 0 0, .slice none 0 0] 42)
  have hZ := Bx.new w #[.slice none 0 0, .int .i64 0, .slice none 0 0, .slice none 0 0, .slice none 0 0, .slice none 0 0, .slice none 0 0] 42
  have hlz := hZ.lt (by simp)
  go_enter Try.func35, Try.ntmps35
  go_wp2_with fail
  generalize w.alloc (.cells #[.slice none 0 0, .int .i64 0, .slice none 0 0, .slice none 0 0, .slice none 0 0, .slice none 0 0, .slice none 0 0] 42) = w0 at *
  generalize hbz : w.heap.size = bz at *
  have HBZ := hid hbz
  clear hbz
  refine (rDecode_any bs w0).mono ?_
  rintro e w1 ⟨v, rfl, own, k1⟩
  have hlen := decE_len bs
  generalize hd : decE bs = d at *
  have HD := hid hd
  clear hd
  obtain ⟨l, er⟩ := d
  dsimp only at own hlen ⊢
  obtain ⟨A, c, rfl, hcc, hmm⟩ := own.form
  have hint := own.sl encInt_len
  replace hZ := hZ.keep (k1.block hlz)
  replace hlz := Nat.lt_of_lt_of_le hlz k1.size
  have hbz1 := hlz
  have k01 := k0.trans k1
  have k2 := (Kp.refl w1).alloc (.cells #[.slice A l.length c, .bool false] 125)
  have hrd : Rdr w1 (w1.alloc (.cells #[.slice A l.length c, .bool false] 125)) w1.heap.size l false :=
    ⟨k2, Nat.le_refl _, by omega, _, hint, alloc_cell w1 _ _ 0 rfl, alloc_frozen w1 _ _ 0, alloc_cell w1 _ _ 1 rfl, alloc_frozen w1 _ _ 1⟩
  have hs2 : (w1.alloc (.cells #[.slice A l.length c, .bool false] 125)).heap.size = w1.heap.size + 1 := by simp
  replace hZ := hZ.keep (k2.block hlz)
  clear own hint k0 k1
  go_wp2_with fail
  refine (rBase_any w1 w1.heap.size l false _ hrd).mono ?_
  rintro e w3 ⟨v3, x, l3, b3, rfl, ho, hsp, hr3, hk3⟩
  obtain ⟨cs, rfl, hcl, h1⟩ := (va_cells fun _ _ _ h => base_one h) _ _ _ ho.here
  rw [hs2] at ho
  have hsz3 := hk3.size
  rw [hs2] at hsz3
  replace hZ := hZ.keep (World.grownBy.block hk3 bz (by omega) (by simp; omega))
  replace hlz : bz < w3.heap.size := by omega
  have kw3 : Kp w w3 := k01.trans hr3.kp
  have k4 := (Kp.refl w3).alloc (.cells #[.slice none 0 0, .int .i64 0, .slice none 0 0, .slice none 0 0, .slice none 0 0, .slice none 0 0, .slice none 0 0] 42)
  have hth := there_new w3 #[.slice none 0 0, .int .i64 0, .slice none 0 0, .slice none 0 0, .slice none 0 0, .slice none 0 0, .slice none 0 0] 42 cs.length (by rw [hcl]; rfl)
  have hin : (Try.prog.info? 42).map (·.size) = some cs.length := by rw [hcl]; kernel_rfl
  have hB := (Bx.new w3 #[.slice none 0 0, .int .i64 0, .slice none 0 0, .slice none 0 0, .slice none 0 0, .slice none 0 0, .slice none 0 0] 42).all (cs := cs) (by rw [hcl]; rfl)
  have kq : Kp w3 ((w3.alloc (.cells #[.slice none 0 0, .int .i64 0, .slice none 0 0, .slice none 0 0, .slice none 0 0, .slice none 0 0, .slice none 0 0] 42)).setCells w3.heap.size 0 cs) := Kp.setCells (Nat.le_refl _) cs 0 _ k4
  have hr4 := hr3.keep kq
  have ho4 := ho.step kq.size (fun k _ hk2 => kq.block hk2)
  have kw4 := kw3.trans kq
  have hsq : ((w3.alloc (.cells #[.slice none 0 0, .int .i64 0, .slice none 0 0, .slice none 0 0, .slice none 0 0, .slice none 0 0, .slice none 0 0] 42)).setCells w3.heap.size 0 cs).heap.size = w3.heap.size + 1 := by rw [setCells_size]; simp
  replace hZ := hZ.keep (kq.block hlz)
  have hRz := hZ.all (cs := cs) (by rw [hcl]; rfl)
  have hR0 := hZ.self
  have hthZ := hZ.there
  have hthC : ((w3.alloc (.cells #[.slice none 0 0, .int .i64 0, .slice none 0 0, .slice none 0 0, .slice none 0 0, .slice none 0 0, .slice none 0 0] 42)).setCells w3.heap.size 0 cs).there bz 0 cs.length := hZ.thereAt 0 cs.length (by rw [hcl]; exact Nat.le_of_eq rfl)
  clear ho hr3 hk3 kq k4 kw3 k2 hrd
  by_cases he : er = 0
  · subst he
    go_wp2_with (refine wpList_store_mid rfl 42 (.tmp 7) (.tmp 15) rfl w3.heap.size 0 cs.toArray rfl rfl hth hin (all_oneCell_toArray h1) ?_; generalize (w3.alloc (.cells #[.slice none 0 0, .int .i64 0, .slice none 0 0, .slice none 0 0, .slice none 0 0, .slice none 0 0, .slice none 0 0] 42)).setCells w3.heap.size 0 cs = w4 at *)
    refine (rDone_any w1 w1.heap.size l3 b3 w4 hr4).mono ?_
    rintro e w5 ⟨rfl, rfl⟩
    by_cases hok : b3 = false ∧ l3 = []
    · obtain ⟨rfl, rfl⟩ := hok
      have HN : Hid (readE baseP bs = (some x, 0)) := hid (readE_ok HD.out hsp)
      clear hsp
      simp only [Bool.not_false, List.isEmpty_nil, Bool.and_self]
      go_wp2_with (first | (refine wpList_load_mid rfl 42 (.tmp 7) rfl w3.heap.size 0 rfl cs _ hB.range Try.underlying42 rfl hin ?_) | (refine wpList_store_mid rfl 42 (.tmp 2) (.tmp 26) rfl bz 0 cs.toArray rfl rfl hthC hin (all_oneCell_toArray h1) ?_))
      try simp only [Exit.inBlock, Exit.then]
      refine bodyPost_ret (results_cell_bx2 rfl _ _ bz cs _ rfl hRz.range Try.underlying42 rfl hin) rfl ?_
      refine ⟨_, by rw [HN.out]; rfl, ?_, Kp.setCells (Nat.le_of_eq HBZ.out) cs 0 _ kw4⟩
      rw [HN.out]
      have hbz := HBZ.out
      exact (ho4.step (by rw [setCells_size]; exact Nat.le_refl _) (fun k hk1 _ => setCells_block bz k (by omega) cs 0 _)).wide (by omega) (by rw [setCells_size]; omega)
    · have HN : Hid (readE baseP bs = (none, 13)) := hid (readE_bad HD.out hsp (by
        cases b3 with
        | true => exact .inl rfl
        | false =>
          right
          cases l3 with
          | nil => exact absurd ⟨rfl, rfl⟩ hok
          | cons _ _ => simp))
      have hok2 : (!b3 && l3.isEmpty) = false := by
        cases b3 with
        | true => rfl
        | false =>
          cases l3 with
          | nil => exact absurd ⟨rfl, rfl⟩ hok
          | cons _ _ => rfl
      rw [hok2]
      clear hok hok2 hsp
      go_wp2_with (refine wpList_store_mid rfl 42 (.tmp 2) (.tmp 24) rfl bz 0 _ rfl rfl hthZ (by kernel_rfl) (all_oneCell_toArray (by simp [Value.oneCell'])) ?_)
      try simp only [Exit.inBlock, Exit.then]
      refine bodyPost_ret (results_cell_bx2 rfl _ _ bz _ _ rfl hR0.range Try.underlying42 rfl (by kernel_rfl)) rfl ?_
      exact ⟨_, by rw [HN.out]; rfl, by rw [HN.out]; exact fun _ _ _ => HZZ.out _, Kp.setCells (Nat.le_of_eq HBZ.out) _ 0 _ kw4⟩
  · have HN : Hid (readE baseP bs = (none, er)) := hid (readE_err baseP HD.out he)
    have f1 : (er == 0) = false := by simpa using he
    have f2 : (er != 0) = true := by simpa using he
    clear hsp
    go_wp2_with (first | (refine wpList_store_mid rfl 42 (.tmp 7) (.tmp 15) rfl w3.heap.size 0 cs.toArray rfl rfl hth hin (all_oneCell_toArray h1) ?_; generalize (w3.alloc (.cells #[.slice none 0 0, .int .i64 0, .slice none 0 0, .slice none 0 0, .slice none 0 0, .slice none 0 0, .slice none 0 0] 42)).setCells w3.heap.size 0 cs = w4 at *) | (refine wpList_store_mid rfl 42 (.tmp 2) (.tmp 24) rfl bz 0 _ rfl rfl hthZ (by kernel_rfl) (all_oneCell_toArray (by simp [Value.oneCell'])) ?_))
    try simp only [Exit.inBlock, Exit.then]
    refine bodyPost_ret (results_cell_bx2 rfl _ _ bz _ _ rfl hR0.range Try.underlying42 rfl (by kernel_rfl)) rfl ?_
    exact ⟨_, by rw [HN.out]; rfl, by rw [HN.out]; exact fun _ _ _ => HZZ.out _, Kp.setCells (Nat.le_of_eq HBZ.out) _ 0 _ kw4⟩
set_option maxRecDepth 8000 in
set_option maxHeartbeats 4000000 in
theorem rDecodeRecord_any (bs : List UInt8) (w : World) (HZ : ∀ w, (VA rdRecord) w (.agg #[.int .i64 0, .int .i64 0, .int .i64 0, .int .i64 0, .slice none 0 0, .int .i64 0, .int .i64 0, .int .i64 0, .int .i64 0, .int .i64 0, .int .i64 0, .int .i64 0, .int .i64 0, .int .i64 0, .slice none 0 0, .int .i64 0, .slice none 0 0, .slice none 0 0, .slice none 0 0, .slice none 0 0, .slice none 0 0, .int .i64 0, .int .i64 0, .int .i64 0, .int .i64 0, .int .i64 0, .int .i64 0, .int .i64 0, .int .i64 0, .slice none 0 0]) zR) : Calls Try.prog 36 #[strV bs] w (DecEnd (VA rdRecord) zR (readE recordP bs) w) := by
  have HZZ := hid HZ
  clear HZ
  have k0 := (Kp.refl w).alloc (.cells #[.int .i64 0, .int .i64 0, .int .i64 0, .int .i64 0, .slice none 0 0, .int .i64 0, .int .i64 0, .int .i64 0, .int .i64 0, .int .i64 0, .int .i64 0, .int .i64 0, .int .i64 0, .int .i64 0, .slice none 0 0, .int .i64 0, .slice none 0 0, .slice none 0 0, .slice none 0 0, .slice none 0 0, .slice none 0 0, .int .i64 0, .int .i64 0, .int .i64 0, .int .i64 0, .int .i64 0, .int .i64 0, .int .i64 0, .int .i64 0, .slice none 0 0] 46)
  have hZ := Bx.new w #[.int .i64 0, .int .i64 0, .int .i64 0, .int .i64 0, .slice none 0 0, .int .i64 0, .int .i64 0, .int .i64 0, .int .i64 0, .int .i64 0, .int .i64 0, .int .i64 0, .int .i64 0, .int .i64 0, .slice none 0 0, .int .i64 0, .slice none 0 0, .slice none 0 0, .slice none 0 0, .slice none 0 0, .slice none 0 0, .int .i64 0, .int .i64 0, .int .i64 0, .int .i64 0, .int .i64 0, .int .i64 0, .int .i64 0, .int .i64 0, .slice none 0 0] 46
  have hlz := hZ.lt (by simp)
  go_enter Try.func36, Try.ntmps36
  go_wp2_with fail
  generalize w.alloc (.cells #[.int .i64 0, .int .i64 0, .int .i64 0, .int .i64 0, .slice none 0 0, .int .i64 0, .int .i64 0, .int .i64 0, .int .i64 0, .int .i64 0, .int .i64 0, .int .i64 0, .int .i64 0, .int .i64 0, .slice none 0 0, .int .i64 0, .slice none 0 0, .slice none 0 0, .slice none 0 0, .slice none 0 0, .slice none 0 0, .int .i64 0, .int .i64 0, .int .i64 0, .int .i64 0, .int .i64 0, .int .i64 0, .int .i64 0, .int .i64 0, .slice none 0 0] 46) = w0 at *
  generalize hbz : w.heap.size = bz at *
  have HBZ := hid hbz
  clear hbz
  refine (rDecode_any bs w0).mono ?_
  rintro e w1 ⟨v, rfl, own, k1⟩
  have hlen := decE_len bs
  generalize hd : decE bs = d at *
  have HD := hid hd
  clear hd
  obtain ⟨l, er⟩ := d
  dsimp only at own hlen ⊢
  obtain ⟨A, c, rfl, hcc, hmm⟩ := own.form
  have hint := own.sl encInt_len
  replace hZ := hZ.keep (k1.block hlz)
  replace hlz := Nat.lt_of_lt_of_le hlz k1.size
  have hbz1 := hlz
  have k01 := k0.trans k1
  have k2 := (Kp.refl w1).alloc (.cells #[.slice A l.length c, .bool false] 125)
  have hrd : Rdr w1 (w1.alloc (.cells #[.slice A l.length c, .bool false] 125)) w1.heap.size l false :=
    ⟨k2, Nat.le_refl _, by omega, _, hint, alloc_cell w1 _ _ 0 rfl, alloc_frozen w1 _ _ 0, alloc_cell w1 _ _ 1 rfl, alloc_frozen w1 _ _ 1⟩
  have hs2 : (w1.alloc (.cells #[.slice A l.length c, .bool false] 125)).heap.size = w1.heap.size + 1 := by simp
  replace hZ := hZ.keep (k2.block hlz)
  clear own hint k0 k1
  go_wp2_with fail
  refine (rRecord_any w1 w1.heap.size l false _ hrd).mono ?_
  rintro e w3 ⟨v3, x, l3, b3, rfl, ho, hsp, hr3, hk3⟩
  obtain ⟨cs, rfl, hcl, h1⟩ := (va_cells fun _ _ _ h => rdRecord_one h) _ _ _ ho.here
  rw [hs2] at ho
  have hsz3 := hk3.size
  rw [hs2] at hsz3
  replace hZ := hZ.keep (World.grownBy.block hk3 bz (by omega) (by simp; omega))
  replace hlz : bz < w3.heap.size := by omega
  have kw3 : Kp w w3 := k01.trans hr3.kp
  have k4 := (Kp.refl w3).alloc (.cells #[.int .i64 0, .int .i64 0, .int .i64 0, .int .i64 0, .slice none 0 0, .int .i64 0, .int .i64 0, .int .i64 0, .int .i64 0, .int .i64 0, .int .i64 0, .int .i64 0, .int .i64 0, .int .i64 0, .slice none 0 0, .int .i64 0, .slice none 0 0, .slice none 0 0, .slice none 0 0, .slice none 0 0, .slice none 0 0, .int .i64 0, .int .i64 0, .int .i64 0, .int .i64 0, .int .i64 0, .int .i64 0, .int .i64 0, .int .i64 0, .slice none 0 0] 46)
  have hth := there_new w3 #[.int .i64 0, .int .i64 0, .int .i64 0, .int .i64 0, .slice none 0 0, .int .i64 0, .int .i64 0, .int .i64 0, .int .i64 0, .int .i64 0, .int .i64 0, .int .i64 0, .int .i64 0, .int .i64 0, .slice none 0 0, .int .i64 0, .slice none 0 0, .slice none 0 0, .slice none 0 0, .slice none 0 0, .slice none 0 0, .int .i64 0, .int .i64 0, .int .i64 0, .int .i64 0, .int .i64 0, .int .i64 0, .int .i64 0, .int .i64 0, .slice none 0 0] 46 cs.length (by rw [hcl]; rfl)
  have hin : (Try.prog.info? 46).map (·.size) = some cs.length := by rw [hcl]; kernel_rfl
  have hB := (Bx.new w3 #[.int .i64 0, .int .i64 0, .int .i64 0, .int .i64 0, .slice none 0 0, .int .i64 0, .int .i64 0, .int .i64 0, .int .i64 0, .int .i64 0, .int .i64 0, .int .i64 0, .int .i64 0, .int .i64 0, .slice none 0 0, .int .i64 0, .slice none 0 0, .slice none 0 0, .slice none 0 0, .slice none 0 0, .slice none 0 0, .int .i64 0, .int .i64 0, .int .i64 0, .int .i64 0, .int .i64 0, .int .i64 0, .int .i64 0, .int .i64 0, .slice none 0 0] 46).all (cs := cs) (by rw [hcl]; rfl)
  have kq : Kp w3 ((w3.alloc (.cells #[.int .i64 0, .int .i64 0, .int .i64 0, .int .i64 0, .slice none 0 0, .int .i64 0, .int .i64 0, .int .i64 0, .int .i64 0, .int .i64 0, .int .i64 0, .int .i64 0, .int .i64 0, .int .i64 0, .slice none 0 0, .int .i64 0, .slice none 0 0, .slice none 0 0, .slice none 0 0, .slice none 0 0, .slice none 0 0, .int .i64 0, .int .i64 0, .int .i64 0, .int .i64 0, .int .i64 0, .int .i64 0, .int .i64 0, .int .i64 0, .slice none 0 0] 46)).setCells w3.heap.size 0 cs) := Kp.setCells (Nat.le_refl _) cs 0 _ k4
  have hr4 := hr3.keep kq
  have ho4 := ho.step kq.size (fun k _ hk2 => kq.block hk2)
  have kw4 := kw3.trans kq
  have hsq : ((w3.alloc (.cells #[.int .i64 0, .int .i64 0, .int .i64 0, .int .i64 0, .slice none 0 0, .int .i64 0, .int .i64 0, .int .i64 0, .int .i64 0, .int .i64 0, .int .i64 0, .int .i64 0, .int .i64 0, .int .i64 0, .slice none 0 0, .int .i64 0, .slice none 0 0, .slice none 0 0, .slice none 0 0, .slice none 0 0, .slice none 0 0, .int .i64 0, .int .i64 0, .int .i64 0, .int .i64 0, .int .i64 0, .int .i64 0, .int .i64 0, .int .i64 0, .slice none 0 0] 46)).setCells w3.heap.size 0 cs).heap.size = w3.heap.size + 1 := by rw [setCells_size]; simp
  replace hZ := hZ.keep (kq.block hlz)
  have hRz := hZ.all (cs := cs) (by rw [hcl]; rfl)
  have hR0 := hZ.self
  have hthZ := hZ.there
  have hthC : ((w3.alloc (.cells #[.int .i64 0, .int .i64 0, .int .i64 0, .int .i64 0, .slice none 0 0, .int .i64 0, .int .i64 0, .int .i64 0, .int .i64 0, .int .i64 0, .int .i64 0, .int .i64 0, .int .i64 0, .int .i64 0, .slice none 0 0, .int .i64 0, .slice none 0 0, .slice none 0 0, .slice none 0 0, .slice none 0 0, .slice none 0 0, .int .i64 0, .int .i64 0, .int .i64 0, .int .i64 0, .int .i64 0, .int .i64 0, .int .i64 0, .int .i64 0, .slice none 0 0] 46)).setCells w3.heap.size 0 cs).there bz 0 cs.length := hZ.thereAt 0 cs.length (by rw [hcl]; exact Nat.le_of_eq rfl)
  clear ho hr3 hk3 kq k4 kw3 k2 hrd
  by_cases he : er = 0
  · subst he
    go_wp2_with (refine wpList_store_mid rfl 46 (.tmp 7) (.tmp 15) rfl w3.heap.size 0 cs.toArray rfl rfl hth hin (all_oneCell_toArray h1) ?_; generalize (w3.alloc (.cells #[.int .i64 0, .int .i64 0, .int .i64 0, .int .i64 0, .slice none 0 0, .int .i64 0, .int .i64 0, .int .i64 0, .int .i64 0, .int .i64 0, .int .i64 0, .int .i64 0, .int .i64 0, .int .i64 0, .slice none 0 0, .int .i64 0, .slice none 0 0, .slice none 0 0, .slice none 0 0, .slice none 0 0, .slice none 0 0, .int .i64 0, .int .i64 0, .int .i64 0, .int .i64 0, .int .i64 0, .int .i64 0, .int .i64 0, .int .i64 0, .slice none 0 0] 46)).setCells w3.heap.size 0 cs = w4 at *)
    refine (rDone_any w1 w1.heap.size l3 b3 w4 hr4).mono ?_
    rintro e w5 ⟨rfl, rfl⟩
    by_cases hok : b3 = false ∧ l3 = []
    · obtain ⟨rfl, rfl⟩ := hok
      have HN : Hid (readE recordP bs = (some x, 0)) := hid (readE_ok HD.out hsp)
      clear hsp
      simp only [Bool.not_false, List.isEmpty_nil, Bool.and_self]
      go_wp2_with (first | (refine wpList_load_mid rfl 46 (.tmp 7) rfl w3.heap.size 0 rfl cs _ hB.range Try.underlying46 rfl hin ?_) | (refine wpList_store_mid rfl 46 (.tmp 2) (.tmp 26) rfl bz 0 cs.toArray rfl rfl hthC hin (all_oneCell_toArray h1) ?_))
      try simp only [Exit.inBlock, Exit.then]
      refine bodyPost_ret (results_cell_bx2 rfl _ _ bz cs _ rfl hRz.range Try.underlying46 rfl hin) rfl ?_
      refine ⟨_, by rw [HN.out]; rfl, ?_, Kp.setCells (Nat.le_of_eq HBZ.out) cs 0 _ kw4⟩
      rw [HN.out]
      have hbz := HBZ.out
      exact (ho4.step (by rw [setCells_size]; exact Nat.le_refl _) (fun k hk1 _ => setCells_block bz k (by omega) cs 0 _)).wide (by omega) (by rw [setCells_size]; omega)
    · have HN : Hid (readE recordP bs = (none, 13)) := hid (readE_bad HD.out hsp (by
        cases b3 with
        | true => exact .inl rfl
        | false =>
          right
          cases l3 with
          | nil => exact absurd ⟨rfl, rfl⟩ hok
          | cons _ _ => simp))
      have hok2 : (!b3 && l3.isEmpty) = false := by
        cases b3 with
        | true => rfl
        | false =>
          cases l3 with
          | nil => exact absurd ⟨rfl, rfl⟩ hok
          | cons _ _ => rfl
      rw [hok2]
      clear hok hok2 hsp
      go_wp2_with (refine wpList_store_mid rfl 46 (.tmp 2) (.tmp 24) rfl bz 0 _ rfl rfl hthZ (by kernel_rfl) (all_oneCell_toArray (by simp [Value.oneCell'])) ?_)
      try simp only [Exit.inBlock, Exit.then]
      refine bodyPost_ret (results_cell_bx2 rfl _ _ bz _ _ rfl hR0.range Try.underlying46 rfl (by kernel_rfl)) rfl ?_
      exact ⟨_, by rw [HN.out]; rfl, by rw [HN.out]; exact fun _ _ _ => HZZ.out _, Kp.setCells (Nat.le_of_eq HBZ.out) _ 0 _ kw4⟩
  · have HN : Hid (readE recordP bs = (none, er)) := hid (readE_err recordP HD.out he)
    have f1 : (er == 0) = false := by simpa using he
    have f2 : (er != 0) = true := by simpa using he
    clear hsp
    go_wp2_with (first | (refine wpList_store_mid rfl 46 (.tmp 7) (.tmp 15) rfl w3.heap.size 0 cs.toArray rfl rfl hth hin (all_oneCell_toArray h1) ?_; generalize (w3.alloc (.cells #[.int .i64 0, .int .i64 0, .int .i64 0, .int .i64 0, .slice none 0 0, .int .i64 0, .int .i64 0, .int .i64 0, .int .i64 0, .int .i64 0, .int .i64 0, .int .i64 0, .int .i64 0, .int .i64 0, .slice none 0 0, .int .i64 0, .slice none 0 0, .slice none 0 0, .slice none 0 0, .slice none 0 0, .slice none 0 0, .int .i64 0, .int .i64 0, .int .i64 0, .int .i64 0, .int .i64 0, .int .i64 0, .int .i64 0, .int .i64 0, .slice none 0 0] 46)).setCells w3.heap.size 0 cs = w4 at *) | (refine wpList_store_mid rfl 46 (.tmp 2) (.tmp 24) rfl bz 0 _ rfl rfl hthZ (by kernel_rfl) (all_oneCell_toArray (by simp [Value.oneCell'])) ?_))
    try simp only [Exit.inBlock, Exit.then]
    refine bodyPost_ret (results_cell_bx2 rfl _ _ bz _ _ rfl hR0.range Try.underlying46 rfl (by kernel_rfl)) rfl ?_
    exact ⟨_, by rw [HN.out]; rfl, by rw [HN.out]; exact fun _ _ _ => HZZ.out _, Kp.setCells (Nat.le_of_eq HBZ.out) _ 0 _ kw4⟩
set_option maxRecDepth 8000 in
set_option maxHeartbeats 4000000 in
theorem rDecodeMessage_any (bs : List UInt8) (w : World) (HZ : ∀ w, MessageV w (.agg #[.int .i64 0, .int .i64 0, .int .i64 0, .slice none 0 0, .slice none 0 0, .slice none 0 0, .int .i64 0, .int .i64 0, .int .i64 0, .int .i64 0, .int .i64 0, .slice none 0 0, .int .i64 0, .int .i64 0, .int .i64 0, .int .i64 0, .bool false, .slice none 0 0]) zM) : Calls Try.prog 38 #[strV bs] w (DecEnd MessageV zM (readE messageP bs) w) := by
  have HZZ := hid HZ
  clear HZ
  have k0 := (Kp.refl w).alloc (.cells #[.int .i64 0, .int .i64 0, .int .i64 0, .slice none 0 0, .slice none 0 0, .slice none 0 0, .int .i64 0, .int .i64 0, .int .i64 0, .int .i64 0, .int .i64 0, .slice none 0 0, .int .i64 0, .int .i64 0, .int .i64 0, .int .i64 0, .bool false, .slice none 0 0] 78)
  have hZ := Bx.new w #[.int .i64 0, .int .i64 0, .int .i64 0, .slice none 0 0, .slice none 0 0, .slice none 0 0, .int .i64 0, .int .i64 0, .int .i64 0, .int .i64 0, .int .i64 0, .slice none 0 0, .int .i64 0, .int .i64 0, .int .i64 0, .int .i64 0, .bool false, .slice none 0 0] 78
  have hlz := hZ.lt (by simp)
  go_enter Try.func38, Try.ntmps38
  go_wp2_with fail
  generalize w.alloc (.cells #[.int .i64 0, .int .i64 0, .int .i64 0, .slice none 0 0, .slice none 0 0, .slice none 0 0, .int .i64 0, .int .i64 0, .int .i64 0, .int .i64 0, .int .i64 0, .slice none 0 0, .int .i64 0, .int .i64 0, .int .i64 0, .int .i64 0, .bool false, .slice none 0 0] 78) = w0 at *
  generalize hbz : w.heap.size = bz at *
  have HBZ := hid hbz
  clear hbz
  refine (rDecode_any bs w0).mono ?_
  rintro e w1 ⟨v, rfl, own, k1⟩
  have hlen := decE_len bs
  generalize hd : decE bs = d at *
  have HD := hid hd
  clear hd
  obtain ⟨l, er⟩ := d
  dsimp only at own hlen ⊢
  obtain ⟨A, c, rfl, hcc, hmm⟩ := own.form
  have hint := own.sl encInt_len
  replace hZ := hZ.keep (k1.block hlz)
  replace hlz := Nat.lt_of_lt_of_le hlz k1.size
  have hbz1 := hlz
  have k01 := k0.trans k1
  have k2 := (Kp.refl w1).alloc (.cells #[.slice A l.length c, .bool false] 125)
  have hrd : Rdr w1 (w1.alloc (.cells #[.slice A l.length c, .bool false] 125)) w1.heap.size l false :=
    ⟨k2, Nat.le_refl _, by omega, _, hint, alloc_cell w1 _ _ 0 rfl, alloc_frozen w1 _ _ 0, alloc_cell w1 _ _ 1 rfl, alloc_frozen w1 _ _ 1⟩
  have hs2 : (w1.alloc (.cells #[.slice A l.length c, .bool false] 125)).heap.size = w1.heap.size + 1 := by simp
  replace hZ := hZ.keep (k2.block hlz)
  clear own hint k0 k1
  go_wp2_with fail
  refine (rMessage_any w1 w1.heap.size l false _ hrd).mono ?_
  rintro e w3 ⟨v3, x, l3, b3, rfl, ho, hsp, hr3, hk3⟩
  obtain ⟨cs, rfl, hcl, h1⟩ := message_cells _ _ _ ho.here
  rw [hs2] at ho
  have hsz3 := hk3.size
  rw [hs2] at hsz3
  replace hZ := hZ.keep (World.grownBy.block hk3 bz (by omega) (by simp; omega))
  replace hlz : bz < w3.heap.size := by omega
  have kw3 : Kp w w3 := k01.trans hr3.kp
  have k4 := (Kp.refl w3).alloc (.cells #[.int .i64 0, .int .i64 0, .int .i64 0, .slice none 0 0, .slice none 0 0, .slice none 0 0, .int .i64 0, .int .i64 0, .int .i64 0, .int .i64 0, .int .i64 0, .slice none 0 0, .int .i64 0, .int .i64 0, .int .i64 0, .int .i64 0, .bool false, .slice none 0 0] 78)
  have hth := there_new w3 #[.int .i64 0, .int .i64 0, .int .i64 0, .slice none 0 0, .slice none 0 0, .slice none 0 0, .int .i64 0, .int .i64 0, .int .i64 0, .int .i64 0, .int .i64 0, .slice none 0 0, .int .i64 0, .int .i64 0, .int .i64 0, .int .i64 0, .bool false, .slice none 0 0] 78 cs.length (by rw [hcl]; rfl)
  have hin : (Try.prog.info? 78).map (·.size) = some cs.length := by rw [hcl]; kernel_rfl
  have hB := (Bx.new w3 #[.int .i64 0, .int .i64 0, .int .i64 0, .slice none 0 0, .slice none 0 0, .slice none 0 0, .int .i64 0, .int .i64 0, .int .i64 0, .int .i64 0, .int .i64 0, .slice none 0 0, .int .i64 0, .int .i64 0, .int .i64 0, .int .i64 0, .bool false, .slice none 0 0] 78).all (cs := cs) (by rw [hcl]; rfl)
  have kq : Kp w3 ((w3.alloc (.cells #[.int .i64 0, .int .i64 0, .int .i64 0, .slice none 0 0, .slice none 0 0, .slice none 0 0, .int .i64 0, .int .i64 0, .int .i64 0, .int .i64 0, .int .i64 0, .slice none 0 0, .int .i64 0, .int .i64 0, .int .i64 0, .int .i64 0, .bool false, .slice none 0 0] 78)).setCells w3.heap.size 0 cs) := Kp.setCells (Nat.le_refl _) cs 0 _ k4
  have hr4 := hr3.keep kq
  have ho4 := ho.step kq.size (fun k _ hk2 => kq.block hk2)
  have kw4 := kw3.trans kq
  have hsq : ((w3.alloc (.cells #[.int .i64 0, .int .i64 0, .int .i64 0, .slice none 0 0, .slice none 0 0, .slice none 0 0, .int .i64 0, .int .i64 0, .int .i64 0, .int .i64 0, .int .i64 0, .slice none 0 0, .int .i64 0, .int .i64 0, .int .i64 0, .int .i64 0, .bool false, .slice none 0 0] 78)).setCells w3.heap.size 0 cs).heap.size = w3.heap.size + 1 := by rw [setCells_size]; simp
  replace hZ := hZ.keep (kq.block hlz)
  have hRz := hZ.all (cs := cs) (by rw [hcl]; rfl)
  have hR0 := hZ.self
  have hthZ := hZ.there
  have hthC : ((w3.alloc (.cells #[.int .i64 0, .int .i64 0, .int .i64 0, .slice none 0 0, .slice none 0 0, .slice none 0 0, .int .i64 0, .int .i64 0, .int .i64 0, .int .i64 0, .int .i64 0, .slice none 0 0, .int .i64 0, .int .i64 0, .int .i64 0, .int .i64 0, .bool false, .slice none 0 0] 78)).setCells w3.heap.size 0 cs).there bz 0 cs.length := hZ.thereAt 0 cs.length (by rw [hcl]; exact Nat.le_of_eq rfl)
  clear ho hr3 hk3 kq k4 kw3 k2 hrd
  by_cases he : er = 0
  · subst he
    go_wp2_with (refine wpList_store_mid rfl 78 (.tmp 7) (.tmp 15) rfl w3.heap.size 0 cs.toArray rfl rfl hth hin (all_oneCell_toArray h1) ?_; generalize (w3.alloc (.cells #[.int .i64 0, .int .i64 0, .int .i64 0, .slice none 0 0, .slice none 0 0, .slice none 0 0, .int .i64 0, .int .i64 0, .int .i64 0, .int .i64 0, .int .i64 0, .slice none 0 0, .int .i64 0, .int .i64 0, .int .i64 0, .int .i64 0, .bool false, .slice none 0 0] 78)).setCells w3.heap.size 0 cs = w4 at *)
    refine (rDone_any w1 w1.heap.size l3 b3 w4 hr4).mono ?_
    rintro e w5 ⟨rfl, rfl⟩
    by_cases hok : b3 = false ∧ l3 = []
    · obtain ⟨rfl, rfl⟩ := hok
      have HN : Hid (readE messageP bs = (some x, 0)) := hid (readE_ok HD.out hsp)
      clear hsp
      simp only [Bool.not_false, List.isEmpty_nil, Bool.and_self]
      go_wp2_with (first | (refine wpList_load_mid rfl 78 (.tmp 7) rfl w3.heap.size 0 rfl cs _ hB.range Try.underlying78 rfl hin ?_) | (refine wpList_store_mid rfl 78 (.tmp 2) (.tmp 26) rfl bz 0 cs.toArray rfl rfl hthC hin (all_oneCell_toArray h1) ?_))
      try simp only [Exit.inBlock, Exit.then]
      refine bodyPost_ret (results_cell_bx2 rfl _ _ bz cs _ rfl hRz.range Try.underlying78 rfl hin) rfl ?_
      refine ⟨_, by rw [HN.out]; rfl, ?_, Kp.setCells (Nat.le_of_eq HBZ.out) cs 0 _ kw4⟩
      rw [HN.out]
      have hbz := HBZ.out
      exact (ho4.step (by rw [setCells_size]; exact Nat.le_refl _) (fun k hk1 _ => setCells_block bz k (by omega) cs 0 _)).wide (by omega) (by rw [setCells_size]; omega)
    · have HN : Hid (readE messageP bs = (none, 13)) := hid (readE_bad HD.out hsp (by
        cases b3 with
        | true => exact .inl rfl
        | false =>
          right
          cases l3 with
          | nil => exact absurd ⟨rfl, rfl⟩ hok
          | cons _ _ => simp))
      have hok2 : (!b3 && l3.isEmpty) = false := by
        cases b3 with
        | true => rfl
        | false =>
          cases l3 with
          | nil => exact absurd ⟨rfl, rfl⟩ hok
          | cons _ _ => rfl
      rw [hok2]
      clear hok hok2 hsp
      go_wp2_with (refine wpList_store_mid rfl 78 (.tmp 2) (.tmp 24) rfl bz 0 _ rfl rfl hthZ (by kernel_rfl) (all_oneCell_toArray (by simp [Value.oneCell'])) ?_)
      try simp only [Exit.inBlock, Exit.then]
      refine bodyPost_ret (results_cell_bx2 rfl _ _ bz _ _ rfl hR0.range Try.underlying78 rfl (by kernel_rfl)) rfl ?_
      exact ⟨_, by rw [HN.out]; rfl, by rw [HN.out]; exact fun _ _ _ => HZZ.out _, Kp.setCells (Nat.le_of_eq HBZ.out) _ 0 _ kw4⟩
  · have HN : Hid (readE messageP bs = (none, er)) := hid (readE_err messageP HD.out he)
    have f1 : (er == 0) = false := by simpa using he
    have f2 : (er != 0) = true := by simpa using he
    clear hsp
    go_wp2_with (first | (refine wpList_store_mid rfl 78 (.tmp 7) (.tmp 15) rfl w3.heap.size 0 cs.toArray rfl rfl hth hin (all_oneCell_toArray h1) ?_; generalize (w3.alloc (.cells #[.int .i64 0, .int .i64 0, .int .i64 0, .slice none 0 0, .slice none 0 0, .slice none 0 0, .int .i64 0, .int .i64 0, .int .i64 0, .int .i64 0, .int .i64 0, .slice none 0 0, .int .i64 0, .int .i64 0, .int .i64 0, .int .i64 0, .bool false, .slice none 0 0] 78)).setCells w3.heap.size 0 cs = w4 at *) | (refine wpList_store_mid rfl 78 (.tmp 2) (.tmp 24) rfl bz 0 _ rfl rfl hthZ (by kernel_rfl) (all_oneCell_toArray (by simp [Value.oneCell'])) ?_))
    try simp only [Exit.inBlock, Exit.then]
    refine bodyPost_ret (results_cell_bx2 rfl _ _ bz _ _ rfl hR0.range Try.underlying78 rfl (by kernel_rfl)) rfl ?_
    exact ⟨_, by rw [HN.out]; rfl, by rw [HN.out]; exact fun _ _ _ => HZZ.out _, Kp.setCells (Nat.le_of_eq HBZ.out) _ 0 _ kw4⟩
end Go.Proofs.Ytmeafoakbkjifaa
