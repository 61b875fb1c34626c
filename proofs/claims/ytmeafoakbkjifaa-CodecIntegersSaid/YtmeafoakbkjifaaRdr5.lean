
/-
The reader: structs without lists.
-/
import Derived.Test.YtmeafoakbkjifaaRdr4
namespace Go.Proofs.Ytmeafoakbkjifaa
set_option linter.unusedSimpArgs false
set_option linter.unusedVariables false
open Go.RowKit

set_option maxHeartbeats 1000000 in
theorem rdNeed_any (W0 : World) (g : Nat) (l : List Int) (bad : Bool) (w : World) (hr : Rdr W0 w g l bad) : Reads W0 g needP (VA (Pl encNeed)) l bad 95 #[.pointer (some ⟨g, 0, none⟩)] w := by
  have hg := hr.lt
  have hlo := hr.lo
  have k0 := (Kp.refl w).alloc (.cells #[.int .i64 0, .int .i64 0, .int .i64 0, .int .i64 0] 35)
  have hr0 := hr.keep k0
  have hB0 := Bx.new w #[.int .i64 0, .int .i64 0, .int .i64 0, .int .i64 0] 35
  have hg0 := k0.kg g
  go_enter Try.func95, Try.ntmps95
  go_wp2_with fail
  try rw [← World.size_alloc w (.cells #[.int .i64 0, .int .i64 0, .int .i64 0, .int .i64 0] 35)]
  generalize w.alloc (.cells #[.int .i64 0, .int .i64 0, .int .i64 0, .int .i64 0] 35) = w0 at *
  generalize hb : w.heap.size = b at *
  have HB := hid hb
  clear hb k0 hr
  have hK0 := Kb.refl g b w0
  have hlob : W0.heap.size ≤ b := by omega
  refine (into_lit W0 g b 0 4 _ _ _ w0 _ hr0 hg hB0 (by simp) (by simp) (by simp) rfl).mono ?_
  rintro e w1 ⟨rfl, xs, l1, bad1, hx, hs1, hr1, hB1, hk1⟩
  obtain ⟨x0, x1, x2, x3, rfl⟩ := len4 hx
  simp [putI] at hB1
  have hK1 := hK0.trans hk1
  try replace hoA := hoA.kb2 hk1 hg
  try replace hoB := hoB.kb2 hk1 hg
  try replace hoC := hoC.kb2 hk1 hg
  try replace hoD := hoD.kb2 hk1 hg
  try replace hoE := hoE.kb2 hk1 hg
  try replace hoF := hoF.kb2 hk1 hg
  try replace hcp := Kb.cell0 hk1 hcp hag hab
  clear hx hk1 hB0 hr0 hK0
  go_wp2_with (first | (refine wpList_load_mid rfl 35 (.tmp 2) rfl b 0 rfl _ _ hB1.range Try.underlying35 rfl (by kernel_rfl) ?_) | (refine wpList_store_mid rfl 35 (.tmp 2) (.tmp 13) rfl b 0 _ rfl rfl hB1.there (by kernel_rfl) (all_oneCell_toArray (by simp [Value.oneCell'])) ?_))
  try simp only [Exit.inBlock, Exit.then]
  refine bodyPost_ret (results_cell_bx rfl _ _ b _ _ rfl (hB1.self.range) Try.underlying35 rfl (by kernel_rfl)) rfl ?_
  refine fin_end hB1 hK1 hg0 (Nat.le_of_eq HB.out) hr1 hlob hg (x := (⟨x0, x1, x2, x3⟩ : Need)) ?ow ?sp
  case ow => exact fun _ _ _ => ⟨_, rfl, rfl⟩
  case sp => exact SpecP.of_eq (many4 _) (hs1.bind (SpecP.ret _ _ _))
set_option maxHeartbeats 1000000 in
theorem rdMark_any (W0 : World) (g : Nat) (l : List Int) (bad : Bool) (w : World) (hr : Rdr W0 w g l bad) : Reads W0 g markP (VA (Pl encMark)) l bad 128 #[.pointer (some ⟨g, 0, none⟩)] w := by
  have hg := hr.lt
  have hlo := hr.lo
  have k0 := (Kp.refl w).alloc (.cells #[.int .i64 0, .int .i64 0, .int .i64 0, .int .i64 0] 101)
  have hr0 := hr.keep k0
  have hB0 := Bx.new w #[.int .i64 0, .int .i64 0, .int .i64 0, .int .i64 0] 101
  have hg0 := k0.kg g
  go_enter Try.func128, Try.ntmps128
  go_wp2_with fail
  try rw [← World.size_alloc w (.cells #[.int .i64 0, .int .i64 0, .int .i64 0, .int .i64 0] 101)]
  generalize w.alloc (.cells #[.int .i64 0, .int .i64 0, .int .i64 0, .int .i64 0] 101) = w0 at *
  generalize hb : w.heap.size = b at *
  have HB := hid hb
  clear hb k0 hr
  have hK0 := Kb.refl g b w0
  have hlob : W0.heap.size ≤ b := by omega
  refine (into_lit W0 g b 0 4 _ _ _ w0 _ hr0 hg hB0 (by simp) (by simp) (by simp) rfl).mono ?_
  rintro e w1 ⟨rfl, xs, l1, bad1, hx, hs1, hr1, hB1, hk1⟩
  obtain ⟨x0, x1, x2, x3, rfl⟩ := len4 hx
  simp [putI] at hB1
  have hK1 := hK0.trans hk1
  try replace hoA := hoA.kb2 hk1 hg
  try replace hoB := hoB.kb2 hk1 hg
  try replace hoC := hoC.kb2 hk1 hg
  try replace hoD := hoD.kb2 hk1 hg
  try replace hoE := hoE.kb2 hk1 hg
  try replace hoF := hoF.kb2 hk1 hg
  try replace hcp := Kb.cell0 hk1 hcp hag hab
  clear hx hk1 hB0 hr0 hK0
  go_wp2_with (first | (refine wpList_load_mid rfl 101 (.tmp 2) rfl b 0 rfl _ _ hB1.range Try.underlying101 rfl (by kernel_rfl) ?_) | (refine wpList_store_mid rfl 101 (.tmp 2) (.tmp 10) rfl b 0 _ rfl rfl hB1.there (by kernel_rfl) (all_oneCell_toArray (by simp [Value.oneCell'])) ?_))
  try simp only [Exit.inBlock, Exit.then]
  refine bodyPost_ret (results_cell_bx rfl _ _ b _ _ rfl (hB1.self.range) Try.underlying101 rfl (by kernel_rfl)) rfl ?_
  refine fin_end hB1 hK1 hg0 (Nat.le_of_eq HB.out) hr1 hlob hg (x := (⟨x0, x1, x2, x3⟩ : Mark)) ?ow ?sp
  case ow => exact fun _ _ _ => ⟨_, rfl, rfl⟩
  case sp => exact SpecP.of_eq (many4 _) (hs1.bind (SpecP.ret _ _ _))
set_option maxHeartbeats 1000000 in
theorem rdSpan_any (W0 : World) (g : Nat) (l : List Int) (bad : Bool) (w : World) (hr : Rdr W0 w g l bad) : Reads W0 g spanP (VA (Pl encSpan)) l bad 108 #[.pointer (some ⟨g, 0, none⟩)] w := by
  have hg := hr.lt
  have hlo := hr.lo
  have k0 := (Kp.refl w).alloc (.cells #[.int .i64 0, .int .i64 0, .int .i64 0] 131)
  have hr0 := hr.keep k0
  have hB0 := Bx.new w #[.int .i64 0, .int .i64 0, .int .i64 0] 131
  have hg0 := k0.kg g
  go_enter Try.func108, Try.ntmps108
  go_wp2_with fail
  try rw [← World.size_alloc w (.cells #[.int .i64 0, .int .i64 0, .int .i64 0] 131)]
  generalize w.alloc (.cells #[.int .i64 0, .int .i64 0, .int .i64 0] 131) = w0 at *
  generalize hb : w.heap.size = b at *
  have HB := hid hb
  clear hb k0 hr
  have hK0 := Kb.refl g b w0
  have hlob : W0.heap.size ≤ b := by omega
  refine (into_lit W0 g b 0 3 _ _ _ w0 _ hr0 hg hB0 (by simp) (by simp) (by simp) rfl).mono ?_
  rintro e w1 ⟨rfl, xs, l1, bad1, hx, hs1, hr1, hB1, hk1⟩
  obtain ⟨x0, x1, x2, rfl⟩ := len3 hx
  simp [putI] at hB1
  have hK1 := hK0.trans hk1
  try replace hoA := hoA.kb2 hk1 hg
  try replace hoB := hoB.kb2 hk1 hg
  try replace hoC := hoC.kb2 hk1 hg
  try replace hoD := hoD.kb2 hk1 hg
  try replace hoE := hoE.kb2 hk1 hg
  try replace hoF := hoF.kb2 hk1 hg
  try replace hcp := Kb.cell0 hk1 hcp hag hab
  clear hx hk1 hB0 hr0 hK0
  go_wp2_with (first | (refine wpList_load_mid rfl 131 (.tmp 2) rfl b 0 rfl _ _ hB1.range Try.underlying131 rfl (by kernel_rfl) ?_) | (refine wpList_store_mid rfl 131 (.tmp 2) (.tmp 9) rfl b 0 _ rfl rfl hB1.there (by kernel_rfl) (all_oneCell_toArray (by simp [Value.oneCell'])) ?_))
  try simp only [Exit.inBlock, Exit.then]
  refine bodyPost_ret (results_cell_bx rfl _ _ b _ _ rfl (hB1.self.range) Try.underlying131 rfl (by kernel_rfl)) rfl ?_
  refine fin_end hB1 hK1 hg0 (Nat.le_of_eq HB.out) hr1 hlob hg (x := (⟨x0, x1, x2⟩ : Span)) ?ow ?sp
  case ow => exact fun _ _ _ => ⟨_, rfl, rfl⟩
  case sp => exact SpecP.of_eq (many3 _) (hs1.bind (SpecP.ret _ _ _))
theorem rdNeed_real : Real Try.prog 95 := ⟨_, Try.func95, by kernel_rfl, by kernel_rfl⟩
theorem rdMark_real : Real Try.prog 128 := ⟨_, Try.func128, by kernel_rfl, by kernel_rfl⟩
theorem rdSpan_real : Real Try.prog 108 := ⟨_, Try.func108, by kernel_rfl, by kernel_rfl⟩
theorem rdInteger_real : Real Try.prog 84 := ⟨_, Try.func84, by kernel_rfl, by kernel_rfl⟩
end Go.Proofs.Ytmeafoakbkjifaa
