
/-
The reader: a record.
-/
import Derived.Test.YtmeafoakbkjifaaRdr11
import Derived.Test.YtmeafoakbkjifaaRE
namespace Go.Proofs.Ytmeafoakbkjifaa
set_option linter.unusedSimpArgs false
set_option linter.unusedVariables false
open Go.RowKit

abbrev zE : Event := ⟨0, 0, 0, [], 0, 0, ⟨0, 0, 0, 0⟩, 0, 0, 0⟩
abbrev zB : Base := ⟨[], 0, [], [], [], [], []⟩
abbrev zN : Entry := ⟨0, 0, 0, 0, 0, []⟩
/-- how a record is read -/
def recordP : Ps Record := bindP intP fun k =>
  if k = 0 then bindP eventP fun e => retP ⟨0, e, zB, 0, 0, 0, zN⟩
  else if k = 1 then bindP baseP fun b => retP ⟨1, zE, b, 0, 0, 0, zN⟩
  else if k = 2 then bindP (loopP intP 2) fun xs => retP ⟨2, zE, zB, xs.getD 0 0, xs.getD 1 0, 0, zN⟩
  else if k = 3 then bindP intP fun i => bindP entryP fun n => retP ⟨3, zE, zB, 0, 0, i, n⟩
  else if k = 4 then bindP intP fun i => retP ⟨4, zE, zB, 0, 0, i, zN⟩
  else noP
theorem event_in {w : World} {a b c d e f h i j k m n : Int} {v : Value} {x : Event} (hh : rdEvent w [.int .i64 a, .int .i64 b, .int .i64 c, v, .int .i64 d, .int .i64 e, .int .i64 f, .int .i64 h, .int .i64 i, .int .i64 j, .int .i64 k, .int .i64 m, .int .i64 n] x) : Ints w v x.past := by
  obtain ⟨v', h1, h2⟩ := hh
  simp only [List.cons.injEq] at h1
  obtain ⟨-, -, -, rfl, -⟩ := h1
  exact h2
theorem entry_in {w : World} {a b c d e : Int} {v : Value} {x : Entry} (hh : rdEntry w [.int .i64 a, .int .i64 b, .int .i64 c, .int .i64 d, .int .i64 e, v] x) : Ints w v x.voters := by
  obtain ⟨v', h1, h2⟩ := hh
  simp only [List.cons.injEq] at h1
  obtain ⟨-, -, -, -, -, rfl, -⟩ := h1
  exact h2
theorem base_in {w : World} {v0 v2 v3 v4 v5 v6 : Value} {t : Int} {b : Base} (hh : rdBaseC w [v0, .int .i64 t, v2, v3, v4, v5, v6] b) : Ints w v0 b.clock ∧ Ints w v2 b.state ∧ Mergeds w v3 b.merged ∧ Intss w v4 b.rights ∧ Intsss w v5 b.shares ∧ Ints w v6 b.places := by
  obtain ⟨u0, u2, u3, u4, u5, u6, h1, h2⟩ := hh
  simp only [List.cons.injEq] at h1
  obtain ⟨rfl, -, rfl, rfl, rfl, rfl, rfl, -⟩ := h1
  exact h2
theorem base_one {w : World} {cs : List Value} {x : Base} (h : rdBaseC w cs x) : cs.length = 7 ∧ ∀ u ∈ cs, u.oneCell' = true := by
  obtain ⟨v0, v2, v3, v4, v5, v6, rfl, p0, p2, p3, p4, p5, p6⟩ := h
  obtain ⟨A0, c0, rfl, -, -⟩ := p0.form
  obtain ⟨A2, c2, rfl, -, -⟩ := p2.form
  obtain ⟨A3, c3, rfl, -, -⟩ := p3.form
  obtain ⟨A4, c4, rfl, -, -⟩ := p4.form
  obtain ⟨A5, c5, rfl, -, -⟩ := p5.form
  obtain ⟨A6, c6, rfl, -, -⟩ := p6.form
  exact ⟨rfl, by simp [Value.oneCell']⟩
theorem Kb.setg {g b : Nat} {w w' : World} (h : Kb g b w w') (j : Nat) (u : Value) : Kb g b w (w'.setCell ⟨g, j, none⟩ u) :=
  ⟨h.os, h.tape, h.output, by rw [set_size]; exact h.size, fun k hk h1 h2 => by rw [set_block _ _ _ _ h1]; exact h.block k hk h1 h2⟩


set_option maxHeartbeats 8000000 in
theorem rdRecord_any (W0 : World) (g : Nat) (l : List Int) (bad : Bool) (w : World) (hr : Rdr W0 w g l bad) : Reads W0 g recordP (VA rdRecord) l bad 54 #[.pointer (some ⟨g, 0, none⟩)] w := by
  have hg := hr.lt
  have hlo := hr.lo
  have k0 := (Kp.refl w).alloc (.cells #[.int .i64 0, .int .i64 0, .int .i64 0, .int .i64 0, .slice none 0 0, .int .i64 0, .int .i64 0, .int .i64 0, .int .i64 0, .int .i64 0, .int .i64 0, .int .i64 0, .int .i64 0, .int .i64 0, .slice none 0 0, .int .i64 0, .slice none 0 0, .slice none 0 0, .slice none 0 0, .slice none 0 0, .slice none 0 0, .int .i64 0, .int .i64 0, .int .i64 0, .int .i64 0, .int .i64 0, .int .i64 0, .int .i64 0, .int .i64 0, .slice none 0 0] 46)
  have hr0 := hr.keep k0
  have hB0 := Bx.new w #[.int .i64 0, .int .i64 0, .int .i64 0, .int .i64 0, .slice none 0 0, .int .i64 0, .int .i64 0, .int .i64 0, .int .i64 0, .int .i64 0, .int .i64 0, .int .i64 0, .int .i64 0, .int .i64 0, .slice none 0 0, .int .i64 0, .slice none 0 0, .slice none 0 0, .slice none 0 0, .slice none 0 0, .slice none 0 0, .int .i64 0, .int .i64 0, .int .i64 0, .int .i64 0, .int .i64 0, .int .i64 0, .int .i64 0, .int .i64 0, .slice none 0 0] 46
  have hg0 := k0.kg g
  go_enter Try.func54, Try.ntmps54
  go_wp2_with fail
  try rw [← World.size_alloc w (.cells #[.int .i64 0, .int .i64 0, .int .i64 0, .int .i64 0, .slice none 0 0, .int .i64 0, .int .i64 0, .int .i64 0, .int .i64 0, .int .i64 0, .int .i64 0, .int .i64 0, .int .i64 0, .int .i64 0, .slice none 0 0, .int .i64 0, .slice none 0 0, .slice none 0 0, .slice none 0 0, .slice none 0 0, .slice none 0 0, .int .i64 0, .int .i64 0, .int .i64 0, .int .i64 0, .int .i64 0, .int .i64 0, .int .i64 0, .int .i64 0, .slice none 0 0] 46)]
  generalize w.alloc (.cells #[.int .i64 0, .int .i64 0, .int .i64 0, .int .i64 0, .slice none 0 0, .int .i64 0, .int .i64 0, .int .i64 0, .int .i64 0, .int .i64 0, .int .i64 0, .int .i64 0, .int .i64 0, .int .i64 0, .slice none 0 0, .int .i64 0, .slice none 0 0, .slice none 0 0, .slice none 0 0, .slice none 0 0, .slice none 0 0, .int .i64 0, .int .i64 0, .int .i64 0, .int .i64 0, .int .i64 0, .int .i64 0, .int .i64 0, .int .i64 0, .slice none 0 0] 46) = w0 at *
  generalize hb : w.heap.size = b at *
  have HB := hid hb
  clear hb k0 hr
  have hK0 := Kb.refl g b w0
  have hlob : W0.heap.size ≤ b := by omega
  refine (rdInteger_any W0 g _ _ w0 hr0).mono ?_
  rintro e w1 ⟨v1, y1, l1, bad1, rfl, ho1, hs1, hr1, hk1⟩
  have hB1 := hB0.keep (World.grownBy.block hk1 b (hB0.lt (by simp)) (by simp; omega))
  have hK1 := hK0.trans (hk1.kb b)
  try replace hoA := hoA.kb2 (hk1.kb b) hg
  try replace hoB := hoB.kb2 (hk1.kb b) hg
  try replace hoC := hoC.kb2 (hk1.kb b) hg
  try replace hoD := hoD.kb2 (hk1.kb b) hg
  try replace hoE := hoE.kb2 (hk1.kb b) hg
  try replace hoF := hoF.kb2 (hk1.kb b) hg
  try replace hcp := Kb.cell0 (hk1.kb b) hcp hag hab
  replace ho1 := ho1.wide (Nat.succ_le_of_lt (hB0.lt (by simp))) (Nat.le_refl _)
  clear hk1 hB0 hr0 hK0
  obtain rfl := ho1.here
  clear ho1
  by_cases h0 : y1 = 0
  · subst h0
    have hB2 := hB1.set (j := 0) (by simp) (.int .i64 0)
    simp only [List.set_cons_zero, List.set_cons_succ] at hB2
    have hkS := (Kb.refl g b w1).set 0 (.int .i64 0)
    have hr2 := hr1.kb hkS hlob (set_block _ _ _ _ (by show g ≠ b; omega))
    have hK2 := hK1.trans hkS
    try replace hoA := hoA.kb2 hkS hg
    try replace hoB := hoB.kb2 hkS hg
    try replace hoC := hoC.kb2 hkS hg
    try replace hoD := hoD.kb2 hkS hg
    try replace hoE := hoE.kb2 hkS hg
    try replace hoF := hoF.kb2 hkS hg
    try replace hcp := Kb.cell0 hkS hcp hag hab
    have f1 := hB1.cell (j := 0) rfl
    have f2 := hB1.free (j := 0) (by simp)
    have hsz := set_size w1 ⟨b, 0, none⟩ (.int .i64 0)
    clear hkS hr1 hK1
    clear hB1
    go_wp2_with fail
    try rw [← hsz]
    generalize w1.setCell ⟨b, 0, none⟩ (.int .i64 0) = w2 at *
    clear f1 f2 hsz
    refine (rdEvent_any W0 g _ _ w2 hr2).mono ?_
    rintro e w3 ⟨v3, y3, l3, bad3, rfl, ho3, hs3, hr3, hk3⟩
    have hB3 := hB2.keep (World.grownBy.block hk3 b (hB2.lt (by simp)) (by simp; omega))
    have hK3 := hK2.trans (hk3.kb b)
    try replace hoA := hoA.kb2 (hk3.kb b) hg
    try replace hoB := hoB.kb2 (hk3.kb b) hg
    try replace hoC := hoC.kb2 (hk3.kb b) hg
    try replace hoD := hoD.kb2 (hk3.kb b) hg
    try replace hoE := hoE.kb2 (hk3.kb b) hg
    try replace hoF := hoF.kb2 (hk3.kb b) hg
    try replace hcp := Kb.cell0 (hk3.kb b) hcp hag hab
    replace ho3 := ho3.wide (Nat.succ_le_of_lt (hB2.lt (by simp))) (Nat.le_refl _)
    clear hk3 hB2 hr2 hK2
    obtain ⟨cs, rfl, hcs⟩ := ho3.here
    have hoA := ho3
    clear ho3
    obtain ⟨hl3, h13⟩ := event_one hcs
    obtain ⟨e0, e1, e2, e3, e4, e5, ⟨f0, f1, f2, f3⟩, e7, e8, e9⟩ := y3
    have hB4 := hB3.setCells cs 1 _ _ (by rw [hl3]; simp)
    have hth := hB3.thereAt 1 (cs).length (by rw [hl3]; simp)
    have hin : (Try.prog.info? 37).map (·.size) = some (cs).toArray.size := by rw [List.size_toArray, hl3]; kernel_rfl
    have hkS := Kb.setCells cs 1 _ (Kb.refl g b w3)
    have hr4 := hr3.kb hkS hlob (setCells_block b g (by omega) cs 1 w3)
    have hK4 := hK3.trans hkS
    try replace hoA := hoA.kb2 hkS hg
    try replace hoB := hoB.kb2 hkS hg
    try replace hoC := hoC.kb2 hkS hg
    try replace hoD := hoD.kb2 hkS hg
    try replace hoE := hoE.kb2 hkS hg
    try replace hoF := hoF.kb2 hkS hg
    try replace hcp := Kb.cell0 hkS hcp hag hab
    have hsz := setCells_size b cs 1 w3
    clear hkS hr3 hK3 hB3
    go_wp2_with (first | (refine wpList_store_mid rfl 37 (.tmp 15) (.tmp 14) rfl b 1 (cs).toArray rfl rfl hth hin (all_oneCell_toArray h13) ?_; generalize w3.setCells b 1 cs = w4 at *; clear hth hsz hin; obtain ⟨vz, rfl, hN⟩ := hcs; obtain ⟨A9, c9, rfl, hc9, hm9⟩ := hN.form; clear hN; simp [putV] at hB4) | (refine wpList_load_mid rfl 46 (.tmp 2) rfl b 0 rfl _ _ hB4.range Try.underlying46 rfl (by kernel_rfl) ?_) | (refine wpList_store_mid rfl 46 (.tmp 2) (.tmp 41) rfl b 0 _ rfl rfl hB4.there (by kernel_rfl) (all_oneCell_toArray (by simp [Value.oneCell'])) ?_))
    try simp only [Exit.inBlock, Exit.then]
    refine bodyPost_ret (results_cell_bx rfl _ _ b _ _ rfl (hB4.self.range) Try.underlying46 rfl (by kernel_rfl)) rfl ?_
    refine fin_end hB4 hK4 hg0 (Nat.le_of_eq HB.out) hr4 hlob hg (x := (⟨0, ⟨e0, e1, e2, e3, e4, e5, ⟨f0, f1, f2, f3⟩, e7, e8, e9⟩, zB, 0, 0, 0, zN⟩ : Record)) ?ow ?sp
    case ow => exact hoA.imp fun _ h => ⟨_, rfl, _, _, _, _, _, _, _, _, rfl, event_in (VA.inj h), Sl.nil _ _ _, Sl.nil _ _ _, Sl.nil _ _ _, Sl.nil _ _ _, Sl.nil _ _ _, Sl.nil _ _ _, Sl.nil _ _ _⟩
    case sp => exact hs1.bind (hs3.bind (SpecP.ret _ _ _))
  by_cases h1 : y1 = 1
  · subst h1
    have hB2 := hB1.set (j := 0) (by simp) (.int .i64 1)
    simp only [List.set_cons_zero, List.set_cons_succ] at hB2
    have hkS := (Kb.refl g b w1).set 0 (.int .i64 1)
    have hr2 := hr1.kb hkS hlob (set_block _ _ _ _ (by show g ≠ b; omega))
    have hK2 := hK1.trans hkS
    try replace hoA := hoA.kb2 hkS hg
    try replace hoB := hoB.kb2 hkS hg
    try replace hoC := hoC.kb2 hkS hg
    try replace hoD := hoD.kb2 hkS hg
    try replace hoE := hoE.kb2 hkS hg
    try replace hoF := hoF.kb2 hkS hg
    try replace hcp := Kb.cell0 hkS hcp hag hab
    have f1 := hB1.cell (j := 0) rfl
    have f2 := hB1.free (j := 0) (by simp)
    have hsz := set_size w1 ⟨b, 0, none⟩ (.int .i64 1)
    clear hkS hr1 hK1
    clear hB1
    go_wp2_with fail
    try rw [← hsz]
    generalize w1.setCell ⟨b, 0, none⟩ (.int .i64 1) = w2 at *
    clear f1 f2 hsz
    refine (rdBase_any W0 g _ _ w2 hr2).mono ?_
    rintro e w3 ⟨v3, y3, l3, bad3, rfl, ho3, hs3, hr3, hk3⟩
    have hB3 := hB2.keep (World.grownBy.block hk3 b (hB2.lt (by simp)) (by simp; omega))
    have hK3 := hK2.trans (hk3.kb b)
    try replace hoA := hoA.kb2 (hk3.kb b) hg
    try replace hoB := hoB.kb2 (hk3.kb b) hg
    try replace hoC := hoC.kb2 (hk3.kb b) hg
    try replace hoD := hoD.kb2 (hk3.kb b) hg
    try replace hoE := hoE.kb2 (hk3.kb b) hg
    try replace hoF := hoF.kb2 (hk3.kb b) hg
    try replace hcp := Kb.cell0 (hk3.kb b) hcp hag hab
    replace ho3 := ho3.wide (Nat.succ_le_of_lt (hB2.lt (by simp))) (Nat.le_refl _)
    clear hk3 hB2 hr2 hK2
    obtain ⟨cs, rfl, hcs⟩ := ho3.here
    have hoA := ho3
    clear ho3
    obtain ⟨hl3, h13⟩ := base_one hcs
    obtain ⟨e0, e1, e2, e3, e4, e5, e6⟩ := y3
    have hB4 := hB3.setCells cs 14 _ _ (by rw [hl3]; simp)
    have hth := hB3.thereAt 14 (cs).length (by rw [hl3]; simp)
    have hin : (Try.prog.info? 42).map (·.size) = some (cs).toArray.size := by rw [List.size_toArray, hl3]; kernel_rfl
    have hkS := Kb.setCells cs 14 _ (Kb.refl g b w3)
    have hr4 := hr3.kb hkS hlob (setCells_block b g (by omega) cs 14 w3)
    have hK4 := hK3.trans hkS
    try replace hoA := hoA.kb2 hkS hg
    try replace hoB := hoB.kb2 hkS hg
    try replace hoC := hoC.kb2 hkS hg
    try replace hoD := hoD.kb2 hkS hg
    try replace hoE := hoE.kb2 hkS hg
    try replace hoF := hoF.kb2 hkS hg
    try replace hcp := Kb.cell0 hkS hcp hag hab
    have hsz := setCells_size b cs 14 w3
    clear hkS hr3 hK3 hB3
    go_wp2_with (first | (refine wpList_store_mid rfl 42 (.tmp 20) (.tmp 19) rfl b 14 (cs).toArray rfl rfl hth hin (all_oneCell_toArray h13) ?_; generalize w3.setCells b 14 cs = w4 at *; clear hth hsz hin; obtain ⟨u0, u2, u3, u4, u5, u6, rfl, q0, q2, q3, q4, q5, q6⟩ := hcs; obtain ⟨A0, c0, rfl, hc0, hm0⟩ := q0.form; obtain ⟨A2, c2, rfl, hc2, hm2⟩ := q2.form; obtain ⟨A3, c3, rfl, hc3, hm3⟩ := q3.form; obtain ⟨A4, c4, rfl, hc4, hm4⟩ := q4.form; obtain ⟨A5, c5, rfl, hc5, hm5⟩ := q5.form; obtain ⟨A6, c6, rfl, hc6, hm6⟩ := q6.form; clear q0 q2 q3 q4 q5 q6; simp [putV] at hB4) | (refine wpList_load_mid rfl 46 (.tmp 2) rfl b 0 rfl _ _ hB4.range Try.underlying46 rfl (by kernel_rfl) ?_) | (refine wpList_store_mid rfl 46 (.tmp 2) (.tmp 41) rfl b 0 _ rfl rfl hB4.there (by kernel_rfl) (all_oneCell_toArray (by simp [Value.oneCell'])) ?_))
    try simp only [Exit.inBlock, Exit.then]
    refine bodyPost_ret (results_cell_bx rfl _ _ b _ _ rfl (hB4.self.range) Try.underlying46 rfl (by kernel_rfl)) rfl ?_
    refine fin_end hB4 hK4 hg0 (Nat.le_of_eq HB.out) hr4 hlob hg (x := (⟨1, zE, ⟨e0, e1, e2, e3, e4, e5, e6⟩, 0, 0, 0, zN⟩ : Record)) ?ow ?sp
    case ow => exact hoA.imp fun _ h => ⟨_, rfl, _, _, _, _, _, _, _, _, rfl, Sl.nil _ _ _, (base_in (VA.inj h)).1, (base_in (VA.inj h)).2.1, (base_in (VA.inj h)).2.2.1, (base_in (VA.inj h)).2.2.2.1, (base_in (VA.inj h)).2.2.2.2.1, (base_in (VA.inj h)).2.2.2.2.2, Sl.nil _ _ _⟩
    case sp => exact hs1.bind (hs3.bind (SpecP.ret _ _ _))
  by_cases h2 : y1 = 2
  · subst h2
    have hB2 := hB1.set (j := 0) (by simp) (.int .i64 2)
    simp only [List.set_cons_zero, List.set_cons_succ] at hB2
    have hkS := (Kb.refl g b w1).set 0 (.int .i64 2)
    have hr2 := hr1.kb hkS hlob (set_block _ _ _ _ (by show g ≠ b; omega))
    have hK2 := hK1.trans hkS
    try replace hoA := hoA.kb2 hkS hg
    try replace hoB := hoB.kb2 hkS hg
    try replace hoC := hoC.kb2 hkS hg
    try replace hoD := hoD.kb2 hkS hg
    try replace hoE := hoE.kb2 hkS hg
    try replace hoF := hoF.kb2 hkS hg
    try replace hcp := Kb.cell0 hkS hcp hag hab
    have f1 := hB1.cell (j := 0) rfl
    have f2 := hB1.free (j := 0) (by simp)
    have hsz := set_size w1 ⟨b, 0, none⟩ (.int .i64 2)
    clear hkS hr1 hK1
    clear hB1
    go_wp2_with fail
    try rw [← hsz]
    generalize w1.setCell ⟨b, 0, none⟩ (.int .i64 2) = w2 at *
    clear f1 f2 hsz
    refine (into_lit W0 g b 21 2 _ _ _ w2 _ hr2 hg hB2 (by simp) (by simp) (by simp) rfl).mono ?_
    rintro e w3 ⟨rfl, xs, l3, bad3, hx, hs3, hr3, hB3, hk3⟩
    obtain ⟨t0, t1, rfl⟩ := len2 hx
    simp [putI] at hB3
    have hK3 := hK2.trans hk3
    try replace hoA := hoA.kb2 hk3 hg
    try replace hoB := hoB.kb2 hk3 hg
    try replace hoC := hoC.kb2 hk3 hg
    try replace hoD := hoD.kb2 hk3 hg
    try replace hoE := hoE.kb2 hk3 hg
    try replace hoF := hoF.kb2 hk3 hg
    try replace hcp := Kb.cell0 hk3 hcp hag hab
    clear hx hk3 hB2 hr2 hK2
    go_wp2_with (first | (refine wpList_load_mid rfl 46 (.tmp 2) rfl b 0 rfl _ _ hB3.range Try.underlying46 rfl (by kernel_rfl) ?_) | (refine wpList_store_mid rfl 46 (.tmp 2) (.tmp 41) rfl b 0 _ rfl rfl hB3.there (by kernel_rfl) (all_oneCell_toArray (by simp [Value.oneCell'])) ?_))
    try simp only [Exit.inBlock, Exit.then]
    refine bodyPost_ret (results_cell_bx rfl _ _ b _ _ rfl (hB3.self.range) Try.underlying46 rfl (by kernel_rfl)) rfl ?_
    refine fin_end hB3 hK3 hg0 (Nat.le_of_eq HB.out) hr3 hlob hg (x := (⟨2, zE, zB, t0, t1, 0, zN⟩ : Record)) ?ow ?sp
    case ow => exact fun _ _ _ => ⟨_, rfl, _, _, _, _, _, _, _, _, rfl, Sl.nil _ _ _, Sl.nil _ _ _, Sl.nil _ _ _, Sl.nil _ _ _, Sl.nil _ _ _, Sl.nil _ _ _, Sl.nil _ _ _, Sl.nil _ _ _⟩
    case sp => exact hs1.bind (hs3.bind (SpecP.ret _ _ _))
  by_cases h3 : y1 = 3
  · subst h3
    have hB2 := hB1.set (j := 0) (by simp) (.int .i64 3)
    simp only [List.set_cons_zero, List.set_cons_succ] at hB2
    have hkS := (Kb.refl g b w1).set 0 (.int .i64 3)
    have hr2 := hr1.kb hkS hlob (set_block _ _ _ _ (by show g ≠ b; omega))
    have hK2 := hK1.trans hkS
    try replace hoA := hoA.kb2 hkS hg
    try replace hoB := hoB.kb2 hkS hg
    try replace hoC := hoC.kb2 hkS hg
    try replace hoD := hoD.kb2 hkS hg
    try replace hoE := hoE.kb2 hkS hg
    try replace hoF := hoF.kb2 hkS hg
    try replace hcp := Kb.cell0 hkS hcp hag hab
    have f1 := hB1.cell (j := 0) rfl
    have f2 := hB1.free (j := 0) (by simp)
    have hsz := set_size w1 ⟨b, 0, none⟩ (.int .i64 3)
    clear hkS hr1 hK1
    clear hB1
    go_wp2_with fail
    try rw [← hsz]
    generalize w1.setCell ⟨b, 0, none⟩ (.int .i64 3) = w2 at *
    clear f1 f2 hsz
    refine (rdInteger_any W0 g _ _ w2 hr2).mono ?_
    rintro e w3 ⟨v3, y3, l3, bad3, rfl, ho3, hs3, hr3, hk3⟩
    have hB3 := hB2.keep (World.grownBy.block hk3 b (hB2.lt (by simp)) (by simp; omega))
    have hK3 := hK2.trans (hk3.kb b)
    try replace hoA := hoA.kb2 (hk3.kb b) hg
    try replace hoB := hoB.kb2 (hk3.kb b) hg
    try replace hoC := hoC.kb2 (hk3.kb b) hg
    try replace hoD := hoD.kb2 (hk3.kb b) hg
    try replace hoE := hoE.kb2 (hk3.kb b) hg
    try replace hoF := hoF.kb2 (hk3.kb b) hg
    try replace hcp := Kb.cell0 (hk3.kb b) hcp hag hab
    replace ho3 := ho3.wide (Nat.succ_le_of_lt (hB2.lt (by simp))) (Nat.le_refl _)
    clear hk3 hB2 hr2 hK2
    obtain rfl := ho3.here
    clear ho3
    have hB4 := hB3.set (j := 23) (by simp) (.int .i64 y3)
    simp only [List.set_cons_zero, List.set_cons_succ] at hB4
    have hkS := (Kb.refl g b w3).set 23 (.int .i64 y3)
    have hr4 := hr3.kb hkS hlob (set_block _ _ _ _ (by show g ≠ b; omega))
    have hK4 := hK3.trans hkS
    try replace hoA := hoA.kb2 hkS hg
    try replace hoB := hoB.kb2 hkS hg
    try replace hoC := hoC.kb2 hkS hg
    try replace hoD := hoD.kb2 hkS hg
    try replace hoE := hoE.kb2 hkS hg
    try replace hoF := hoF.kb2 hkS hg
    try replace hcp := Kb.cell0 hkS hcp hag hab
    have f1 := hB3.cell (j := 23) rfl
    have f2 := hB3.free (j := 23) (by simp)
    have hsz := set_size w3 ⟨b, 23, none⟩ (.int .i64 y3)
    clear hkS hr3 hK3
    clear hB3
    go_wp2_with fail
    try rw [← hsz]
    generalize w3.setCell ⟨b, 23, none⟩ (.int .i64 y3) = w4 at *
    clear f1 f2 hsz
    refine (rdEntry_any W0 g _ _ w4 hr4).mono ?_
    rintro e w5 ⟨v5, y5, l5, bad5, rfl, ho5, hs5, hr5, hk5⟩
    have hB5 := hB4.keep (World.grownBy.block hk5 b (hB4.lt (by simp)) (by simp; omega))
    have hK5 := hK4.trans (hk5.kb b)
    try replace hoA := hoA.kb2 (hk5.kb b) hg
    try replace hoB := hoB.kb2 (hk5.kb b) hg
    try replace hoC := hoC.kb2 (hk5.kb b) hg
    try replace hoD := hoD.kb2 (hk5.kb b) hg
    try replace hoE := hoE.kb2 (hk5.kb b) hg
    try replace hoF := hoF.kb2 (hk5.kb b) hg
    try replace hcp := Kb.cell0 (hk5.kb b) hcp hag hab
    replace ho5 := ho5.wide (Nat.succ_le_of_lt (hB4.lt (by simp))) (Nat.le_refl _)
    clear hk5 hB4 hr4 hK4
    obtain ⟨cs, rfl, hcs⟩ := ho5.here
    have hoA := ho5
    clear ho5
    obtain ⟨hl5, h15⟩ := entry_one hcs
    obtain ⟨n0, n1, n2, n3, n4, n5⟩ := y5
    have hB6 := hB5.setCells cs 24 _ _ (by rw [hl5]; simp)
    have hth := hB5.thereAt 24 (cs).length (by rw [hl5]; simp)
    have hin : (Try.prog.info? 44).map (·.size) = some (cs).toArray.size := by rw [List.size_toArray, hl5]; kernel_rfl
    have hkS := Kb.setCells cs 24 _ (Kb.refl g b w5)
    have hr6 := hr5.kb hkS hlob (setCells_block b g (by omega) cs 24 w5)
    have hK6 := hK5.trans hkS
    try replace hoA := hoA.kb2 hkS hg
    try replace hoB := hoB.kb2 hkS hg
    try replace hoC := hoC.kb2 hkS hg
    try replace hoD := hoD.kb2 hkS hg
    try replace hoE := hoE.kb2 hkS hg
    try replace hoF := hoF.kb2 hkS hg
    try replace hcp := Kb.cell0 hkS hcp hag hab
    have hsz := setCells_size b cs 24 w5
    clear hkS hr5 hK5 hB5
    go_wp2_with (first | (refine wpList_store_mid rfl 44 (.tmp 35) (.tmp 34) rfl b 24 (cs).toArray rfl rfl hth hin (all_oneCell_toArray h15) ?_; generalize w5.setCells b 24 cs = w6 at *; clear hth hsz hin; obtain ⟨vz, rfl, hN⟩ := hcs; obtain ⟨A9, c9, rfl, hc9, hm9⟩ := hN.form; clear hN; simp [putV] at hB6) | (refine wpList_load_mid rfl 46 (.tmp 2) rfl b 0 rfl _ _ hB6.range Try.underlying46 rfl (by kernel_rfl) ?_) | (refine wpList_store_mid rfl 46 (.tmp 2) (.tmp 41) rfl b 0 _ rfl rfl hB6.there (by kernel_rfl) (all_oneCell_toArray (by simp [Value.oneCell'])) ?_))
    try simp only [Exit.inBlock, Exit.then]
    refine bodyPost_ret (results_cell_bx rfl _ _ b _ _ rfl (hB6.self.range) Try.underlying46 rfl (by kernel_rfl)) rfl ?_
    refine fin_end hB6 hK6 hg0 (Nat.le_of_eq HB.out) hr6 hlob hg (x := (⟨3, zE, zB, 0, 0, y3, ⟨n0, n1, n2, n3, n4, n5⟩⟩ : Record)) ?ow ?sp
    case ow => exact hoA.imp fun _ h => ⟨_, rfl, _, _, _, _, _, _, _, _, rfl, Sl.nil _ _ _, Sl.nil _ _ _, Sl.nil _ _ _, Sl.nil _ _ _, Sl.nil _ _ _, Sl.nil _ _ _, Sl.nil _ _ _, entry_in (VA.inj h)⟩
    case sp => exact hs1.bind (hs3.bind (hs5.bind (SpecP.ret _ _ _)))
  by_cases h4 : y1 = 4
  · subst h4
    have hB2 := hB1.set (j := 0) (by simp) (.int .i64 4)
    simp only [List.set_cons_zero, List.set_cons_succ] at hB2
    have hkS := (Kb.refl g b w1).set 0 (.int .i64 4)
    have hr2 := hr1.kb hkS hlob (set_block _ _ _ _ (by show g ≠ b; omega))
    have hK2 := hK1.trans hkS
    try replace hoA := hoA.kb2 hkS hg
    try replace hoB := hoB.kb2 hkS hg
    try replace hoC := hoC.kb2 hkS hg
    try replace hoD := hoD.kb2 hkS hg
    try replace hoE := hoE.kb2 hkS hg
    try replace hoF := hoF.kb2 hkS hg
    try replace hcp := Kb.cell0 hkS hcp hag hab
    have f1 := hB1.cell (j := 0) rfl
    have f2 := hB1.free (j := 0) (by simp)
    have hsz := set_size w1 ⟨b, 0, none⟩ (.int .i64 4)
    clear hkS hr1 hK1
    clear hB1
    go_wp2_with fail
    try rw [← hsz]
    generalize w1.setCell ⟨b, 0, none⟩ (.int .i64 4) = w2 at *
    clear f1 f2 hsz
    refine (rdInteger_any W0 g _ _ w2 hr2).mono ?_
    rintro e w3 ⟨v3, y3, l3, bad3, rfl, ho3, hs3, hr3, hk3⟩
    have hB3 := hB2.keep (World.grownBy.block hk3 b (hB2.lt (by simp)) (by simp; omega))
    have hK3 := hK2.trans (hk3.kb b)
    try replace hoA := hoA.kb2 (hk3.kb b) hg
    try replace hoB := hoB.kb2 (hk3.kb b) hg
    try replace hoC := hoC.kb2 (hk3.kb b) hg
    try replace hoD := hoD.kb2 (hk3.kb b) hg
    try replace hoE := hoE.kb2 (hk3.kb b) hg
    try replace hoF := hoF.kb2 (hk3.kb b) hg
    try replace hcp := Kb.cell0 (hk3.kb b) hcp hag hab
    replace ho3 := ho3.wide (Nat.succ_le_of_lt (hB2.lt (by simp))) (Nat.le_refl _)
    clear hk3 hB2 hr2 hK2
    obtain rfl := ho3.here
    clear ho3
    have hB4 := hB3.set (j := 23) (by simp) (.int .i64 y3)
    simp only [List.set_cons_zero, List.set_cons_succ] at hB4
    have hkS := (Kb.refl g b w3).set 23 (.int .i64 y3)
    have hr4 := hr3.kb hkS hlob (set_block _ _ _ _ (by show g ≠ b; omega))
    have hK4 := hK3.trans hkS
    try replace hoA := hoA.kb2 hkS hg
    try replace hoB := hoB.kb2 hkS hg
    try replace hoC := hoC.kb2 hkS hg
    try replace hoD := hoD.kb2 hkS hg
    try replace hoE := hoE.kb2 hkS hg
    try replace hoF := hoF.kb2 hkS hg
    try replace hcp := Kb.cell0 hkS hcp hag hab
    have f1 := hB3.cell (j := 23) rfl
    have f2 := hB3.free (j := 23) (by simp)
    have hsz := set_size w3 ⟨b, 23, none⟩ (.int .i64 y3)
    clear hkS hr3 hK3
    go_wp2_with (first | (refine wpList_load_mid rfl 46 (.tmp 2) rfl b 0 rfl _ _ hB4.range Try.underlying46 rfl (by kernel_rfl) ?_) | (refine wpList_store_mid rfl 46 (.tmp 2) (.tmp 41) rfl b 0 _ rfl rfl hB4.there (by kernel_rfl) (all_oneCell_toArray (by simp [Value.oneCell'])) ?_))
    try simp only [Exit.inBlock, Exit.then]
    refine bodyPost_ret (results_cell_bx rfl _ _ b _ _ rfl (hB4.self.range) Try.underlying46 rfl (by kernel_rfl)) rfl ?_
    refine fin_end hB4 hK4 hg0 (Nat.le_of_eq HB.out) hr4 hlob hg (x := (⟨4, zE, zB, 0, 0, y3, zN⟩ : Record)) ?ow ?sp
    case ow => exact fun _ _ _ => ⟨_, rfl, _, _, _, _, _, _, _, _, rfl, Sl.nil _ _ _, Sl.nil _ _ _, Sl.nil _ _ _, Sl.nil _ _ _, Sl.nil _ _ _, Sl.nil _ _ _, Sl.nil _ _ _, Sl.nil _ _ _⟩
    case sp => exact hs1.bind (hs3.bind (SpecP.ret _ _ _))
  have he0 : (y1 == 0) = false := by simpa using h0
  have he1 : (y1 == 1) = false := by simpa using h1
  have he2 : (y1 == 2) = false := by simpa using h2
  have he3 : (y1 == 3) = false := by simpa using h3
  have he4 : (y1 == 4) = false := by simpa using h4
  obtain ⟨vr, -, g2, g3, g4, g5⟩ := hr1.cells
  have hgl := hr1.lt
  have hne : b ≠ g := by omega
  have hB2 := hB1.set (j := 0) (by simp) (.int .i64 y1)
  simp only [List.set_cons_zero, List.set_cons_succ] at hB2
  have hkS := (Kb.refl g b w1).set 0 (.int .i64 y1)
  have hr2 := hr1.kb hkS hlob (set_block _ _ _ _ (by show g ≠ b; omega))
  have hK2 := hK1.trans hkS
  try replace hoA := hoA.kb2 hkS hg
  try replace hoB := hoB.kb2 hkS hg
  try replace hoC := hoC.kb2 hkS hg
  try replace hoD := hoD.kb2 hkS hg
  try replace hoE := hoE.kb2 hkS hg
  try replace hoF := hoF.kb2 hkS hg
  try replace hcp := Kb.cell0 hkS hcp hag hab
  have f1 := hB1.cell (j := 0) rfl
  have f2 := hB1.free (j := 0) (by simp)
  have hsz := set_size w1 ⟨b, 0, none⟩ (.int .i64 y1)
  clear hkS hr1 hK1
  clear hB1
  have hB3 := hB2.keep (set_block (w1.setCell ⟨b, 0, none⟩ (.int .i64 y1)) ⟨g, 1, none⟩ (.bool true) b (by show b ≠ g; omega))
  have hr3 := hr2.bad true
  have hK3 := hK2.setg 1 (.bool true)
  go_wp2_with (first | (refine wpList_load_mid rfl 46 (.tmp 2) rfl b 0 rfl _ _ hB3.range Try.underlying46 rfl (by kernel_rfl) ?_) | (refine wpList_store_mid rfl 46 (.tmp 2) (.tmp 41) rfl b 0 _ rfl rfl hB3.there (by kernel_rfl) (all_oneCell_toArray (by simp [Value.oneCell'])) ?_))
  try simp only [Exit.inBlock, Exit.then]
  refine bodyPost_ret (results_cell_bx rfl _ _ b _ _ rfl (hB3.self.range) Try.underlying46 rfl (by kernel_rfl)) rfl ?_
  refine fin_end hB3 hK3 hg0 (Nat.le_of_eq HB.out) hr3 hlob hg (x := (⟨y1, zE, zB, 0, 0, 0, zN⟩ : Record)) ?ow ?sp
  case ow => exact fun _ _ _ => ⟨_, rfl, _, _, _, _, _, _, _, _, rfl, Sl.nil _ _ _, Sl.nil _ _ _, Sl.nil _ _ _, Sl.nil _ _ _, Sl.nil _ _ _, Sl.nil _ _ _, Sl.nil _ _ _, Sl.nil _ _ _⟩
  case sp =>
    refine hs1.bind ?_
    simp only [h0, h1, h2, h3, h4, if_false]
    exact SpecP.no _ _ _ _
theorem rdRecord_real : Real Try.prog 54 := ⟨_, Try.func54, by kernel_rfl, by kernel_rfl⟩
end Go.Proofs.Ytmeafoakbkjifaa
