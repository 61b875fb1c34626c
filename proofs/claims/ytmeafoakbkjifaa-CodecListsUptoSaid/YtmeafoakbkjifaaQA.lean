/-
The reference's reader: a length, a list of integers, the end; rights, entries.
The reference's reader: rights, entries, events.
The reference's reader: events.
A drawn region taken by hand whose last operation, number t, may change what is held.
The reference's reader: requests.
-/
import Derived.Test.YtmeafoakbkjifaaRdr15
import Derived.Test.YtmeafoakbkjifaaRefB1
import Derived.Test.YtmeafoakbkjifaaCodD2
import Derived.Test.YtmeafoakbkjifaaNB
namespace Go.Proofs.Ytmeafoakbkjifaa
set_option linter.unusedSimpArgs false
set_option linter.unusedVariables false
open Go.RowKit

/-- a length -/
def VN : World → Value → Nat → Prop := fun _ v n => v = .int .i64 (n : Int) ∧ n ≤ 1000000
theorem Ow.kg1 {base g : Nat} {w w' : World} {R : World → Prop} (h : Ow (base + 1) w.heap.size w R) (hk : Kg w w' g) (hg : g < base) : Ow (base + 1) w'.heap.size w' R :=
  (h.kg hk (by omega) (Nat.le_refl _)).wide (Nat.le_refl _) hk.size
set_option maxHeartbeats 2000000 in
theorem rLength_any (W0 : World) (g : Nat) (l : List Int) (bad : Bool) (w : World) (hr : Rdr W0 w g l bad) : Reads W0 g lenP VN l bad 68 #[.pointer (some ⟨g, 0, none⟩)] w := by
  go_enter Try.func68, Try.ntmps68
  go_wp2_with fail
  refine (rNext_any W0 g l bad w hr).mono ?_
  rintro e w1 ⟨v, n, l1, b1, rfl, hv, hs, hr1, hk1⟩
  obtain rfl := hv.here
  clear hv hr
  obtain ⟨v1, h1, h2, h3, h4, h5⟩ := hr1.cells
  have hg := hr1.lt
  have hlen := hr1.len
  obtain ⟨A, c, rfl, hc, hm⟩ := h1.form
  by_cases hn : n < 0 ∨ (l1.length : Int) < n
  · have hsp : Hid (SpecP lenP l bad 0 l1 true) := hid (hs.lenBad (l2 := l1) 0 hn)
    have hrE := hr1.bad true
    have hkE := hk1.setg 1 (.bool true)
    clear hs hr1 hk1
    by_cases hn0 : n < 0
    · have e1 : decide (n < 0) = true := decide_eq_true hn0
      go_wp2
      go_ret
      exact ⟨_, 0, l1, true, rfl, Ow.pure ⟨rfl, by omega⟩, hsp.out, hrE, hkE⟩
    · have e1 : decide (n < 0) = false := decide_eq_false hn0
      have e2 : decide ((l1.length : Int) < n) = true := decide_eq_true (by omega)
      go_wp2
      go_ret
      exact ⟨_, 0, l1, true, rfl, Ow.pure ⟨rfl, by omega⟩, hsp.out, hrE, hkE⟩
  · have e1 : decide (n < 0) = false := decide_eq_false (by omega)
    have e2 : decide ((l1.length : Int) < n) = false := decide_eq_false (by omega)
    have hsp : Hid (SpecP lenP l bad n.toNat l1 b1) := hid (hs.lenOk hn)
    have hnn := hid (show n = ((n.toNat : Nat) : Int) by omega)
    clear hs
    go_wp2
    go_ret
    exact ⟨_, n.toNat, l1, b1, rfl, Ow.pure ⟨by rw [← hnn.out]; rfl, by omega⟩, hsp.out, hr1, hk1⟩
set_option maxHeartbeats 2000000 in
theorem rList_any (W0 : World) (g : Nat) (l : List Int) (bad : Bool) (w : World) (hr : Rdr W0 w g l bad) : Reads W0 g intsP Ints l bad 103 #[.pointer (some ⟨g, 0, none⟩)] w := by
  have hg := hr.lt
  have hkp := hr.kp
  have hlo := hr.lo
  go_enter Try.func103, Try.ntmps103
  go_wp2_with fail
  refine (rLength_any W0 g l bad w hr).mono ?_
  rintro e w1 ⟨v, n, l1, b1, rfl, hv, hs, hr1, hk1⟩
  obtain ⟨rfl, hn⟩ := hv.here
  clear hv hr
  go_wp2
  go_loopw [4, 5] (fun v i wr => ∃ (xs : List Int) (l' : List Int) (b' : Bool), xs.length ≤ n ∧ i = .int .i64 (xs.length : Int) ∧ Own encInt 3 1 w.heap.size wr v xs ∧ SpecP (loopP intP xs.length) l1 b1 xs l' b' ∧ Rdr W0 wr g l' b' ∧ Kg w wr g) (fun _ i _ => n - (intOf i).toNat)
  case atStart => exact ⟨[], l1, b1, Nat.zero_le _, rfl, Own.nil _ _ _ _ _, SpecP.ret _ _ _, hr1, hk1⟩
  case round =>
    obtain ⟨xs, l2, b2, hxs, rfl, own, hs2, hr2, hk2⟩ := hrel
    clear hr1 hk1
    obtain ⟨B1, e1, rfl, he1, hf1⟩ := own.form
    by_cases hlt : xs.length < n
    · go_wp2_with fail
      refine (rNext_any W0 g l2 b2 _ hr2).mono ?_
      rintro e w3 ⟨v3, x, l3, b3, rfl, hv3, hs3, hr3, hk3⟩
      obtain rfl := hv3.here
      have own3 := own.kg hk3 hg
      have hk4 := hk2.trans hk3
      have hs4 : SpecP (loopP intP (xs.length + 1)) l1 b1 (xs ++ [x]) l3 b3 := by rw [loopP_snoc]; exact hs2.bind (hs3.bind (SpecP.ret _ _ _))
      clear hv3 hs3 hk3 hs2 own hr2
      go_wp2_with (at_builtin; refine wpl_append_flat rfl (.tmp 13) (.tmp 16) rfl stInt' encInt_len encInt_one rfl (own3.alloc _) rfl (litInts [x] _ rfl (by simp) 1 rfl) (by simp; omega) (by simp; omega) (by have := hk4.size; simp; omega) ?_; intro v4 w4 hown4 hgrow4 hat4 hnil4)
      have hge := own3.ge
      have hz := hk4.size
      have hk5 : Kg w w4 g := ⟨hgrow4.os.trans hk4.os, hgrow4.tape.trans hk4.tape, hgrow4.output.trans hk4.output, by have := hgrow4.size; simp at this; omega, fun k hk hne => by rw [hgrow4.block k (by simp; omega) (fun e => by have := hge k e.symm; omega), heap_alloc_old _ _ (by omega)]; exact hk4.block k hk hne⟩
      have hg4 : w4.heap[g]? = w3.heap[g]? := by rw [hgrow4.block g (by simp; omega) (fun e => by have := hge g e.symm; omega), heap_alloc_old _ _ (by omega)]
      have hr4 := hr3.keepG (Kg.to_kp hkp hk5 hlo) hg4
      go_roundw
      case rel => exact ⟨xs ++ [x], l3, b3, by simp; omega, by simp, hown4, by simpa using hs4, hr4, hk5⟩
      case measure => simp [intOf]; omega
    · obtain rfl : xs.length = n := by omega
      have hsp : Hid (SpecP intsP l bad xs l2 b2) := hid (SpecP.bind hs hs2)
      clear hs hs2
      go_wp2
      go_ret
      exact ⟨_, xs, l2, b2, rfl, own.ow.imp fun w2 h => h.sl encInt_len, hsp.out, hr2, hk2⟩
theorem rNext_real : Real Try.prog 101 := ⟨_, Try.func101, by kernel_rfl, by kernel_rfl⟩
set_option maxHeartbeats 1000000 in
theorem rDone_any (W0 : World) (g : Nat) (l : List Int) (bad : Bool) (w : World) (hr : Rdr W0 w g l bad) : Calls Try.prog 70 #[.pointer (some ⟨g, 0, none⟩)] w fun e w' => e = .returned (.bool (!bad && l.isEmpty)) ∧ w' = w := by
  obtain ⟨v, h1, h2, h3, h4, h5⟩ := hr.cells
  have hg := hr.lt
  obtain ⟨A, c, rfl, hc, hm⟩ := h1.form
  cases bad with
  | true =>
    go_enter Try.func70, Try.ntmps70
    go_wp2
    go_ret
    exact ⟨rfl, rfl⟩
  | false =>
    cases l with
    | nil =>
      simp only [List.length_nil] at *
      go_enter Try.func70, Try.ntmps70
      go_wp2
      go_ret
      exact ⟨rfl, rfl⟩
    | cons a l =>
      have e1 : decide ((((a :: l).length : Nat) : Int) = 0) = false := decide_eq_false (by simp; omega)
      have e2 : ((((a :: l).length : Nat) : Int) == 0) = false := by simp; omega
      generalize (a :: l).length = q at *
      go_enter Try.func70, Try.ntmps70
      go_wp2
      go_ret
      exact ⟨rfl, rfl⟩
end Go.Proofs.Ytmeafoakbkjifaa
namespace Go.Proofs.Ytmeafoakbkjifaa
set_option linter.unusedSimpArgs false
set_option linter.unusedVariables false
open Go.RowKit

theorem Ow.kge {base top g : Nat} {w w' : World} {R : World → Prop} (h : Ow (base + 1) top w R) (hk : Kg w w' g) (hg : g < base) (ht : top ≤ w.heap.size) : Ow (base + 1) top w' R := h.kg hk (by omega) ht
theorem Ow.kbe {base g b : Nat} {w w' : World} {R : World → Prop} (h : Ow (base + 1) b w R) (hk : Kb g b w w') (hg : g < base) (ht : b ≤ w.heap.size) : Ow (base + 1) b w' R :=
  h.step hk.size fun k h1 h2 => hk.block k (by omega) (by omega) (by omega)
theorem Ow.keepP {base : Nat} {w w' : World} {R : World → Prop} (h : Ow base w.heap.size w R) (hk : Kp w w') : Ow base w.heap.size w' R := h.step hk.size fun k _ h2 => hk.block h2
theorem Bx.put {w w2 : World} {b b2 : Nat} {Z cs : List Value} (hZ : Bx w b Z) (_ : Bx w2 b2 cs) (hl : cs.length = Z.length) : Bx (w.setCells b 0 cs) b cs := hZ.all hl
theorem fin2 {α : Type} {W0 w w1 : World} {g b : Nat} {P : Ps α} {Q : World → Value → α → Prop} {l l' : List Int} {bad bad' : Bool} {v : Value} {x : α} {cs : List Value} (hk : Kg w w1 g) (hb : w.heap.size ≤ b)
    (hr : Rdr W0 w1 g l' bad') (hlo : W0.heap.size ≤ b) (hg : g < b) (ow : Ow (b + 1) w1.heap.size w1 fun w2 => Q w2 v x) (sp : SpecP P l bad x l' bad') : ReadEnd W0 g P Q l bad w (.returned v) (w1.setCells b 0 cs) := by
  have hk2 := Kb.setCells cs 0 _ (Kb.refl g b w1)
  refine ⟨v, x, l', bad', rfl, ?_, sp, hr.kb hk2 hlo (setCells_block _ g (by omega) cs 0 w1), hk2.kg hk hb⟩
  rw [setCells_size]
  exact (ow.kb hk2 (by omega) (by omega) (Nat.le_refl _)).wide (by omega) (Nat.le_refl _)
set_option maxHeartbeats 2000000 in
theorem rNeed_any (W0 : World) (g : Nat) (l : List Int) (bad : Bool) (w : World) (hr : Rdr W0 w g l bad) : Reads W0 g needP (VA (Pl encNeed)) l bad 104 #[.pointer (some ⟨g, 0, none⟩)] w := by
  have hg := hr.lt
  have hlo := hr.lo
  have k0 := (Kp.refl w).alloc (.cells #[.int .i64 0, .int .i64 0, .int .i64 0, .int .i64 0] 35)
  have hr0 := hr.keep k0
  have hZ := Bx.new w #[.int .i64 0, .int .i64 0, .int .i64 0, .int .i64 0] 35
  have hq0 := k0.kg g
  go_enter Try.func104, Try.ntmps104
  go_wp2_with fail
  try rw [← World.size_alloc w (.cells #[.int .i64 0, .int .i64 0, .int .i64 0, .int .i64 0] 35)]
  generalize w.alloc (.cells #[.int .i64 0, .int .i64 0, .int .i64 0, .int .i64 0] 35) = w0 at *
  generalize hbz : w.heap.size = bz at *
  have HBZ := hid hbz
  clear hbz k0 hr
  have hlz := hZ.lt (by simp)
  have hgz : g < bz := hg
  have hloz : W0.heap.size ≤ bz := by omega
  refine (rNext_any W0 g _ _ w0 hr0).mono ?_
  rintro e w1 ⟨vq, y1, l1, bad1, rfl, hoq, hs1, hr1, hk1⟩
  obtain rfl := hoq.here
  clear hoq
  have hq1 := hq0.trans hk1
  replace hZ := hZ.keep (World.grownBy.block hk1 bz hlz (by simp; omega))
  try (first | (replace ho1 := ho1.wide (base' := b + 1) (by omega) (Nat.le_refl _)) | (replace ho1 := ho1.wide (base' := bz + 1) (by omega) (Nat.le_refl _)))
  try replace hoA := hoA.kg1 hk1 hgz
  try replace hoB := hoB.kg1 hk1 hgz
  try replace hoC := hoC.kg1 hk1 hgz
  try replace hoD := hoD.kg1 hk1 hgb
  try replace hoE := hoE.kg1 hk1 hgb
  try replace hoF := hoF.kg1 hk1 hgb
  try replace hoG := hoG.kg1 hk1 hgb
  try replace hoP := hoP.kge hk1 hgz (Nat.le_of_lt hlb)
  try replace hoQ := hoQ.kge hk1 hgz (Nat.le_of_lt hlb)
  try replace hB := hB.keep (World.grownBy.block hk1 b hlb (by simp; omega))
  try replace hlb := Nat.lt_of_lt_of_le hlb hk1.size
  replace hlz := Nat.lt_of_lt_of_le hlz hk1.size
  clear hk1 hq0 hr0
  go_wp2_with fail
  refine (rNext_any W0 g _ _ w1 hr1).mono ?_
  rintro e w2 ⟨vq, y2, l2, bad2, rfl, hoq, hs2, hr2, hk2⟩
  obtain rfl := hoq.here
  clear hoq
  have hq2 := hq1.trans hk2
  replace hZ := hZ.keep (World.grownBy.block hk2 bz hlz (by simp; omega))
  try (first | (replace ho2 := ho2.wide (base' := b + 1) (by omega) (Nat.le_refl _)) | (replace ho2 := ho2.wide (base' := bz + 1) (by omega) (Nat.le_refl _)))
  try replace hoA := hoA.kg1 hk2 hgz
  try replace hoB := hoB.kg1 hk2 hgz
  try replace hoC := hoC.kg1 hk2 hgz
  try replace hoD := hoD.kg1 hk2 hgb
  try replace hoE := hoE.kg1 hk2 hgb
  try replace hoF := hoF.kg1 hk2 hgb
  try replace hoG := hoG.kg1 hk2 hgb
  try replace hoP := hoP.kge hk2 hgz (Nat.le_of_lt hlb)
  try replace hoQ := hoQ.kge hk2 hgz (Nat.le_of_lt hlb)
  try replace hB := hB.keep (World.grownBy.block hk2 b hlb (by simp; omega))
  try replace hlb := Nat.lt_of_lt_of_le hlb hk2.size
  replace hlz := Nat.lt_of_lt_of_le hlz hk2.size
  clear hk2 hq1 hr1
  go_wp2_with fail
  refine (rNext_any W0 g _ _ w2 hr2).mono ?_
  rintro e w3 ⟨vq, y3, l3, bad3, rfl, hoq, hs3, hr3, hk3⟩
  obtain rfl := hoq.here
  clear hoq
  have hq3 := hq2.trans hk3
  replace hZ := hZ.keep (World.grownBy.block hk3 bz hlz (by simp; omega))
  try (first | (replace ho3 := ho3.wide (base' := b + 1) (by omega) (Nat.le_refl _)) | (replace ho3 := ho3.wide (base' := bz + 1) (by omega) (Nat.le_refl _)))
  try replace hoA := hoA.kg1 hk3 hgz
  try replace hoB := hoB.kg1 hk3 hgz
  try replace hoC := hoC.kg1 hk3 hgz
  try replace hoD := hoD.kg1 hk3 hgb
  try replace hoE := hoE.kg1 hk3 hgb
  try replace hoF := hoF.kg1 hk3 hgb
  try replace hoG := hoG.kg1 hk3 hgb
  try replace hoP := hoP.kge hk3 hgz (Nat.le_of_lt hlb)
  try replace hoQ := hoQ.kge hk3 hgz (Nat.le_of_lt hlb)
  try replace hB := hB.keep (World.grownBy.block hk3 b hlb (by simp; omega))
  try replace hlb := Nat.lt_of_lt_of_le hlb hk3.size
  replace hlz := Nat.lt_of_lt_of_le hlz hk3.size
  clear hk3 hq2 hr2
  go_wp2_with fail
  have kS := (Kp.refl w3).alloc (.cells #[.int .i64 y1, .int .i64 y2, .int .i64 y3, .int .i64 0] 35)
  have hB := Bx.new w3 #[.int .i64 y1, .int .i64 y2, .int .i64 y3, .int .i64 0] 35
  have hr4 := hr3.keep kS
  have hq4 := hq3.trans (kS.kg g)
  replace hZ := hZ.keep (kS.block hlz)
  try have hoP := hoA.keepP kS
  try have hoQ := hoB.keepP kS
  try clear hoA
  try clear hoB
  try rw [← World.size_alloc w3 (.cells #[.int .i64 y1, .int .i64 y2, .int .i64 y3, .int .i64 0] 35)]
  have hbz1 : bz < w3.heap.size := hlz
  replace hlz := Nat.lt_of_lt_of_le hlz kS.size
  generalize w3.alloc (.cells #[.int .i64 y1, .int .i64 y2, .int .i64 y3, .int .i64 0] 35) = w4 at *
  generalize w3.heap.size = b at *
  have hlb := hB.lt (by simp)
  have hgb : g < b := by omega
  have hlob : W0.heap.size ≤ b := by omega
  have hzb : bz ≠ b := by omega
  clear kS hr3 hq3
  refine (rNext_any W0 g _ _ w4 hr4).mono ?_
  rintro e w5 ⟨vq, y5, l5, bad5, rfl, hoq, hs5, hr5, hk5⟩
  obtain rfl := hoq.here
  clear hoq
  have hq5 := hq4.trans hk5
  replace hZ := hZ.keep (World.grownBy.block hk5 bz hlz (by simp; omega))
  try (first | (replace ho5 := ho5.wide (base' := b + 1) (by omega) (Nat.le_refl _)) | (replace ho5 := ho5.wide (base' := bz + 1) (by omega) (Nat.le_refl _)))
  try replace hoA := hoA.kg1 hk5 hgz
  try replace hoB := hoB.kg1 hk5 hgz
  try replace hoC := hoC.kg1 hk5 hgz
  try replace hoD := hoD.kg1 hk5 hgb
  try replace hoE := hoE.kg1 hk5 hgb
  try replace hoF := hoF.kg1 hk5 hgb
  try replace hoG := hoG.kg1 hk5 hgb
  try replace hoP := hoP.kge hk5 hgz (Nat.le_of_lt hlb)
  try replace hoQ := hoQ.kge hk5 hgz (Nat.le_of_lt hlb)
  try replace hB := hB.keep (World.grownBy.block hk5 b hlb (by simp; omega))
  try replace hlb := Nat.lt_of_lt_of_le hlb hk5.size
  replace hlz := Nat.lt_of_lt_of_le hlz hk5.size
  clear hk5 hq4 hr4
  have f1 := hB.cell (j := 3) rfl
  have f2 := hB.free (j := 3) (by simp)
  have hBk := hB.set (j := 3) (by simp) (.int .i64 y5)
  simp only [List.set_cons_zero, List.set_cons_succ] at hBk
  have hkS := (Kb.refl g b w5).set 3 (.int .i64 y5)
  have hr6 := hr5.kb hkS hlob (set_block _ _ _ _ (by show g ≠ b; omega))
  have hq6 := hkS.kg hq5 (by have := HBZ.out; omega)
  replace hZ := hZ.keep (set_block w5 ⟨b, 3, none⟩ (.int .i64 y5) bz hzb)
  try replace hoD := hoD.kb2 hkS hgb
  try replace hoE := hoE.kb2 hkS hgb
  try replace hoF := hoF.kb2 hkS hgb
  try replace hoG := hoG.kb2 hkS hgb
  try replace hoP := hoP.kbe hkS hgz (Nat.le_of_lt hlb)
  try replace hoQ := hoQ.kbe hkS hgz (Nat.le_of_lt hlb)
  have hsz := set_size w5 ⟨b, 3, none⟩ (.int .i64 y5)
  have hlb' := hlb
  have hlz' := hlz
  rw [← hsz] at hlb' hlz'
  clear hkS hr5 hq5 hB
  have hR := hZ.put hBk (by simp)
  have hth := hZ.there
  go_wp2_with (first | (refine wpList_load_mid rfl 35 (.tmp 3) rfl b 0 rfl _ _ hBk.range Try.underlying35 rfl (by kernel_rfl) ?_) | (refine wpList_store_mid rfl 35 (.tmp 2) (.tmp 15) rfl bz 0 _ rfl rfl hth (by kernel_rfl) (all_oneCell_toArray (by simp [Value.oneCell'])) ?_))
  try simp only [Exit.inBlock, Exit.then]
  refine bodyPost_ret (results_cell_bx rfl _ _ bz _ _ rfl hR.range Try.underlying35 rfl (by kernel_rfl)) rfl ?_
  refine fin2 hq6 (Nat.le_of_eq HBZ.out) hr6 hloz hgz (x := (⟨y1, y2, y3, y5⟩ : Need)) ?ow ?sp
  case ow => exact fun _ _ _ => ⟨_, rfl, rfl⟩
  case sp => exact hs1.bind (hs2.bind (hs3.bind (hs5.bind (SpecP.ret _ _ _))))
theorem rNeed_real : Real Try.prog 104 := ⟨_, Try.func104, by kernel_rfl, by kernel_rfl⟩
set_option maxHeartbeats 2000000 in
theorem rEntry_any (W0 : World) (g : Nat) (l : List Int) (bad : Bool) (w : World) (hr : Rdr W0 w g l bad) : Reads W0 g entryP (VA rdEntry) l bad 102 #[.pointer (some ⟨g, 0, none⟩)] w := by
  have hg := hr.lt
  have hlo := hr.lo
  have k0 := (Kp.refl w).alloc (.cells #[.int .i64 0, .int .i64 0, .int .i64 0, .int .i64 0, .int .i64 0, .slice none 0 0] 44)
  have hr0 := hr.keep k0
  have hZ := Bx.new w #[.int .i64 0, .int .i64 0, .int .i64 0, .int .i64 0, .int .i64 0, .slice none 0 0] 44
  have hq0 := k0.kg g
  go_enter Try.func102, Try.ntmps102
  go_wp2_with fail
  try rw [← World.size_alloc w (.cells #[.int .i64 0, .int .i64 0, .int .i64 0, .int .i64 0, .int .i64 0, .slice none 0 0] 44)]
  generalize w.alloc (.cells #[.int .i64 0, .int .i64 0, .int .i64 0, .int .i64 0, .int .i64 0, .slice none 0 0] 44) = w0 at *
  generalize hbz : w.heap.size = bz at *
  have HBZ := hid hbz
  clear hbz k0 hr
  have hlz := hZ.lt (by simp)
  have hgz : g < bz := hg
  have hloz : W0.heap.size ≤ bz := by omega
  refine (rNext_any W0 g _ _ w0 hr0).mono ?_
  rintro e w1 ⟨vq, y1, l1, bad1, rfl, hoq, hs1, hr1, hk1⟩
  obtain rfl := hoq.here
  clear hoq
  have hq1 := hq0.trans hk1
  replace hZ := hZ.keep (World.grownBy.block hk1 bz hlz (by simp; omega))
  try (first | (replace ho1 := ho1.wide (base' := b + 1) (by omega) (Nat.le_refl _)) | (replace ho1 := ho1.wide (base' := bz + 1) (by omega) (Nat.le_refl _)))
  try replace hoA := hoA.kg1 hk1 hgz
  try replace hoB := hoB.kg1 hk1 hgz
  try replace hoC := hoC.kg1 hk1 hgz
  try replace hoD := hoD.kg1 hk1 hgb
  try replace hoE := hoE.kg1 hk1 hgb
  try replace hoF := hoF.kg1 hk1 hgb
  try replace hoG := hoG.kg1 hk1 hgb
  try replace hoP := hoP.kge hk1 hgz (Nat.le_of_lt hlb)
  try replace hoQ := hoQ.kge hk1 hgz (Nat.le_of_lt hlb)
  try replace hB := hB.keep (World.grownBy.block hk1 b hlb (by simp; omega))
  try replace hlb := Nat.lt_of_lt_of_le hlb hk1.size
  replace hlz := Nat.lt_of_lt_of_le hlz hk1.size
  clear hk1 hq0 hr0
  go_wp2_with fail
  refine (rNext_any W0 g _ _ w1 hr1).mono ?_
  rintro e w2 ⟨vq, y2, l2, bad2, rfl, hoq, hs2, hr2, hk2⟩
  obtain rfl := hoq.here
  clear hoq
  have hq2 := hq1.trans hk2
  replace hZ := hZ.keep (World.grownBy.block hk2 bz hlz (by simp; omega))
  try (first | (replace ho2 := ho2.wide (base' := b + 1) (by omega) (Nat.le_refl _)) | (replace ho2 := ho2.wide (base' := bz + 1) (by omega) (Nat.le_refl _)))
  try replace hoA := hoA.kg1 hk2 hgz
  try replace hoB := hoB.kg1 hk2 hgz
  try replace hoC := hoC.kg1 hk2 hgz
  try replace hoD := hoD.kg1 hk2 hgb
  try replace hoE := hoE.kg1 hk2 hgb
  try replace hoF := hoF.kg1 hk2 hgb
  try replace hoG := hoG.kg1 hk2 hgb
  try replace hoP := hoP.kge hk2 hgz (Nat.le_of_lt hlb)
  try replace hoQ := hoQ.kge hk2 hgz (Nat.le_of_lt hlb)
  try replace hB := hB.keep (World.grownBy.block hk2 b hlb (by simp; omega))
  try replace hlb := Nat.lt_of_lt_of_le hlb hk2.size
  replace hlz := Nat.lt_of_lt_of_le hlz hk2.size
  clear hk2 hq1 hr1
  go_wp2_with fail
  refine (rNext_any W0 g _ _ w2 hr2).mono ?_
  rintro e w3 ⟨vq, y3, l3, bad3, rfl, hoq, hs3, hr3, hk3⟩
  obtain rfl := hoq.here
  clear hoq
  have hq3 := hq2.trans hk3
  replace hZ := hZ.keep (World.grownBy.block hk3 bz hlz (by simp; omega))
  try (first | (replace ho3 := ho3.wide (base' := b + 1) (by omega) (Nat.le_refl _)) | (replace ho3 := ho3.wide (base' := bz + 1) (by omega) (Nat.le_refl _)))
  try replace hoA := hoA.kg1 hk3 hgz
  try replace hoB := hoB.kg1 hk3 hgz
  try replace hoC := hoC.kg1 hk3 hgz
  try replace hoD := hoD.kg1 hk3 hgb
  try replace hoE := hoE.kg1 hk3 hgb
  try replace hoF := hoF.kg1 hk3 hgb
  try replace hoG := hoG.kg1 hk3 hgb
  try replace hoP := hoP.kge hk3 hgz (Nat.le_of_lt hlb)
  try replace hoQ := hoQ.kge hk3 hgz (Nat.le_of_lt hlb)
  try replace hB := hB.keep (World.grownBy.block hk3 b hlb (by simp; omega))
  try replace hlb := Nat.lt_of_lt_of_le hlb hk3.size
  replace hlz := Nat.lt_of_lt_of_le hlz hk3.size
  clear hk3 hq2 hr2
  go_wp2_with fail
  refine (rNext_any W0 g _ _ w3 hr3).mono ?_
  rintro e w4 ⟨vq, y4, l4, bad4, rfl, hoq, hs4, hr4, hk4⟩
  obtain rfl := hoq.here
  clear hoq
  have hq4 := hq3.trans hk4
  replace hZ := hZ.keep (World.grownBy.block hk4 bz hlz (by simp; omega))
  try (first | (replace ho4 := ho4.wide (base' := b + 1) (by omega) (Nat.le_refl _)) | (replace ho4 := ho4.wide (base' := bz + 1) (by omega) (Nat.le_refl _)))
  try replace hoA := hoA.kg1 hk4 hgz
  try replace hoB := hoB.kg1 hk4 hgz
  try replace hoC := hoC.kg1 hk4 hgz
  try replace hoD := hoD.kg1 hk4 hgb
  try replace hoE := hoE.kg1 hk4 hgb
  try replace hoF := hoF.kg1 hk4 hgb
  try replace hoG := hoG.kg1 hk4 hgb
  try replace hoP := hoP.kge hk4 hgz (Nat.le_of_lt hlb)
  try replace hoQ := hoQ.kge hk4 hgz (Nat.le_of_lt hlb)
  try replace hB := hB.keep (World.grownBy.block hk4 b hlb (by simp; omega))
  try replace hlb := Nat.lt_of_lt_of_le hlb hk4.size
  replace hlz := Nat.lt_of_lt_of_le hlz hk4.size
  clear hk4 hq3 hr3
  go_wp2_with fail
  refine (rNext_any W0 g _ _ w4 hr4).mono ?_
  rintro e w5 ⟨vq, y5, l5, bad5, rfl, hoq, hs5, hr5, hk5⟩
  obtain rfl := hoq.here
  clear hoq
  have hq5 := hq4.trans hk5
  replace hZ := hZ.keep (World.grownBy.block hk5 bz hlz (by simp; omega))
  try (first | (replace ho5 := ho5.wide (base' := b + 1) (by omega) (Nat.le_refl _)) | (replace ho5 := ho5.wide (base' := bz + 1) (by omega) (Nat.le_refl _)))
  try replace hoA := hoA.kg1 hk5 hgz
  try replace hoB := hoB.kg1 hk5 hgz
  try replace hoC := hoC.kg1 hk5 hgz
  try replace hoD := hoD.kg1 hk5 hgb
  try replace hoE := hoE.kg1 hk5 hgb
  try replace hoF := hoF.kg1 hk5 hgb
  try replace hoG := hoG.kg1 hk5 hgb
  try replace hoP := hoP.kge hk5 hgz (Nat.le_of_lt hlb)
  try replace hoQ := hoQ.kge hk5 hgz (Nat.le_of_lt hlb)
  try replace hB := hB.keep (World.grownBy.block hk5 b hlb (by simp; omega))
  try replace hlb := Nat.lt_of_lt_of_le hlb hk5.size
  replace hlz := Nat.lt_of_lt_of_le hlz hk5.size
  clear hk5 hq4 hr4
  go_wp2_with fail
  refine (rList_any W0 g _ _ w5 hr5).mono ?_
  rintro e w6 ⟨v6, y6, l6, bad6, rfl, ho6, hs6, hr6, hk6⟩
  have hq6 := hq5.trans hk6
  replace hZ := hZ.keep (World.grownBy.block hk6 bz hlz (by simp; omega))
  try (first | (replace ho6 := ho6.wide (base' := b + 1) (by omega) (Nat.le_refl _)) | (replace ho6 := ho6.wide (base' := bz + 1) (by omega) (Nat.le_refl _)))
  try replace hoA := hoA.kg1 hk6 hgz
  try replace hoB := hoB.kg1 hk6 hgz
  try replace hoC := hoC.kg1 hk6 hgz
  try replace hoD := hoD.kg1 hk6 hgb
  try replace hoE := hoE.kg1 hk6 hgb
  try replace hoF := hoF.kg1 hk6 hgb
  try replace hoG := hoG.kg1 hk6 hgb
  try replace hoP := hoP.kge hk6 hgz (Nat.le_of_lt hlb)
  try replace hoQ := hoQ.kge hk6 hgz (Nat.le_of_lt hlb)
  try replace hB := hB.keep (World.grownBy.block hk6 b hlb (by simp; omega))
  try replace hlb := Nat.lt_of_lt_of_le hlb hk6.size
  replace hlz := Nat.lt_of_lt_of_le hlz hk6.size
  clear hk6 hq5 hr5
  obtain ⟨A6, c6, rfl, hc6, hm6⟩ := ho6.here.form
  have hR := hZ.all (cs := [.int .i64 y1, .int .i64 y2, .int .i64 y3, .int .i64 y4, .int .i64 y5, .slice A6 y6.length c6]) rfl
  have hth := hZ.there
  go_wp2_with (refine wpList_store_mid rfl 44 (.tmp 2) (.tmp 15) rfl bz 0 _ rfl rfl hth (by kernel_rfl) (all_oneCell_toArray (by simp [Value.oneCell'])) ?_)
  try simp only [Exit.inBlock, Exit.then]
  refine bodyPost_ret (results_cell_bx rfl _ _ bz _ _ rfl hR.range Try.underlying44 rfl (by kernel_rfl)) rfl ?_
  refine fin2 hq6 (Nat.le_of_eq HBZ.out) hr6 hloz hgz (x := (⟨y1, y2, y3, y4, y5, y6⟩ : Entry)) ?ow ?sp
  case ow => exact ho6.imp fun _ h => ⟨_, rfl, _, rfl, h⟩
  case sp => exact hs1.bind (hs2.bind (hs3.bind (hs4.bind (hs5.bind (hs6.bind (SpecP.ret _ _ _))))))
theorem rEntry_real : Real Try.prog 102 := ⟨_, Try.func102, by kernel_rfl, by kernel_rfl⟩
end Go.Proofs.Ytmeafoakbkjifaa
namespace Go.Proofs.Ytmeafoakbkjifaa
set_option linter.unusedSimpArgs false
set_option linter.unusedVariables false
open Go.RowKit

set_option maxHeartbeats 4000000 in
theorem rEvent_any (W0 : World) (g : Nat) (l : List Int) (bad : Bool) (w : World) (hr : Rdr W0 w g l bad) : Reads W0 g eventP (VA rdEvent) l bad 71 #[.pointer (some ⟨g, 0, none⟩)] w := by
  have hg := hr.lt
  have hlo := hr.lo
  have k0 := (Kp.refl w).alloc (.cells #[.int .i64 0, .int .i64 0, .int .i64 0, .slice none 0 0, .int .i64 0, .int .i64 0, .int .i64 0, .int .i64 0, .int .i64 0, .int .i64 0, .int .i64 0, .int .i64 0, .int .i64 0] 37)
  have hr0 := hr.keep k0
  have hZ := Bx.new w #[.int .i64 0, .int .i64 0, .int .i64 0, .slice none 0 0, .int .i64 0, .int .i64 0, .int .i64 0, .int .i64 0, .int .i64 0, .int .i64 0, .int .i64 0, .int .i64 0, .int .i64 0] 37
  have hq0 := k0.kg g
  go_enter Try.func71, Try.ntmps71
  go_wp2_with fail
  try rw [← World.size_alloc w (.cells #[.int .i64 0, .int .i64 0, .int .i64 0, .slice none 0 0, .int .i64 0, .int .i64 0, .int .i64 0, .int .i64 0, .int .i64 0, .int .i64 0, .int .i64 0, .int .i64 0, .int .i64 0] 37)]
  generalize w.alloc (.cells #[.int .i64 0, .int .i64 0, .int .i64 0, .slice none 0 0, .int .i64 0, .int .i64 0, .int .i64 0, .int .i64 0, .int .i64 0, .int .i64 0, .int .i64 0, .int .i64 0, .int .i64 0] 37) = w0 at *
  generalize hbz : w.heap.size = bz at *
  have HBZ := hid hbz
  clear hbz k0 hr
  have hlz := hZ.lt (by simp)
  have hgz : g < bz := hg
  have hloz : W0.heap.size ≤ bz := by omega
  refine (rNext_any W0 g _ _ w0 hr0).mono ?_
  rintro e w1 ⟨vq, y1, l1, bad1, rfl, hoq, hs1, hr1, hk1⟩
  obtain rfl := hoq.here
  clear hoq
  have hq1 := hq0.trans hk1
  replace hZ := hZ.keep (World.grownBy.block hk1 bz hlz (by simp; omega))
  try (first | (replace ho1 := ho1.wide (base' := b + 1) (by omega) (Nat.le_refl _)) | (replace ho1 := ho1.wide (base' := bz + 1) (by omega) (Nat.le_refl _)))
  try replace hoA := hoA.kg1 hk1 hgz
  try replace hoB := hoB.kg1 hk1 hgz
  try replace hoC := hoC.kg1 hk1 hgz
  try replace hoD := hoD.kg1 hk1 hgb
  try replace hoE := hoE.kg1 hk1 hgb
  try replace hoF := hoF.kg1 hk1 hgb
  try replace hoG := hoG.kg1 hk1 hgb
  try replace hoP := hoP.kge hk1 hgz (Nat.le_of_lt hlb)
  try replace hoQ := hoQ.kge hk1 hgz (Nat.le_of_lt hlb)
  try replace hB := hB.keep (World.grownBy.block hk1 b hlb (by simp; omega))
  try replace hlb := Nat.lt_of_lt_of_le hlb hk1.size
  replace hlz := Nat.lt_of_lt_of_le hlz hk1.size
  clear hk1 hq0 hr0
  go_wp2_with fail
  refine (rNext_any W0 g _ _ w1 hr1).mono ?_
  rintro e w2 ⟨vq, y2, l2, bad2, rfl, hoq, hs2, hr2, hk2⟩
  obtain rfl := hoq.here
  clear hoq
  have hq2 := hq1.trans hk2
  replace hZ := hZ.keep (World.grownBy.block hk2 bz hlz (by simp; omega))
  try (first | (replace ho2 := ho2.wide (base' := b + 1) (by omega) (Nat.le_refl _)) | (replace ho2 := ho2.wide (base' := bz + 1) (by omega) (Nat.le_refl _)))
  try replace hoA := hoA.kg1 hk2 hgz
  try replace hoB := hoB.kg1 hk2 hgz
  try replace hoC := hoC.kg1 hk2 hgz
  try replace hoD := hoD.kg1 hk2 hgb
  try replace hoE := hoE.kg1 hk2 hgb
  try replace hoF := hoF.kg1 hk2 hgb
  try replace hoG := hoG.kg1 hk2 hgb
  try replace hoP := hoP.kge hk2 hgz (Nat.le_of_lt hlb)
  try replace hoQ := hoQ.kge hk2 hgz (Nat.le_of_lt hlb)
  try replace hB := hB.keep (World.grownBy.block hk2 b hlb (by simp; omega))
  try replace hlb := Nat.lt_of_lt_of_le hlb hk2.size
  replace hlz := Nat.lt_of_lt_of_le hlz hk2.size
  clear hk2 hq1 hr1
  go_wp2_with fail
  refine (rNext_any W0 g _ _ w2 hr2).mono ?_
  rintro e w3 ⟨vq, y3, l3, bad3, rfl, hoq, hs3, hr3, hk3⟩
  obtain rfl := hoq.here
  clear hoq
  have hq3 := hq2.trans hk3
  replace hZ := hZ.keep (World.grownBy.block hk3 bz hlz (by simp; omega))
  try (first | (replace ho3 := ho3.wide (base' := b + 1) (by omega) (Nat.le_refl _)) | (replace ho3 := ho3.wide (base' := bz + 1) (by omega) (Nat.le_refl _)))
  try replace hoA := hoA.kg1 hk3 hgz
  try replace hoB := hoB.kg1 hk3 hgz
  try replace hoC := hoC.kg1 hk3 hgz
  try replace hoD := hoD.kg1 hk3 hgb
  try replace hoE := hoE.kg1 hk3 hgb
  try replace hoF := hoF.kg1 hk3 hgb
  try replace hoG := hoG.kg1 hk3 hgb
  try replace hoP := hoP.kge hk3 hgz (Nat.le_of_lt hlb)
  try replace hoQ := hoQ.kge hk3 hgz (Nat.le_of_lt hlb)
  try replace hB := hB.keep (World.grownBy.block hk3 b hlb (by simp; omega))
  try replace hlb := Nat.lt_of_lt_of_le hlb hk3.size
  replace hlz := Nat.lt_of_lt_of_le hlz hk3.size
  clear hk3 hq2 hr2
  go_wp2_with fail
  have kS := (Kp.refl w3).alloc (.cells #[.int .i64 y1, .int .i64 y2, .int .i64 y3, .slice none 0 0, .int .i64 0, .int .i64 0, .int .i64 0, .int .i64 0, .int .i64 0, .int .i64 0, .int .i64 0, .int .i64 0, .int .i64 0] 37)
  have hB := Bx.new w3 #[.int .i64 y1, .int .i64 y2, .int .i64 y3, .slice none 0 0, .int .i64 0, .int .i64 0, .int .i64 0, .int .i64 0, .int .i64 0, .int .i64 0, .int .i64 0, .int .i64 0, .int .i64 0] 37
  have hr4 := hr3.keep kS
  have hq4 := hq3.trans (kS.kg g)
  replace hZ := hZ.keep (kS.block hlz)
  try have hoP := hoA.keepP kS
  try have hoQ := hoB.keepP kS
  try clear hoA
  try clear hoB
  try rw [← World.size_alloc w3 (.cells #[.int .i64 y1, .int .i64 y2, .int .i64 y3, .slice none 0 0, .int .i64 0, .int .i64 0, .int .i64 0, .int .i64 0, .int .i64 0, .int .i64 0, .int .i64 0, .int .i64 0, .int .i64 0] 37)]
  have hbz1 : bz < w3.heap.size := hlz
  replace hlz := Nat.lt_of_lt_of_le hlz kS.size
  generalize w3.alloc (.cells #[.int .i64 y1, .int .i64 y2, .int .i64 y3, .slice none 0 0, .int .i64 0, .int .i64 0, .int .i64 0, .int .i64 0, .int .i64 0, .int .i64 0, .int .i64 0, .int .i64 0, .int .i64 0] 37) = w4 at *
  generalize w3.heap.size = b at *
  have hlb := hB.lt (by simp)
  have hgb : g < b := by omega
  have hlob : W0.heap.size ≤ b := by omega
  have hzb : bz ≠ b := by omega
  clear kS hr3 hq3
  refine (rList_any W0 g _ _ w4 hr4).mono ?_
  rintro e w5 ⟨v5, y5, l5, bad5, rfl, ho5, hs5, hr5, hk5⟩
  have hq5 := hq4.trans hk5
  replace hZ := hZ.keep (World.grownBy.block hk5 bz hlz (by simp; omega))
  try (first | (replace ho5 := ho5.wide (base' := b + 1) (by omega) (Nat.le_refl _)) | (replace ho5 := ho5.wide (base' := bz + 1) (by omega) (Nat.le_refl _)))
  try replace hoA := hoA.kg1 hk5 hgz
  try replace hoB := hoB.kg1 hk5 hgz
  try replace hoC := hoC.kg1 hk5 hgz
  try replace hoD := hoD.kg1 hk5 hgb
  try replace hoE := hoE.kg1 hk5 hgb
  try replace hoF := hoF.kg1 hk5 hgb
  try replace hoG := hoG.kg1 hk5 hgb
  try replace hoP := hoP.kge hk5 hgz (Nat.le_of_lt hlb)
  try replace hoQ := hoQ.kge hk5 hgz (Nat.le_of_lt hlb)
  try replace hB := hB.keep (World.grownBy.block hk5 b hlb (by simp; omega))
  try replace hlb := Nat.lt_of_lt_of_le hlb hk5.size
  replace hlz := Nat.lt_of_lt_of_le hlz hk5.size
  clear hk5 hq4 hr4
  obtain ⟨A5, c5, rfl, hc5, hm5⟩ := ho5.here.form
  have hoD := ho5
  clear ho5
  have f1 := hB.cell (j := 3) rfl
  have f2 := hB.free (j := 3) (by simp)
  have hBk := hB.set (j := 3) (by simp) (.slice A5 y5.length c5)
  simp only [List.set_cons_zero, List.set_cons_succ] at hBk
  have hkS := (Kb.refl g b w5).set 3 (.slice A5 y5.length c5)
  have hr6 := hr5.kb hkS hlob (set_block _ _ _ _ (by show g ≠ b; omega))
  have hq6 := hkS.kg hq5 (by have := HBZ.out; omega)
  replace hZ := hZ.keep (set_block w5 ⟨b, 3, none⟩ (.slice A5 y5.length c5) bz hzb)
  try replace hoD := hoD.kb2 hkS hgb
  try replace hoE := hoE.kb2 hkS hgb
  try replace hoF := hoF.kb2 hkS hgb
  try replace hoG := hoG.kb2 hkS hgb
  try replace hoP := hoP.kbe hkS hgz (Nat.le_of_lt hlb)
  try replace hoQ := hoQ.kbe hkS hgz (Nat.le_of_lt hlb)
  have hsz := set_size w5 ⟨b, 3, none⟩ (.slice A5 y5.length c5)
  have hlb' := hlb
  have hlz' := hlz
  rw [← hsz] at hlb' hlz'
  clear hkS hr5 hq5
  go_wp2_with fail
  try rw [← hsz]
  generalize w5.setCell ⟨b, 3, none⟩ (.slice A5 y5.length c5) = w6 at *
  clear f1 f2 hsz hB hlb hlz
  have hB := hBk
  have hlb := hlb'
  have hlz := hlz'
  clear hBk hlb' hlz'
  refine (rNext_any W0 g _ _ w6 hr6).mono ?_
  rintro e w7 ⟨vq, y7, l7, bad7, rfl, hoq, hs7, hr7, hk7⟩
  obtain rfl := hoq.here
  clear hoq
  have hq7 := hq6.trans hk7
  replace hZ := hZ.keep (World.grownBy.block hk7 bz hlz (by simp; omega))
  try (first | (replace ho7 := ho7.wide (base' := b + 1) (by omega) (Nat.le_refl _)) | (replace ho7 := ho7.wide (base' := bz + 1) (by omega) (Nat.le_refl _)))
  try replace hoA := hoA.kg1 hk7 hgz
  try replace hoB := hoB.kg1 hk7 hgz
  try replace hoC := hoC.kg1 hk7 hgz
  try replace hoD := hoD.kg1 hk7 hgb
  try replace hoE := hoE.kg1 hk7 hgb
  try replace hoF := hoF.kg1 hk7 hgb
  try replace hoG := hoG.kg1 hk7 hgb
  try replace hoP := hoP.kge hk7 hgz (Nat.le_of_lt hlb)
  try replace hoQ := hoQ.kge hk7 hgz (Nat.le_of_lt hlb)
  try replace hB := hB.keep (World.grownBy.block hk7 b hlb (by simp; omega))
  try replace hlb := Nat.lt_of_lt_of_le hlb hk7.size
  replace hlz := Nat.lt_of_lt_of_le hlz hk7.size
  clear hk7 hq6 hr6
  have f1 := hB.cell (j := 4) rfl
  have f2 := hB.free (j := 4) (by simp)
  have hBk := hB.set (j := 4) (by simp) (.int .i64 y7)
  simp only [List.set_cons_zero, List.set_cons_succ] at hBk
  have hkS := (Kb.refl g b w7).set 4 (.int .i64 y7)
  have hr8 := hr7.kb hkS hlob (set_block _ _ _ _ (by show g ≠ b; omega))
  have hq8 := hkS.kg hq7 (by have := HBZ.out; omega)
  replace hZ := hZ.keep (set_block w7 ⟨b, 4, none⟩ (.int .i64 y7) bz hzb)
  try replace hoD := hoD.kb2 hkS hgb
  try replace hoE := hoE.kb2 hkS hgb
  try replace hoF := hoF.kb2 hkS hgb
  try replace hoG := hoG.kb2 hkS hgb
  try replace hoP := hoP.kbe hkS hgz (Nat.le_of_lt hlb)
  try replace hoQ := hoQ.kbe hkS hgz (Nat.le_of_lt hlb)
  have hsz := set_size w7 ⟨b, 4, none⟩ (.int .i64 y7)
  have hlb' := hlb
  have hlz' := hlz
  rw [← hsz] at hlb' hlz'
  clear hkS hr7 hq7
  go_wp2_with fail
  try rw [← hsz]
  generalize w7.setCell ⟨b, 4, none⟩ (.int .i64 y7) = w8 at *
  clear f1 f2 hsz hB hlb hlz
  have hB := hBk
  have hlb := hlb'
  have hlz := hlz'
  clear hBk hlb' hlz'
  refine (rNext_any W0 g _ _ w8 hr8).mono ?_
  rintro e w9 ⟨vq, y9, l9, bad9, rfl, hoq, hs9, hr9, hk9⟩
  obtain rfl := hoq.here
  clear hoq
  have hq9 := hq8.trans hk9
  replace hZ := hZ.keep (World.grownBy.block hk9 bz hlz (by simp; omega))
  try (first | (replace ho9 := ho9.wide (base' := b + 1) (by omega) (Nat.le_refl _)) | (replace ho9 := ho9.wide (base' := bz + 1) (by omega) (Nat.le_refl _)))
  try replace hoA := hoA.kg1 hk9 hgz
  try replace hoB := hoB.kg1 hk9 hgz
  try replace hoC := hoC.kg1 hk9 hgz
  try replace hoD := hoD.kg1 hk9 hgb
  try replace hoE := hoE.kg1 hk9 hgb
  try replace hoF := hoF.kg1 hk9 hgb
  try replace hoG := hoG.kg1 hk9 hgb
  try replace hoP := hoP.kge hk9 hgz (Nat.le_of_lt hlb)
  try replace hoQ := hoQ.kge hk9 hgz (Nat.le_of_lt hlb)
  try replace hB := hB.keep (World.grownBy.block hk9 b hlb (by simp; omega))
  try replace hlb := Nat.lt_of_lt_of_le hlb hk9.size
  replace hlz := Nat.lt_of_lt_of_le hlz hk9.size
  clear hk9 hq8 hr8
  have f1 := hB.cell (j := 5) rfl
  have f2 := hB.free (j := 5) (by simp)
  have hBk := hB.set (j := 5) (by simp) (.int .i64 y9)
  simp only [List.set_cons_zero, List.set_cons_succ] at hBk
  have hkS := (Kb.refl g b w9).set 5 (.int .i64 y9)
  have hr10 := hr9.kb hkS hlob (set_block _ _ _ _ (by show g ≠ b; omega))
  have hq10 := hkS.kg hq9 (by have := HBZ.out; omega)
  replace hZ := hZ.keep (set_block w9 ⟨b, 5, none⟩ (.int .i64 y9) bz hzb)
  try replace hoD := hoD.kb2 hkS hgb
  try replace hoE := hoE.kb2 hkS hgb
  try replace hoF := hoF.kb2 hkS hgb
  try replace hoG := hoG.kb2 hkS hgb
  try replace hoP := hoP.kbe hkS hgz (Nat.le_of_lt hlb)
  try replace hoQ := hoQ.kbe hkS hgz (Nat.le_of_lt hlb)
  have hsz := set_size w9 ⟨b, 5, none⟩ (.int .i64 y9)
  have hlb' := hlb
  have hlz' := hlz
  rw [← hsz] at hlb' hlz'
  clear hkS hr9 hq9
  go_wp2_with fail
  try rw [← hsz]
  generalize w9.setCell ⟨b, 5, none⟩ (.int .i64 y9) = w10 at *
  clear f1 f2 hsz hB hlb hlz
  have hB := hBk
  have hlb := hlb'
  have hlz := hlz'
  clear hBk hlb' hlz'
  refine (rNeed_any W0 g _ _ w10 hr10).mono ?_
  rintro e w11 ⟨v11, y11, l11, bad11, rfl, ho11, hs11, hr11, hk11⟩
  have hq11 := hq10.trans hk11
  replace hZ := hZ.keep (World.grownBy.block hk11 bz hlz (by simp; omega))
  try (first | (replace ho11 := ho11.wide (base' := b + 1) (by omega) (Nat.le_refl _)) | (replace ho11 := ho11.wide (base' := bz + 1) (by omega) (Nat.le_refl _)))
  try replace hoA := hoA.kg1 hk11 hgz
  try replace hoB := hoB.kg1 hk11 hgz
  try replace hoC := hoC.kg1 hk11 hgz
  try replace hoD := hoD.kg1 hk11 hgb
  try replace hoE := hoE.kg1 hk11 hgb
  try replace hoF := hoF.kg1 hk11 hgb
  try replace hoG := hoG.kg1 hk11 hgb
  try replace hoP := hoP.kge hk11 hgz (Nat.le_of_lt hlb)
  try replace hoQ := hoQ.kge hk11 hgz (Nat.le_of_lt hlb)
  try replace hB := hB.keep (World.grownBy.block hk11 b hlb (by simp; omega))
  try replace hlb := Nat.lt_of_lt_of_le hlb hk11.size
  replace hlz := Nat.lt_of_lt_of_le hlz hk11.size
  clear hk11 hq10 hr10
  obtain ⟨cs, rfl, hcs⟩ := ho11.here
  clear ho11
  obtain ⟨hl5, h15⟩ := need_one hcs
  have hBk := hB.setCells cs 6 _ _ (by rw [hl5]; simp)
  have hth := hB.thereAt 6 (cs).length (by rw [hl5]; simp)
  have hin : (Try.prog.info? 35).map (·.size) = some (cs).toArray.size := by rw [List.size_toArray, hl5]; kernel_rfl
  have hkS := Kb.setCells cs 6 _ (Kb.refl g b w11)
  have hr12 := hr11.kb hkS hlob (setCells_block b g (by omega) cs 6 w11)
  have hq12 := hkS.kg hq11 (by have := HBZ.out; omega)
  replace hZ := hZ.keep (setCells_block b bz hzb cs 6 w11)
  try replace hoD := hoD.kb2 hkS hgb
  try replace hoE := hoE.kb2 hkS hgb
  try replace hoF := hoF.kb2 hkS hgb
  try replace hoG := hoG.kb2 hkS hgb
  try replace hoP := hoP.kbe hkS hgz (Nat.le_of_lt hlb)
  try replace hoQ := hoQ.kbe hkS hgz (Nat.le_of_lt hlb)
  have hsz := setCells_size b cs 6 w11
  have hlb' := hlb
  have hlz' := hlz
  rw [← hsz] at hlb' hlz'
  clear hkS hr11 hq11
  go_wp2_with (refine wpList_store_mid rfl 35 (.tmp 22) (.tmp 21) rfl b 6 (cs).toArray rfl rfl hth hin (all_oneCell_toArray h15) ?_)
  try rw [← hsz]
  generalize w11.setCells b 6 cs = w12 at *
  clear hth hin hsz hB hlb hlz
  have hB := hBk
  have hlb := hlb'
  have hlz := hlz'
  clear hBk hlb' hlz'
  obtain ⟨z0, z1, z2, z3⟩ := y11
  unfold Pl encNeed at hcs
  subst hcs
  dsimp only at *
  simp [putV] at hB
  refine (rNext_any W0 g _ _ w12 hr12).mono ?_
  rintro e w13 ⟨vq, y13, l13, bad13, rfl, hoq, hs13, hr13, hk13⟩
  obtain rfl := hoq.here
  clear hoq
  have hq13 := hq12.trans hk13
  replace hZ := hZ.keep (World.grownBy.block hk13 bz hlz (by simp; omega))
  try (first | (replace ho13 := ho13.wide (base' := b + 1) (by omega) (Nat.le_refl _)) | (replace ho13 := ho13.wide (base' := bz + 1) (by omega) (Nat.le_refl _)))
  try replace hoA := hoA.kg1 hk13 hgz
  try replace hoB := hoB.kg1 hk13 hgz
  try replace hoC := hoC.kg1 hk13 hgz
  try replace hoD := hoD.kg1 hk13 hgb
  try replace hoE := hoE.kg1 hk13 hgb
  try replace hoF := hoF.kg1 hk13 hgb
  try replace hoG := hoG.kg1 hk13 hgb
  try replace hoP := hoP.kge hk13 hgz (Nat.le_of_lt hlb)
  try replace hoQ := hoQ.kge hk13 hgz (Nat.le_of_lt hlb)
  try replace hB := hB.keep (World.grownBy.block hk13 b hlb (by simp; omega))
  try replace hlb := Nat.lt_of_lt_of_le hlb hk13.size
  replace hlz := Nat.lt_of_lt_of_le hlz hk13.size
  clear hk13 hq12 hr12
  have f1 := hB.cell (j := 10) rfl
  have f2 := hB.free (j := 10) (by simp)
  have hBk := hB.set (j := 10) (by simp) (.int .i64 y13)
  simp only [List.set_cons_zero, List.set_cons_succ] at hBk
  have hkS := (Kb.refl g b w13).set 10 (.int .i64 y13)
  have hr14 := hr13.kb hkS hlob (set_block _ _ _ _ (by show g ≠ b; omega))
  have hq14 := hkS.kg hq13 (by have := HBZ.out; omega)
  replace hZ := hZ.keep (set_block w13 ⟨b, 10, none⟩ (.int .i64 y13) bz hzb)
  try replace hoD := hoD.kb2 hkS hgb
  try replace hoE := hoE.kb2 hkS hgb
  try replace hoF := hoF.kb2 hkS hgb
  try replace hoG := hoG.kb2 hkS hgb
  try replace hoP := hoP.kbe hkS hgz (Nat.le_of_lt hlb)
  try replace hoQ := hoQ.kbe hkS hgz (Nat.le_of_lt hlb)
  have hsz := set_size w13 ⟨b, 10, none⟩ (.int .i64 y13)
  have hlb' := hlb
  have hlz' := hlz
  rw [← hsz] at hlb' hlz'
  clear hkS hr13 hq13
  go_wp2_with fail
  try rw [← hsz]
  generalize w13.setCell ⟨b, 10, none⟩ (.int .i64 y13) = w14 at *
  clear f1 f2 hsz hB hlb hlz
  have hB := hBk
  have hlb := hlb'
  have hlz := hlz'
  clear hBk hlb' hlz'
  refine (rNext_any W0 g _ _ w14 hr14).mono ?_
  rintro e w15 ⟨vq, y15, l15, bad15, rfl, hoq, hs15, hr15, hk15⟩
  obtain rfl := hoq.here
  clear hoq
  have hq15 := hq14.trans hk15
  replace hZ := hZ.keep (World.grownBy.block hk15 bz hlz (by simp; omega))
  try (first | (replace ho15 := ho15.wide (base' := b + 1) (by omega) (Nat.le_refl _)) | (replace ho15 := ho15.wide (base' := bz + 1) (by omega) (Nat.le_refl _)))
  try replace hoA := hoA.kg1 hk15 hgz
  try replace hoB := hoB.kg1 hk15 hgz
  try replace hoC := hoC.kg1 hk15 hgz
  try replace hoD := hoD.kg1 hk15 hgb
  try replace hoE := hoE.kg1 hk15 hgb
  try replace hoF := hoF.kg1 hk15 hgb
  try replace hoG := hoG.kg1 hk15 hgb
  try replace hoP := hoP.kge hk15 hgz (Nat.le_of_lt hlb)
  try replace hoQ := hoQ.kge hk15 hgz (Nat.le_of_lt hlb)
  try replace hB := hB.keep (World.grownBy.block hk15 b hlb (by simp; omega))
  try replace hlb := Nat.lt_of_lt_of_le hlb hk15.size
  replace hlz := Nat.lt_of_lt_of_le hlz hk15.size
  clear hk15 hq14 hr14
  have f1 := hB.cell (j := 11) rfl
  have f2 := hB.free (j := 11) (by simp)
  have hBk := hB.set (j := 11) (by simp) (.int .i64 y15)
  simp only [List.set_cons_zero, List.set_cons_succ] at hBk
  have hkS := (Kb.refl g b w15).set 11 (.int .i64 y15)
  have hr16 := hr15.kb hkS hlob (set_block _ _ _ _ (by show g ≠ b; omega))
  have hq16 := hkS.kg hq15 (by have := HBZ.out; omega)
  replace hZ := hZ.keep (set_block w15 ⟨b, 11, none⟩ (.int .i64 y15) bz hzb)
  try replace hoD := hoD.kb2 hkS hgb
  try replace hoE := hoE.kb2 hkS hgb
  try replace hoF := hoF.kb2 hkS hgb
  try replace hoG := hoG.kb2 hkS hgb
  try replace hoP := hoP.kbe hkS hgz (Nat.le_of_lt hlb)
  try replace hoQ := hoQ.kbe hkS hgz (Nat.le_of_lt hlb)
  have hsz := set_size w15 ⟨b, 11, none⟩ (.int .i64 y15)
  have hlb' := hlb
  have hlz' := hlz
  rw [← hsz] at hlb' hlz'
  clear hkS hr15 hq15
  go_wp2_with fail
  try rw [← hsz]
  generalize w15.setCell ⟨b, 11, none⟩ (.int .i64 y15) = w16 at *
  clear f1 f2 hsz hB hlb hlz
  have hB := hBk
  have hlb := hlb'
  have hlz := hlz'
  clear hBk hlb' hlz'
  refine (rNext_any W0 g _ _ w16 hr16).mono ?_
  rintro e w17 ⟨vq, y17, l17, bad17, rfl, hoq, hs17, hr17, hk17⟩
  obtain rfl := hoq.here
  clear hoq
  have hq17 := hq16.trans hk17
  replace hZ := hZ.keep (World.grownBy.block hk17 bz hlz (by simp; omega))
  try (first | (replace ho17 := ho17.wide (base' := b + 1) (by omega) (Nat.le_refl _)) | (replace ho17 := ho17.wide (base' := bz + 1) (by omega) (Nat.le_refl _)))
  try replace hoA := hoA.kg1 hk17 hgz
  try replace hoB := hoB.kg1 hk17 hgz
  try replace hoC := hoC.kg1 hk17 hgz
  try replace hoD := hoD.kg1 hk17 hgb
  try replace hoE := hoE.kg1 hk17 hgb
  try replace hoF := hoF.kg1 hk17 hgb
  try replace hoG := hoG.kg1 hk17 hgb
  try replace hoP := hoP.kge hk17 hgz (Nat.le_of_lt hlb)
  try replace hoQ := hoQ.kge hk17 hgz (Nat.le_of_lt hlb)
  try replace hB := hB.keep (World.grownBy.block hk17 b hlb (by simp; omega))
  try replace hlb := Nat.lt_of_lt_of_le hlb hk17.size
  replace hlz := Nat.lt_of_lt_of_le hlz hk17.size
  clear hk17 hq16 hr16
  have f1 := hB.cell (j := 12) rfl
  have f2 := hB.free (j := 12) (by simp)
  have hBk := hB.set (j := 12) (by simp) (.int .i64 y17)
  simp only [List.set_cons_zero, List.set_cons_succ] at hBk
  have hkS := (Kb.refl g b w17).set 12 (.int .i64 y17)
  have hr18 := hr17.kb hkS hlob (set_block _ _ _ _ (by show g ≠ b; omega))
  have hq18 := hkS.kg hq17 (by have := HBZ.out; omega)
  replace hZ := hZ.keep (set_block w17 ⟨b, 12, none⟩ (.int .i64 y17) bz hzb)
  try replace hoD := hoD.kb2 hkS hgb
  try replace hoE := hoE.kb2 hkS hgb
  try replace hoF := hoF.kb2 hkS hgb
  try replace hoG := hoG.kb2 hkS hgb
  try replace hoP := hoP.kbe hkS hgz (Nat.le_of_lt hlb)
  try replace hoQ := hoQ.kbe hkS hgz (Nat.le_of_lt hlb)
  have hsz := set_size w17 ⟨b, 12, none⟩ (.int .i64 y17)
  have hlb' := hlb
  have hlz' := hlz
  rw [← hsz] at hlb' hlz'
  clear hkS hr17 hq17 hB
  have hR := hZ.put hBk (by simp)
  have hth := hZ.there
  go_wp2_with (first | (refine wpList_load_mid rfl 37 (.tmp 3) rfl b 0 rfl _ _ hBk.range Try.underlying37 rfl (by kernel_rfl) ?_) | (refine wpList_store_mid rfl 37 (.tmp 2) (.tmp 32) rfl bz 0 _ rfl rfl hth (by kernel_rfl) (all_oneCell_toArray (by simp [Value.oneCell'])) ?_))
  try simp only [Exit.inBlock, Exit.then]
  refine bodyPost_ret (results_cell_bx rfl _ _ bz _ _ rfl hR.range Try.underlying37 rfl (by kernel_rfl)) rfl ?_
  refine fin2 hq18 (Nat.le_of_eq HBZ.out) hr18 hloz hgz (x := (⟨y1, y2, y3, y5, y7, y9, ⟨z0, z1, z2, z3⟩, y13, y15, y17⟩ : Event)) ?ow ?sp
  case ow => exact (hoD.imp fun _ h => ⟨_, rfl, _, rfl, h⟩).wide (by omega) (Nat.le_refl _)
  case sp => exact hs1.bind (hs2.bind (hs3.bind (hs5.bind (hs7.bind (hs9.bind (hs11.bind (hs13.bind (hs15.bind (hs17.bind (SpecP.ret _ _ _))))))))))
theorem rEvent_real : Real Try.prog 71 := ⟨_, Try.func71, by kernel_rfl, by kernel_rfl⟩
end Go.Proofs.Ytmeafoakbkjifaa
namespace Go.Proofs.Ytmeafoakbkjifaa
set_option linter.unusedSimpArgs false
set_option linter.unusedVariables false
open Go.RowKit

section
variable {P : Program} {ops : Array Oper} {Q : Exit → Act → World → Prop} {md : Region.Mode} {S : World → Prop} {t : Nat}
/-- whatever order is picked; S holds behind every operation but number t -/
def wpAnyT (P : Program) (md : Region.Mode) (ops : Array Oper) (Q : Exit → Act → World → Prop) (S : World → Prop) (t : Nat) : Nat → Array Bool → Act → World → Prop
  | 0, listed, a, w => Region.ready md ops listed = [] ∧ Q .normal a w
  | fuel + 1, listed, a, w =>
    (Region.ready md ops listed = [] → Q .normal a w) ∧
    ∀ i ∈ Region.ready md ops listed, wpOp P ops Q i (fun a' w' => (i ≠ t → S w') ∧ wpAnyT P md ops Q S t fuel (listed.setIfInBounds i true) a' w') a w
theorem wpAny_of_T : ∀ (fuel : Nat) (listed : Array Bool) (a : Act) (w : World), wpAnyT P md ops Q S t fuel listed a w → wpAny P md ops Q fuel listed a w
  | 0, _, _, _, h => h
  | fuel + 1, _, _, _, h => ⟨h.1, fun i hi => wpOp_mono (fun a' w' h' => wpAny_of_T fuel _ a' w' h'.2) (h.2 i hi)⟩
theorem wpAnyT_first {i : Nat} {oi : Oper} {v : Value} (hi : ops[i]? = some oi) (hit : i ≠ t) (hdep : ∀ o, ops[t]? = some o → ∃ e ∈ o.after, Region.binds md e = true ∧ e.on = i) (hsel : ∀ (j : Nat) (o : Oper) cs b, ops[j]? = some o → o.op ≠ .select cs b)
    (hQ : ∀ c a w, Q (.panic c) (a.put oi.dst v) w → Q (.panic c) a w) :
    ∀ (fuel : Nat) (listed : Array Bool) (a : Act) (w : World),
      (∀ j oj, ops[j]? = some oj → j ≠ i → listed.getD j true = false → (∀ e ∈ oj.after, Region.binds md e = true → e.on ≠ i) → oi.apart ops oj = true) →
      i ∈ Region.ready md ops listed → YieldsIf P ops S oi v a → S w →
      wpAnyT P md ops Q S t fuel (listed.setIfInBounds i true) (a.put oi.dst v) w → wpAnyT P md ops Q S t (fuel + 1) listed a w := by
  intro fuel
  induction fuel with
  | zero =>
    intro listed a w _ hr hy hS H
    refine ⟨fun h => (by rw [h] at hr; cases hr), fun j hj => ?_⟩
    by_cases hji : j = i
    · subst hji; exact hy.wpOp hi hS ⟨fun _ => hS, H⟩
    · have := ready_mono hj hji
      rw [H.1] at this
      cases this
  | succ fuel ih =>
    intro listed a w hfree hr hy hS H
    refine ⟨fun h => (by rw [h] at hr; cases hr), fun j hj => ?_⟩
    by_cases hji : j = i
    · subst hji; exact hy.wpOp hi hS ⟨fun _ => hS, H⟩
    · have h1 := H.2 j (ready_mono hj hji)
      obtain ⟨hjun, oj, hoj, hall⟩ := mem_ready.1 hj
      have hnot : ∀ e ∈ oj.after, Region.binds md e = true → e.on ≠ i := fun e he hb heq => by
        have h1 := hall e he hb
        have h0 := (mem_ready.1 hr).1
        rw [heq, getD_both h0] at h1
        cases h1
      have hjt : j ≠ t := fun e => by
        subst e
        obtain ⟨e, he, hb, ho⟩ := hdep oj hoj
        exact hnot e he hb ho
      have h2 := wpOp_putIf hoj (hfree j oj hoj hji hjun hnot) (fun cs b => hsel i oi cs b hi) (fun cs b => hsel j oj cs b hoj) hQ hy h1
      have hfree' : ∀ k ok, ops[k]? = some ok → k ≠ i → (listed.setIfInBounds j true).getD k true = false →
          (∀ e ∈ ok.after, Region.binds md e = true → e.on ≠ i) → oi.apart ops ok = true := fun k ok hk hki hun hno => by
        refine hfree k ok hk hki ?_ hno
        by_cases hjk : j = k
        · subst hjk; exact hjun
        · rw [getD_set_ne true hjk] at hun; exact hun
      refine wpOp_mono (fun a' w' h3 => ⟨h3.2.1, ih (listed.setIfInBounds j true) a' w' hfree' (ready_mono hr (Ne.symm hji)) h3.1 (h3.2.1 hjt) ?_⟩) h2
      rw [Array.setIfInBounds_comm _ _ hji]
      exact h3.2.2
theorem take_atT (i d : Nat) {oi : Oper} {v : Value} {fuel : Nat} {listed : Array Bool} {a : Act} {w : World} (hi : ops[i]? = some oi) (hd : oi.dst = some d) (hit : (i == t) = false)
    (hdep : ((ops[t]?).map fun o => o.after.any fun e => Region.binds md e && e.on == i) = some true)
    (hs : Region.noSelect ops = true) (hf : Region.free md ops listed i = true) (hr : (Region.ready md ops listed).contains i = true)
    (hQ : ∀ c a w, Q (.panic c) (a.put oi.dst v) w → Q (.panic c) a w) (hS : S w) (hy : YieldsIf P ops S oi v a)
    (h : wpAnyT P md ops Q S t fuel (listed.setIfInBounds i true) (a.put (some d) v) w) : wpAnyT P md ops Q S t (fuel + 1) listed a w := by
  refine wpAnyT_first hi (by simpa using hit) (fun o ho => ?_) (Region.noSelect_spec hs) hQ fuel listed a w (Region.free_spec hi hf) (by simpa using hr) hy hS (by rw [hd]; exact h)
  rw [ho] at hdep
  simp only [Option.map_some, Option.some.injEq, Array.any_eq_true, Bool.and_eq_true, beq_iff_eq] at hdep
  obtain ⟨k, hk, h1, h2⟩ := hdep
  exact ⟨_, Array.getElem_mem hk, h1, h2⟩
/-- one operation may come up: behind it S is shown anew -/
theorem stepT {i : Nat} {o : Oper} {fuel : Nat} {listed : Array Bool} {a : Act} {w : World} (hr : Region.ready md ops listed = [i]) (ho : ops[i]? = some o) 
    (h : ∀ K' : Act → World → Prop, Shut (∀ a w, S w → (S w → wpAnyT P md ops Q S t fuel (listed.setIfInBounds i true) a w) → K' a w) → if Region.wanted o (yielded ops a.tmps) = true then Oper.wp P o a w K' Q else K' (a.put o.dst undef) w) :
    wpAnyT P md ops Q S t (fuel + 1) listed a w := by
  refine ⟨fun h0 => (by rw [h0] at hr; cases hr), fun j hj => ?_⟩
  rw [hr] at hj
  obtain rfl : j = i := by simpa using hj
  exact wpOp_step ho (fun K' hK => h K' (fun a w hS hW => hK a w ⟨fun _ => hS, hW hS⟩))
/-- the last one -/
theorem lastT {o : Oper} {fuel : Nat} {listed : Array Bool} {a : Act} {w : World} (hr : Region.ready md ops listed = [t]) (ho : ops[t]? = some o) 
    (h : ∀ K' : Act → World → Prop, Shut (∀ a w, wpAnyT P md ops Q S t fuel (listed.setIfInBounds t true) a w → K' a w) → if Region.wanted o (yielded ops a.tmps) = true then Oper.wp P o a w K' Q else K' (a.put o.dst undef) w) :
    wpAnyT P md ops Q S t (fuel + 1) listed a w := by
  refine ⟨fun h0 => (by rw [h0] at hr; cases hr), fun j hj => ?_⟩
  rw [hr] at hj
  obtain rfl : j = t := by simpa using hj
  exact wpOp_step ho (fun K' hK => h K' (fun a w hW => hK a w ⟨fun hne => absurd rfl hne, hW⟩))
theorem doneT {listed : Array Bool} {a : Act} {w : World} (hr : Region.ready md ops listed = []) (h : Q .normal a w) : ∀ fuel, wpAnyT P md ops Q S t fuel listed a w
  | 0 => ⟨hr, h⟩
  | _ + 1 => ⟨fun _ => h, by rw [hr]; simp⟩
theorem beginT (t : Nat) {id : Nat} {a : Act} {w : World} (hm : P.follows .mixedOrders = true) (hS : S w.drew)
    (h : S w.drew → wpAnyT P .any ops Q S t ops.size (Array.replicate ops.size false) a w.drew) : (Code.region id ops true).wp P Q a w :=
  wp_region_any hm (wpAny_of_T _ _ _ _ (h hS))
end
end Go.Proofs.Ytmeafoakbkjifaa
namespace Go.Proofs.Ytmeafoakbkjifaa
set_option linter.unusedSimpArgs false
set_option linter.unusedVariables false
open Go.RowKit

section
variable {P : Program} {α : Type} {enc : α → List Value} {e size bytes base t : Nat} {w : World} {v : Value} {l : List α}
theorem step_append4 {ops : Array Oper} {o : Oper} {a : Act} {K : Act → World → Prop} {Q : Exit → Act → World → Prop} {E : Prop} (hgd : o.guard = none) (s x : Operand)
    (ho : o.op = .call { callee := .builtin .append, args := #[s, x], argTypes := #[t, t] }) (hT : SliceT P t e size bytes) (he : ∀ x, (enc x).length = size) (h1 : ∀ x, ∀ u ∈ enc x, u.oneCell' = true)
    (hs : a.eval s = v) (hown : Own enc e size base w v l)
    {v2 : Value} {m : List α} (hx : a.eval x = v2) (hsrc : Sl (Pl enc) size w v2 m) (hlen : l.length + m.length ≤ 4611686018427387904) (hby : (l.length + m.length) * bytes ≤ 140737488355328) (hbase : base ≤ w.heap.size)
    (h : ∀ v' w', Own enc e size base w' v' (l ++ m) → w.grownBy w' v.ownBlock → (v'.ownBlock = v.ownBlock ∨ v'.ownBlock = some w.heap.size) → K (a.put o.dst v') w') : if Region.wanted o (yielded ops a.tmps) = true then Oper.wp P o a w K Q else E := by
  have hw : Region.wanted o (yielded ops a.tmps) = true := by simp [Region.wanted, hgd]
  rw [if_pos hw]
  obtain ⟨v', w', hr, h2, h3, h4, h5⟩ := run_append_flat hT he h1 o.type hown hsrc hlen hby hbase
  unfold Oper.wp execOp
  simp only [ho, resolve, invoke, builtin, Sem.run_bind, Sem.run_pure, Result.andThen_ok, List.map_toArray, List.map_cons, List.map_nil, hs, hx, hr]
  exact h v' w' h2 h3 h4
end
set_option maxRecDepth 8000 in
set_option maxHeartbeats 8000000 in
theorem rAsk_any (W0 : World) (g : Nat) (l : List Int) (bad : Bool) (w : World) (hr : Rdr W0 w g l bad) : Reads W0 g askP (VA rdAsk) l bad 112 #[.pointer (some ⟨g, 0, none⟩)] w := by
  have hg := hr.lt
  have hlo := hr.lo
  have k0 := (Kp.refl w).alloc (.cells #[.int .i64 0, .int .i64 0, .int .i64 0, .int .i64 0, .int .i64 0, .slice none 0 0] 75)
  have hr0 := hr.keep k0
  have hZ := Bx.new w #[.int .i64 0, .int .i64 0, .int .i64 0, .int .i64 0, .int .i64 0, .slice none 0 0] 75
  have hq0 := k0.kg g
  go_enter Try.func112, Try.ntmps112
  go_wp2_with fail
  try rw [← World.size_alloc w (.cells #[.int .i64 0, .int .i64 0, .int .i64 0, .int .i64 0, .int .i64 0, .slice none 0 0] 75)]
  generalize w.alloc (.cells #[.int .i64 0, .int .i64 0, .int .i64 0, .int .i64 0, .int .i64 0, .slice none 0 0] 75) = w0 at *
  generalize hbz : w.heap.size = bz at *
  have HBZ := hid hbz
  clear hbz k0 hr
  have hlz := hZ.lt (by simp)
  have hgz : g < bz := hg
  have hloz : W0.heap.size ≤ bz := by omega
  refine (rNext_any W0 g _ _ w0 hr0).mono ?_
  rintro e w1 ⟨vq, y1, l1, bad1, rfl, hoq, hs1, hr1, hk1⟩
  obtain rfl := hoq.here
  clear hoq
  have hq1 := hq0.trans hk1
  replace hZ := hZ.keep (World.grownBy.block hk1 bz hlz (by simp; omega))
  try (first | (replace ho1 := ho1.wide (base' := b + 1) (by omega) (Nat.le_refl _)) | (replace ho1 := ho1.wide (base' := bz + 1) (by omega) (Nat.le_refl _)))
  try replace hoA := hoA.kg1 hk1 hgz
  try replace hoB := hoB.kg1 hk1 hgz
  try replace hoC := hoC.kg1 hk1 hgz
  try replace hoD := hoD.kg1 hk1 hgb
  try replace hoE := hoE.kg1 hk1 hgb
  try replace hoF := hoF.kg1 hk1 hgb
  try replace hoG := hoG.kg1 hk1 hgb
  try replace hoP := hoP.kge hk1 hgz (Nat.le_of_lt hlb)
  try replace hoQ := hoQ.kge hk1 hgz (Nat.le_of_lt hlb)
  try replace hB := hB.keep (World.grownBy.block hk1 b hlb (by simp; omega))
  try replace hlb := Nat.lt_of_lt_of_le hlb hk1.size
  replace hlz := Nat.lt_of_lt_of_le hlz hk1.size
  clear hk1 hq0 hr0
  go_wp2_with fail
  refine (rNext_any W0 g _ _ w1 hr1).mono ?_
  rintro e w2 ⟨vq, y2, l2, bad2, rfl, hoq, hs2, hr2, hk2⟩
  obtain rfl := hoq.here
  clear hoq
  have hq2 := hq1.trans hk2
  replace hZ := hZ.keep (World.grownBy.block hk2 bz hlz (by simp; omega))
  try (first | (replace ho2 := ho2.wide (base' := b + 1) (by omega) (Nat.le_refl _)) | (replace ho2 := ho2.wide (base' := bz + 1) (by omega) (Nat.le_refl _)))
  try replace hoA := hoA.kg1 hk2 hgz
  try replace hoB := hoB.kg1 hk2 hgz
  try replace hoC := hoC.kg1 hk2 hgz
  try replace hoD := hoD.kg1 hk2 hgb
  try replace hoE := hoE.kg1 hk2 hgb
  try replace hoF := hoF.kg1 hk2 hgb
  try replace hoG := hoG.kg1 hk2 hgb
  try replace hoP := hoP.kge hk2 hgz (Nat.le_of_lt hlb)
  try replace hoQ := hoQ.kge hk2 hgz (Nat.le_of_lt hlb)
  try replace hB := hB.keep (World.grownBy.block hk2 b hlb (by simp; omega))
  try replace hlb := Nat.lt_of_lt_of_le hlb hk2.size
  replace hlz := Nat.lt_of_lt_of_le hlz hk2.size
  clear hk2 hq1 hr1
  go_wp2_with fail
  refine (rNext_any W0 g _ _ w2 hr2).mono ?_
  rintro e w3 ⟨vq, y3, l3, bad3, rfl, hoq, hs3, hr3, hk3⟩
  obtain rfl := hoq.here
  clear hoq
  have hq3 := hq2.trans hk3
  replace hZ := hZ.keep (World.grownBy.block hk3 bz hlz (by simp; omega))
  try (first | (replace ho3 := ho3.wide (base' := b + 1) (by omega) (Nat.le_refl _)) | (replace ho3 := ho3.wide (base' := bz + 1) (by omega) (Nat.le_refl _)))
  try replace hoA := hoA.kg1 hk3 hgz
  try replace hoB := hoB.kg1 hk3 hgz
  try replace hoC := hoC.kg1 hk3 hgz
  try replace hoD := hoD.kg1 hk3 hgb
  try replace hoE := hoE.kg1 hk3 hgb
  try replace hoF := hoF.kg1 hk3 hgb
  try replace hoG := hoG.kg1 hk3 hgb
  try replace hoP := hoP.kge hk3 hgz (Nat.le_of_lt hlb)
  try replace hoQ := hoQ.kge hk3 hgz (Nat.le_of_lt hlb)
  try replace hB := hB.keep (World.grownBy.block hk3 b hlb (by simp; omega))
  try replace hlb := Nat.lt_of_lt_of_le hlb hk3.size
  replace hlz := Nat.lt_of_lt_of_le hlz hk3.size
  clear hk3 hq2 hr2
  go_wp2_with fail
  refine (rNext_any W0 g _ _ w3 hr3).mono ?_
  rintro e w4 ⟨vq, y4, l4, bad4, rfl, hoq, hs4, hr4, hk4⟩
  obtain rfl := hoq.here
  clear hoq
  have hq4 := hq3.trans hk4
  replace hZ := hZ.keep (World.grownBy.block hk4 bz hlz (by simp; omega))
  try (first | (replace ho4 := ho4.wide (base' := b + 1) (by omega) (Nat.le_refl _)) | (replace ho4 := ho4.wide (base' := bz + 1) (by omega) (Nat.le_refl _)))
  try replace hoA := hoA.kg1 hk4 hgz
  try replace hoB := hoB.kg1 hk4 hgz
  try replace hoC := hoC.kg1 hk4 hgz
  try replace hoD := hoD.kg1 hk4 hgb
  try replace hoE := hoE.kg1 hk4 hgb
  try replace hoF := hoF.kg1 hk4 hgb
  try replace hoG := hoG.kg1 hk4 hgb
  try replace hoP := hoP.kge hk4 hgz (Nat.le_of_lt hlb)
  try replace hoQ := hoQ.kge hk4 hgz (Nat.le_of_lt hlb)
  try replace hB := hB.keep (World.grownBy.block hk4 b hlb (by simp; omega))
  try replace hlb := Nat.lt_of_lt_of_le hlb hk4.size
  replace hlz := Nat.lt_of_lt_of_le hlz hk4.size
  clear hk4 hq3 hr3
  go_wp2_with fail
  refine (rNext_any W0 g _ _ w4 hr4).mono ?_
  rintro e w5 ⟨vq, y5, l5, bad5, rfl, hoq, hs5, hr5, hk5⟩
  obtain rfl := hoq.here
  clear hoq
  have hq5 := hq4.trans hk5
  replace hZ := hZ.keep (World.grownBy.block hk5 bz hlz (by simp; omega))
  try (first | (replace ho5 := ho5.wide (base' := b + 1) (by omega) (Nat.le_refl _)) | (replace ho5 := ho5.wide (base' := bz + 1) (by omega) (Nat.le_refl _)))
  try replace hoA := hoA.kg1 hk5 hgz
  try replace hoB := hoB.kg1 hk5 hgz
  try replace hoC := hoC.kg1 hk5 hgz
  try replace hoD := hoD.kg1 hk5 hgb
  try replace hoE := hoE.kg1 hk5 hgb
  try replace hoF := hoF.kg1 hk5 hgb
  try replace hoG := hoG.kg1 hk5 hgb
  try replace hoP := hoP.kge hk5 hgz (Nat.le_of_lt hlb)
  try replace hoQ := hoQ.kge hk5 hgz (Nat.le_of_lt hlb)
  try replace hB := hB.keep (World.grownBy.block hk5 b hlb (by simp; omega))
  try replace hlb := Nat.lt_of_lt_of_le hlb hk5.size
  replace hlz := Nat.lt_of_lt_of_le hlz hk5.size
  clear hk5 hq4 hr4
  go_wp2_with fail
  have kS := (Kp.refl w5).alloc (.cells #[.int .i64 y1, .int .i64 y2, .int .i64 y3, .int .i64 y4, .int .i64 y5, .slice none 0 0] 75)
  have hB := Bx.new w5 #[.int .i64 y1, .int .i64 y2, .int .i64 y3, .int .i64 y4, .int .i64 y5, .slice none 0 0] 75
  have hr6 := hr5.keep kS
  have hq6 := hq5.trans (kS.kg g)
  replace hZ := hZ.keep (kS.block hlz)
  try have hoP := hoA.keepP kS
  try have hoQ := hoB.keepP kS
  try clear hoA
  try clear hoB
  try rw [← World.size_alloc w5 (.cells #[.int .i64 y1, .int .i64 y2, .int .i64 y3, .int .i64 y4, .int .i64 y5, .slice none 0 0] 75)]
  have hbz1 : bz < w5.heap.size := hlz
  replace hlz := Nat.lt_of_lt_of_le hlz kS.size
  generalize w5.alloc (.cells #[.int .i64 y1, .int .i64 y2, .int .i64 y3, .int .i64 y4, .int .i64 y5, .slice none 0 0] 75) = w6 at *
  generalize w5.heap.size = b at *
  have hlb := hB.lt (by simp)
  have hgb : g < b := by omega
  have hlob : W0.heap.size ≤ b := by omega
  have hzb : bz ≠ b := by omega
  clear kS hr5 hq5
  refine (rLength_any W0 g _ _ w6 hr6).mono ?_
  rintro e w7 ⟨v7, y7, l7, bad7, rfl, ho7, hs7, hr7, hk7⟩
  have hq7 := hq6.trans hk7
  replace hZ := hZ.keep (World.grownBy.block hk7 bz hlz (by simp; omega))
  try (first | (replace ho7 := ho7.wide (base' := b + 1) (by omega) (Nat.le_refl _)) | (replace ho7 := ho7.wide (base' := bz + 1) (by omega) (Nat.le_refl _)))
  try replace hoA := hoA.kg1 hk7 hgz
  try replace hoB := hoB.kg1 hk7 hgz
  try replace hoC := hoC.kg1 hk7 hgz
  try replace hoD := hoD.kg1 hk7 hgb
  try replace hoE := hoE.kg1 hk7 hgb
  try replace hoF := hoF.kg1 hk7 hgb
  try replace hoG := hoG.kg1 hk7 hgb
  try replace hoP := hoP.kge hk7 hgz (Nat.le_of_lt hlb)
  try replace hoQ := hoQ.kge hk7 hgz (Nat.le_of_lt hlb)
  try replace hB := hB.keep (World.grownBy.block hk7 b hlb (by simp; omega))
  try replace hlb := Nat.lt_of_lt_of_le hlb hk7.size
  replace hlz := Nat.lt_of_lt_of_le hlz hk7.size
  clear hk7 hq6 hr6
  obtain ⟨rfl, hn7⟩ := ho7.here
  clear ho7
  go_wp2_with fail
  have hKL := Kb.refl g b w7
  have hBL := hB
  have hgL : g < w7.heap.size := Nat.lt_trans hgb hlb
  have hlbL := hlb
  go_loopw [5] (fun i wr => ∃ (css : List (Elm 4)) (xs : List Need) (v : Value) (l' : List Int) (b' : Bool), xs.length ≤ y7 ∧ i = .int .i64 (xs.length : Int) ∧ Bx wr b ([.int .i64 y1, .int .i64 y2, .int .i64 y3, .int .i64 y4, .int .i64 y5] ++ v :: []) ∧ Own encC 35 4 w7.heap.size wr v css ∧ Els (Pl encNeed) w7.heap.size wr v.ownBlock css xs ∧ SpecP (loopP needP xs.length) l7 bad7 xs l' b' ∧ Rdr W0 wr g l' b' ∧ Kb g b w7 wr) (fun i _ => y7 - (intOf i).toNat)
  case atStart => exact ⟨[], [], _, l7, bad7, Nat.zero_le _, rfl, hBL, Own.nil _ _ _ _ _, Els.nil _ _ _ _ _, SpecP.ret _ _ _, hr7, hKL⟩
  case round =>
    obtain ⟨css, y8, v, l8, bad8, hxs, rfl, hB, own, hels, hsl, hr, hKr⟩ := hrel
    clear hBL hKL
    obtain ⟨A8, c8, rfl, hc, hm⟩ := own.form
    have hcl := hels.1
    rw [hcl] at own hels hc hB
    have hKs := hKr.size
    have hLr : w7.heap.size ≤ wr.heap.size := by omega
    have hbr : b < wr.heap.size := Nat.lt_of_lt_of_le hlb hLr
    by_cases hpos : y8.length < y7
    · go_wp2_with fail
      have hSf : ∀ W, Bx W b ([.int .i64 y1, .int .i64 y2, .int .i64 y3, .int .i64 y4, .int .i64 y5] ++ .slice A8 y8.length c8 :: []) → (W.cell? ⟨b, 5, none⟩ = some (.slice A8 y8.length c8) ∧ W.frozen? ⟨b, 5, none⟩ = false) := fun W h => ⟨h.cell (j := 5) rfl, h.free (j := 5) (by simp)⟩
      refine beginT 7 (S := fun W => W.cell? ⟨b, 5, none⟩ = some (.slice A8 y8.length c8) ∧ W.frozen? ⟨b, 5, none⟩ = false) (by kernel_rfl) (hSf _ (hB.keep rfl)) (fun hHeld => ?_)
      refine take_atT 0 25 (v := ?_) rfl rfl (by kernel_rfl) (by kernel_rfl) (by kernel_rfl) (by kernel_rfl) (by kernel_rfl) (fun _ _ _ h => h) hHeld (Or.inl ⟨by kernel_rfl, ?_⟩) ?_
      rotate_left
      · intro w hSw; (try dsimp only at hSw); go_simp; try with_reducible rfl
      simp only [Act.put, List.setIfInBounds_toArray, List.set_cons_zero, List.set_cons_succ]
      refine take_atT 1 26 (v := ?_) rfl rfl (by kernel_rfl) (by kernel_rfl) (by kernel_rfl) (by kernel_rfl) (by kernel_rfl) (fun _ _ _ h => h) hHeld (Or.inl ⟨by kernel_rfl, ?_⟩) ?_
      rotate_left
      · intro w hSw; (try dsimp only at hSw); go_simp; try with_reducible rfl
      simp only [Act.put, List.setIfInBounds_toArray, List.set_cons_zero, List.set_cons_succ]
      refine take_atT 2 27 (v := ?_) rfl rfl (by kernel_rfl) (by kernel_rfl) (by kernel_rfl) (by kernel_rfl) (by kernel_rfl) (fun _ _ _ h => h) hHeld (Or.inl ⟨by kernel_rfl, ?_⟩) ?_
      rotate_left
      · intro w hSw; (try dsimp only at hSw); go_simp; try with_reducible rfl
      simp only [Act.put, List.setIfInBounds_toArray, List.set_cons_zero, List.set_cons_succ]
      refine stepT (i := 3) (o := _) (by kernel_rfl) rfl (fun K hK => ?_)
      go_simp
      refine (rNeed_any W0 g l8 bad8 _ (hr.keep (Kp.refl _).drew)).mono ?_
      rintro e w3 ⟨v3, x, l3, b3, rfl, ho, hs3, hr3, hk3⟩
      replace hk3 : Kg wr w3 g := ((Kp.refl wr).drew.kg g).trans hk3
      obtain ⟨cs3, rfl, hrd3⟩ := ho.here; obtain ⟨hlen3, hone3⟩ := need_one hrd3; have hEl := ho.imp (fun w' h => VA.inj h); have hfl3 : cs3.length = ((#[.int .i64 0, .int .i64 0, .int .i64 0, .int .i64 0] : Array Value)).size := hlen3
      have own3 := own.kg hk3 hgL
      have hels3 := hels.kg hk3 hgL
      have hge := own.ge
      have hlt3 := World.ownsRow.lt own
      have hB3 := hB.keep (World.grownBy.block hk3 b hbr (by simp; omega))
      have hK3 := hKr.trans (hk3.kb b)
      have hs4 : SpecP (loopP needP (y8.length + 1)) l7 bad7 (y8 ++ [x]) l3 b3 := by rw [loopP_snoc]; exact hsl.bind (hs3.bind (SpecP.ret _ _ _))
      have hz3 := hk3.size
      clear own hels hB hr hsl hs3 hKr
      refine hK.out _ _ (hSf _ hB3) (fun hHeld2 => ?_)
      clear hK K hHeld
      have hHeld := hHeld2
      clear hHeld2
      refine stepT (i := 4) (o := _) (by kernel_rfl) rfl (fun K hK => ?_)
      go_simp
      rw [fold_fill #[.int .i64 0, .int .i64 0, .int .i64 0, .int .i64 0] cs3 hfl3]
      have hB4 := hB3.keep (((Kp.refl w3).alloc (.cells cs3.toArray 35)).block (by omega))
      refine hK.out _ _ (hSf _ hB4) (fun hHeld2 => ?_)
      clear hK K hHeld
      have hHeld := hHeld2
      clear hHeld2
      refine stepT (i := 5) (o := _) (by kernel_rfl) rfl (fun K hK => ?_)
      refine step_append4 rfl (.tmp 26) (.tmp 29) rfl stNeed encC_len encC_one rfl (own3.alloc _) rfl (Sl.one (R := Pl encC) w3 _ 35 4 (⟨_, hlen3, hone3⟩ : Elm 4) hlen3 rfl) (by simp; omega) (by simp; omega) (by simp; omega) ?_
      intro v4 w4 hown4 hgrow4 hat4
      have hob : ∀ q, (Value.slice A8 y8.length c8).ownBlock = some q → w7.heap.size ≤ q := own3.ge
      have hB5 := hB4.keep (hgrow4.block b (by simp; omega) (fun e => by have := hob b e.symm; omega))
      refine hK.out _ _ (hSf _ hB5) (fun hHeld2 => ?_)
      clear hK K hHeld
      have hHeld := hHeld2
      clear hHeld2
      refine stepT (i := 6) (o := _) (by kernel_rfl) rfl (fun K hK => ?_)
      go_simp
      refine hK.out _ _ hHeld (fun hHeld2 => ?_)
      clear hK K hHeld
      have hHeld := hHeld2
      clear hHeld2
      have hels4 := ((hels3.snoc (⟨_, hlen3, hone3⟩ : Elm 4) x (by omega) (Nat.le_refl _) (fun q hq => .inl (hlt3 q hq).2) hEl).kg (((Kp.refl w3).alloc (.cells cs3.toArray 35)).kg g) hgL).grow hgrow4 hat4
      have hgw3 := hr3.lt
      have hgq : (((w3.alloc (.cells cs3.toArray 35))).heap.size) = w3.heap.size + 1 := by simp
      have hsz4 := hgrow4.size
      have hold : ∀ q, q < w7.heap.size → w4.heap[q]? = w3.heap[q]? := fun q hq => by
        rw [hgrow4.block q (by omega) (fun e => by have := hob q e.symm; omega), heap_alloc_old _ _ (by omega)]
      have hK5 : Kb g b w7 w4 := ⟨hgrow4.os.trans hK3.os, hgrow4.tape.trans hK3.tape, hgrow4.output.trans hK3.output, by omega, fun q hq hqg hqb => (hold q (by omega)).trans (hK3.block q hq hqg hqb)⟩
      have hr4 : Rdr W0 w4 g l3 b3 := hr3.keepG ⟨hgrow4.os.trans hr3.kp.os, hgrow4.tape.trans hr3.kp.tape, hgrow4.output.trans hr3.kp.output, by have := hr3.kp.size; omega, fun q hq => by
        have hq2 : q < W0.heap.size := hq
        rw [hold q (by omega), hr3.kp.block hq2]⟩ (hold g hgL)
      have hB6 := hB5.set (j := 5) (by simp) v4
      simp only [List.set_cons_zero, List.set_cons_succ, List.cons_append, List.nil_append] at hB6
      have hk6 : Kg w4 (w4.setCell ⟨b, 5, none⟩ v4) b := (Kg.refl w4 b).set (.inl rfl) _
      have hown6 := hown4.kg hk6 hlbL
      have hels6 := hels4.kg hk6 hlbL
      have hr6 := hr4.kb ((Kb.refl g b w4).set 5 v4) hlob (set_block _ _ _ _ (by show g ≠ b; omega))
      have hK6 := hK5.set 5 v4
      clear hB3 hB4 hB5 own3 hels3 hels4 hown4 hr3 hr4 hK3 hK5 hk6 hEl hgrow4 hat4 hSf hk3
      obtain ⟨hc8, hf8⟩ := hHeld
      obtain ⟨A4, c4, hv4, hc4, hm4⟩ := hown6.form
      rw [show (css ++ [(⟨_, hlen3, hone3⟩ : Elm 4)]).length = y8.length + 1 by simp [hcl]] at hv4 hc4
      subst hv4
      refine lastT (o := _) (by kernel_rfl) rfl (fun K hK => ?_)
      go_simp
      refine hK.out _ _ ?_
      clear hK K
      refine doneT (by kernel_rfl) ?_ _
      go_wp2
      go_roundw
      case rel => exact ⟨css ++ [⟨_, hlen3, hone3⟩], y8 ++ [x], _, l3, b3, by simp; omega, by simp, hB6, hown6, hels6, by simpa using hs4, hr6, hK6⟩
      case measure => simp [intOf]; omega
    · obtain hxe : y8.length = y7 := by omega
      rw [hxe] at hsl
      have hfin := hels.fin own
      clear hpos
      have eL8 : decide ((y8.length : Int) < (y7 : Int)) = false := decide_eq_false (by omega)
      have eN8 : decide (y8.length < y7) = false := decide_eq_false (by omega)
      have eG8 : ¬ (y8.length < y7) := by omega
      replace hxe := hid hxe
      have hq8 := hKr.kg hq7 (by have := HBZ.out; omega)
      replace hZ := hZ.keep (hKr.block bz hlz (by omega) hzb)
      try replace hoD := hoD.kb2 hKr hgb
      try replace hoE := hoE.kb2 hKr hgb
      try replace hoF := hoF.kb2 hKr hgb
      try replace hoG := hoG.kb2 hKr hgb
      try replace hoP := hoP.kbe hKr hgz (Nat.le_of_lt hlb)
      try replace hoQ := hoQ.kbe hKr hgz (Nat.le_of_lt hlb)
      replace hlb := Nat.lt_of_lt_of_le hlb hKr.size
      replace hlz := Nat.lt_of_lt_of_le hlz hKr.size
      have hoD := hfin.wide (base' := b + 1) (by omega) (Nat.le_refl _)
      simp only [List.cons_append, List.nil_append] at hB
      have hr8 := hr
      have hs8 := hs7.bind hsl
      obtain ⟨w8, hwm⟩ : ∃ x, x = wr := ⟨_, rfl⟩
      subst hwm
      clear hfin hr hq7 hr7 hs7 hsl hKr hels own hxs hxe hLr hKs hcl hgL hlbL hbr
      have hBk := hB
      have hR := hZ.put hBk (by simp)
      have hth := hZ.there
      go_wp2_with (first | (refine wpList_load_mid rfl 75 (.tmp 3) rfl b 0 rfl _ _ hBk.range Try.underlying75 rfl (by kernel_rfl) ?_) | (refine wpList_store_mid rfl 75 (.tmp 2) (.tmp 32) rfl bz 0 _ rfl rfl hth (by kernel_rfl) (all_oneCell_toArray (by simp [Value.oneCell'])) ?_))
      try simp only [Exit.inBlock, Exit.then]
      refine bodyPost_ret (results_cell_bx rfl _ _ bz _ _ rfl hR.range Try.underlying75 rfl (by kernel_rfl)) rfl ?_
      refine fin2 hq8 (Nat.le_of_eq HBZ.out) hr8 hloz hgz (x := (⟨y1, y2, y3, y4, y5, y8⟩ : Ask)) ?ow ?sp
      case ow => exact (hoD.imp fun _ h => ⟨_, rfl, _, rfl, h⟩).wide (by omega) (Nat.le_refl _)
      case sp => exact hs1.bind (hs2.bind (hs3.bind (hs4.bind (hs5.bind (hs8.bind (SpecP.ret _ _ _))))))
theorem rAsk_real : Real Try.prog 112 := ⟨_, Try.func112, by kernel_rfl, by kernel_rfl⟩
end Go.Proofs.Ytmeafoakbkjifaa
