
/-
Equal lists, integer keys of maps, stores into maps: the walks and laws that events need.
-/
import Derived.Test.YtcddllaljgfjbaaEvB
import Derived.Test.YtcddllaljgfjbaaMapA
namespace Go.Proofs.Ytcddllaljgfjbaa
set_option linter.unusedSimpArgs false
set_option linter.unusedVariables false
open Go.RowKit

theorem eq_drop {α : Type} [DecidableEq α] {l m : List α} (hl : l.length = m.length) {k : Nat} (h1 : k < l.length) : decide (l.drop k = m.drop k) = (decide (l[k] = m[k]'(by omega)) && decide (l.drop (k + 1) = m.drop (k + 1))) := by
  rw [List.drop_eq_getElem_cons h1, List.drop_eq_getElem_cons (show k < m.length by omega), Bool.eq_iff_iff, Bool.and_eq_true, decide_eq_true_iff, decide_eq_true_iff, decide_eq_true_iff, List.cons.injEq]
set_option maxRecDepth 8000 in
set_option maxHeartbeats 2000000 in
theorem EqualI_any (va vb : Value) (l m : List Int) (w : World) (ha : Ints w va l) (hb : Ints w vb m) : Calls Try.prog 21 #[va, vb] w fun e w' => e = .returned (.bool (decide (l = m))) ∧ Kp w w' := by
  obtain ⟨A, ca, rfl, hca, hma⟩ := ha.form
  obtain ⟨B, cb, rfl, hcb, hmb⟩ := hb.form
  generalize hR : decide (l = m) = R
  have HR := hid hR
  clear hR
  go_enter Try.func21, Try.ntmps21
  by_cases hl : l.length = m.length
  · have HL := hid hl
    have HR0 : Hid (R = decide (l.drop 0 = m.drop 0)) := hid HR.out.symm
    have e1 : ((l.length : Int) != (m.length : Int)) = false := by rw [hl]; simp
    have HA := hid ha
    have HBB := hid hb
    generalize hll : l.length = ln at *
    subst hl
    have HLL := hid hll
    clear ha hb hll HR
    go_wp2_with fail
    go_loopw [13] (fun i wr => ∃ k : Nat, k ≤ m.length ∧ i = .int .i64 (k : Int) ∧ Hid (R = decide (l.drop k = m.drop k)) ∧ Kp w wr) (fun i _ => m.length - (intOf i).toNat)
    case atStart => exact ⟨0, Nat.zero_le _, rfl, HR0, Kp.refl _⟩
    case round =>
      obtain ⟨k, hk, rfl, HD, kr⟩ := hrel
      by_cases hlt : k < m.length
      · have hkl : (k : Int) < (m.length : Int) := by omega
        have hlt1 : k < l.length := by rw [HLL.out]; exact hlt
        obtain ⟨g1, o1, hA, hg1, i1⟩ := (HA.out.keep (pl_stable _) kr).ints hlt1
        obtain ⟨g2, o2, hB, hg2, i2⟩ := (HBB.out.keep (pl_stable _) kr).ints hlt
        subst hA hB
        have HX := hid (eq_drop HLL.out hlt1)
        generalize l[k] = x at *
        generalize m[k] = y at *
        by_cases h : x = y
        · have e2 : (x != y) = false := by rw [h]; simp
          have HF : Hid (R = decide (l.drop (k + 1) = m.drop (k + 1))) := hid (by rw [HD.out, HX.out, decide_eq_true h, Bool.true_and])
          replace h := hid h
          clear hlt1
          go_upto_region 6 with (fail)
          go_quiet (fail)
          go_wp2_with fail
          go_roundw
          case rel => exact ⟨k + 1, by omega, by go_num, HF, kr.drewN _⟩
          case measure => simp [intOf]; omega
        · have e2 : (x != y) = true := by simpa using h
          have HF : Hid (R = false) := hid (by rw [HD.out, HX.out, decide_eq_false h, Bool.false_and])
          replace h := hid h
          clear hlt1
          go_upto_region 6 with (fail)
          go_quiet (fail)
          go_wp2
          go_ret
          exact ⟨by rw [HF.out]; rfl, kr.drewN _⟩
      · have hkl : ¬ (k : Int) < (m.length : Int) := by omega
        have HF : Hid (R = true) := hid (by rw [HD.out, List.drop_of_length_le (show l.length ≤ k by rw [HLL.out]; omega), List.drop_of_length_le (show m.length ≤ k by omega)]; simp)
        go_wp2
        go_ret
        exact ⟨by rw [HF.out]; rfl, kr⟩
  · have e1 : ((l.length : Int) != (m.length : Int)) = true := by
      have : ¬ (l.length : Int) = (m.length : Int) := by omega
      simpa using this
    have HF : Hid (R = false) := hid (by rw [← HR.out, decide_eq_false_iff_not]; exact fun e => hl (by rw [e]))
    replace hl := hid hl
    generalize l.length = ln at *
    generalize m.length = mn at *
    go_wp2
    go_ret
    exact ⟨by rw [HF.out]; rfl, Kp.refl _⟩
set_option maxRecDepth 8000 in
set_option maxHeartbeats 2000000 in
theorem EqInts_any (va vb : Value) (l m : List Int) (w : World) (ha : Ints w va l) (hb : Ints w vb m) : Calls Try.prog 76 #[va, vb] w fun e w' => e = .returned (.bool (decide (l = m))) ∧ Kp w w' := by
  obtain ⟨A, ca, rfl, hca, hma⟩ := ha.form
  obtain ⟨B, cb, rfl, hcb, hmb⟩ := hb.form
  generalize hR : decide (l = m) = R
  have HR := hid hR
  clear hR
  go_enter Try.func76, Try.ntmps76
  by_cases hl : l.length = m.length
  · have HL := hid hl
    have HR0 : Hid (R = decide (l.drop 0 = m.drop 0)) := hid HR.out.symm
    have e1 : ((l.length : Int) != (m.length : Int)) = false := by rw [hl]; simp
    have HA := hid ha
    have HBB := hid hb
    generalize hll : l.length = ln at *
    subst hl
    have HLL := hid hll
    clear ha hb hll HR
    go_wp2_with fail
    go_loopw [5] (fun i wr => ∃ k : Nat, k ≤ m.length ∧ i = .int .i64 (k : Int) ∧ Hid (R = decide (l.drop k = m.drop k)) ∧ Kp w wr) (fun i _ => m.length - (intOf i).toNat)
    case atStart => exact ⟨0, Nat.zero_le _, rfl, HR0, Kp.refl _⟩
    case round =>
      obtain ⟨k, hk, rfl, HD, kr⟩ := hrel
      by_cases hlt : k < m.length
      · have hkl : (k : Int) < (m.length : Int) := by omega
        have hlt1 : k < l.length := by rw [HLL.out]; exact hlt
        obtain ⟨g1, o1, hA, hg1, i1⟩ := (HA.out.keep (pl_stable _) kr).ints hlt1
        obtain ⟨g2, o2, hB, hg2, i2⟩ := (HBB.out.keep (pl_stable _) kr).ints hlt
        subst hA hB
        have HX := hid (eq_drop HLL.out hlt1)
        generalize l[k] = x at *
        generalize m[k] = y at *
        by_cases h : x = y
        · have e2 : (x != y) = false := by rw [h]; simp
          have HF : Hid (R = decide (l.drop (k + 1) = m.drop (k + 1))) := hid (by rw [HD.out, HX.out, decide_eq_true h, Bool.true_and])
          replace h := hid h
          clear hlt1
          go_upto_region 6 with (fail)
          go_quiet (fail)
          go_wp2_with fail
          go_roundw
          case rel => exact ⟨k + 1, by omega, by go_num, HF, kr.drewN _⟩
          case measure => simp [intOf]; omega
        · have e2 : (x != y) = true := by simpa using h
          have HF : Hid (R = false) := hid (by rw [HD.out, HX.out, decide_eq_false h, Bool.false_and])
          replace h := hid h
          clear hlt1
          go_upto_region 6 with (fail)
          go_quiet (fail)
          go_wp2
          go_ret
          exact ⟨by rw [HF.out]; rfl, kr.drewN _⟩
      · have hkl : ¬ (k : Int) < (m.length : Int) := by omega
        have HF : Hid (R = true) := hid (by rw [HD.out, List.drop_of_length_le (show l.length ≤ k by rw [HLL.out]; omega), List.drop_of_length_le (show m.length ≤ k by omega)]; simp)
        go_wp2
        go_ret
        exact ⟨by rw [HF.out]; rfl, kr⟩
  · have e1 : ((l.length : Int) != (m.length : Int)) = true := by
      have : ¬ (l.length : Int) = (m.length : Int) := by omega
      simpa using this
    have HF : Hid (R = false) := hid (by rw [← HR.out, decide_eq_false_iff_not]; exact fun e => hl (by rw [e]))
    replace hl := hid hl
    generalize l.length = ln at *
    generalize m.length = mn at *
    go_wp2
    go_ret
    exact ⟨by rw [HF.out]; rfl, Kp.refl _⟩
abbrev intV (k : Int) : Value := .int .i64 k
theorem keyI : KeyT intV 3 where
  find := fun x w zs h => by
    rw [Instr.findKey, Sem.run_bind, run_underlying Try.underlying3, Result.andThen_ok]
    have key : ∀ (zs : List (MapEntry × Int × Value)) (i : Nat), (∀ z ∈ zs, z.1.key = intV z.2.1 ∧ z.1.val = z.2.2) → Instr.findNow (.int .i64) (intV x) (zs.map (·.1)) i = some (findL x (zs.map (·.2)) i) := by
      intro zs
      induction zs with
      | nil => intro i _; rfl
      | cons z zs ih =>
        intro i h
        obtain ⟨h1, h2⟩ := h z (by simp)
        rw [List.map_cons, List.map_cons, Instr.findNow, h1, findL]
        have e : Instr.sameNow (.int .i64) (intV x) (intV z.2.1) = some (x == z.2.1) := by simp [Instr.sameNow]
        rw [e]
        by_cases hx : x = z.2.1
        · rw [if_pos hx]
          have : (x == z.2.1) = true := by simpa using hx
          rw [this, h2]
        · rw [if_neg hx]
          have : (x == z.2.1) = false := by simpa using hx
          rw [this]
          exact ih (i + 1) fun y hy => h y (by simp [hy])
    rw [key zs 0 h]
    simp
  ck := fun e x w => by cases e <;> kernel_rfl
  bits := fun x => by
    show Instr.sameBits (9999 + 1) _ _ = true
    simp [Instr.sameBits]
/-- a store into a map, at the operation -/
theorem wpl_mapset {ops : Array Oper} {rest : List Oper} {o : Oper} {a : Act} {Q : Exit → Act → World → Prop} {w w' : World} (hgd : o.guard = none) (t : TypeId) (m k v : Operand) (ho : o.op = Op.mapUpdate t m k v)
    {vm vk vv : Value} (hm : a.eval m = vm) (hk : a.eval k = vk) (hv : a.eval v = vv) (hrun : Sem.run Try.prog (Instr.mapUpdate t vm vk vv) w = .ok () w') (h : wpList Try.prog ops Q rest (a.put o.dst undef) w') : wpList Try.prog ops Q (o :: rest) a w := by
  refine wpList_plain hgd fun K hK => ?_
  unfold Oper.wp
  simp [execOp, ho, hm, hk, hv, hrun, Result.andThen]
  exact hK _ _ h
end Go.Proofs.Ytcddllaljgfjbaa
