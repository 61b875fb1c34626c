
/-
slices.Repeat of one value, at the lengths that the laws ask for: the walk.
-/
import Derived.Test.YtlkabhjkncklnaaDgPa
import Derived.Laws.CopyOwn
namespace Go.Proofs.Ytlkabhjkncklnaa
set_option linter.unusedSimpArgs false
set_option linter.unusedVariables false
open Go.RowKit

def SqM (m : Nat) : Prop := m = 1 ∨ m = 4 ∨ m = 9 ∨ m = 16 ∨ m = 25 ∨ m = 36
set_option maxRecDepth 8000 in
set_option maxHeartbeats 4000000 in
theorem bMul64_at (m : Nat) (hm : SqM m) (w : World) : Calls Try.prog 61 #[.int .u64 1, .int .u64 (m : Int)] w fun e w' => e = .returned (.tuple #[.int .u64 0, .int .u64 (m : Int)]) ∧ w' = w := by
  rcases hm with rfl | rfl | rfl | rfl | rfl | rfl
  · go_enter Try.func61, Try.ntmps61
    go_wp2
    go_ret2
    exact ⟨rfl, rfl⟩
  · go_enter Try.func61, Try.ntmps61
    go_wp2
    go_ret2
    exact ⟨rfl, rfl⟩
  · go_enter Try.func61, Try.ntmps61
    go_wp2
    go_ret2
    exact ⟨rfl, rfl⟩
  · go_enter Try.func61, Try.ntmps61
    go_wp2
    go_ret2
    exact ⟨rfl, rfl⟩
  · go_enter Try.func61, Try.ntmps61
    go_wp2
    go_ret2
    exact ⟨rfl, rfl⟩
  · go_enter Try.func61, Try.ntmps61
    go_wp2
    go_ret2
    exact ⟨rfl, rfl⟩
set_option maxHeartbeats 4000000 in
theorem bMul_at (m : Nat) (hm : SqM m) (w : World) : Calls Try.prog 51 #[.int .u64 1, .int .u64 (m : Int)] w fun e w' => e = .returned (.tuple #[.int .u64 0, .int .u64 (m : Int)]) ∧ w' = w := by
  go_enter Try.func51, Try.ntmps51
  go_wp2_with fail
  refine (bMul64_at m hm w).mono ?_
  rintro e w1 ⟨rfl, rfl⟩
  go_wp2
  go_ret2
  exact ⟨rfl, rfl⟩
/-- the row under way -/
def rowR (m k : Nat) : List Value := List.replicate k (.bool true) ++ List.replicate (m - k) (.bool false)
theorem rowR_len {m k : Nat} (h : k ≤ m) : (rowR m k).length = m := by simp [rowR]; omega
theorem rowR_get {m k j : Nat} (h : j < k) : (rowR m k)[j]? = some (.bool true) := by
  unfold rowR
  rw [List.getElem?_append_left (by simpa using h)]
  simp [h]
theorem rowR_splice {m k d : Nat} (h : k + d ≤ m) : splice (rowR m k) k (List.replicate d (.bool true)) = rowR m (k + d) := by
  unfold splice rowR
  apply List.ext_getElem?
  intro j
  simp only [List.getElem?_append, List.length_append, List.length_take, List.length_replicate, List.getElem?_take, List.getElem?_drop, List.getElem?_replicate]
  by_cases h1 : j < k
  · simp [h1, show j < k + d by omega]
  · by_cases h2 : j < k + d
    · simp [h1, h2, show k + (m - k) = m by omega, show min k m = k by omega, show j - k < d by omega]
    · by_cases h3 : j < m
      · simp [h1, h2, h3, show k + (m - k) = m by omega, show min k m = k by omega, show ¬ j - k < d by omega]
        have e1 : ¬ k + d + (j - k - d) < k := by omega
        have e2 : k + d + (j - k - d) - k < m - k := by omega
        have e3 : j - (k + d) < m - (k + d) := by omega
        simp [e1, e2, e3]
      · have e3 : ¬ j - (k + d) < m - (k + d) := by omega
        have e1 : ¬ k + d + (j - k - d) < k := by omega
        have e2 : ¬ k + d + (j - k - d) - k < m - k := by omega
        simp [h1, h2, show k + (m - k) = m by omega, show min k m = k by omega, show ¬ j - k < d by omega, e1, e2, e3]
theorem sqm_le {m : Nat} (h : SqM m) : 1 ≤ m ∧ m ≤ 36 := by rcases h with rfl | rfl | rfl | rfl | rfl | rfl <;> omega
theorem flat_rep (m : Nat) (b : Bool) : flat encBool (List.replicate m b) = List.replicate m (.bool b) := by
  induction m with
  | zero => rfl
  | succ m ih =>
    rw [List.replicate_succ, List.replicate_succ, flat_cons, ih]
    rfl
theorem row_of {w : World} {g m base : Nat} (h : Own encBool 4 1 base w (.slice (some ⟨g, 0, none⟩) m m) (List.replicate m false)) : w.heap[g]? = some (.cells (rowR m 0).toArray 4 (0, 0)) := by
  rcases h.2 with ⟨e, -⟩ | ⟨g', c', cur, e, -, h1, -, -, h2, h3⟩
  · cases e
  · injection e with e1 e2 e3
    injection e1 with e1
    injection e1 with e1
    subst e1 e3
    have hl : cur.toList.length = m := by simpa using h2
    rw [List.length_replicate, Nat.mul_one, List.take_of_length_le (by omega), flat_rep] at h3
    have e4 : cur = (rowR m 0).toArray := by
      unfold rowR
      rw [List.replicate_zero, List.nil_append, Nat.sub_zero, ← h3]
    rw [h1, e4]
theorem ownRow {w : World} {g m base : Nat} (hb : base ≤ g) (hm : m ≤ 1000) (h : w.heap[g]? = some (.cells (rowR m m).toArray 4 (0, 0))) : Own encBool 4 1 base w (.slice (some ⟨g, 0, none⟩) m m) (List.replicate m true) := by
  unfold Own
  rw [List.length_replicate]
  have e : flat encBool (List.replicate m true) = rowR m m := by
    unfold rowR
    rw [Nat.sub_self, List.replicate_zero, List.append_nil]
    exact flat_rep m true
  rw [e]
  exact ⟨by rw [rowR_len (Nat.le_refl _), Nat.mul_one], .inr ⟨g, m, _, rfl, hb, h, Nat.le_refl _, by unfold maxLen; omega, by simp [rowR_len (Nat.le_refl m)], by rw [Nat.mul_one]; exact List.take_of_length_le (Nat.le_of_eq (rowR_len (Nat.le_refl m)))⟩⟩
set_option maxRecDepth 8000 in
set_option maxHeartbeats 4000000 in
theorem RepeatB_any (m c : Nat) (A : Option Addr) (w : World) (hm : SqM m) (hx : Bools w (.slice A 1 c) [true]) : Calls Try.prog 30 #[.slice A 1 c, .int .i64 (m : Int)] w fun e w' => ∃ v', e = .returned v' ∧ Own encBool 4 1 w.heap.size w' v' (List.replicate m true) ∧ Kp w w' := by
  obtain ⟨g1, o1, rfl, hg1, i0⟩ := hx.bools (k := 0) (by simp)
  obtain ⟨m1, m36⟩ := sqm_le hm
  have HM := hid hm
  have hm1 : ¬ (m : Int) < 0 := by omega
  have hw : IntKind.u64.wrap (m : Int) = (m : Int) := by rcases hm with rfl | rfl | rfl | rfl | rfl | rfl <;> decide +kernel
  have hw2 : IntKind.i64.wrap (m : Int) = (m : Int) := by rcases hm with rfl | rfl | rfl | rfl | rfl | rfl <;> decide +kernel
  have e1 : decide ((9223372036854775807 : Int) < (m : Int)) = false := decide_eq_false (by omega)
  clear hx hm
  go_enter Try.func30, Try.ntmps30
  go_wp2_with fail
  refine (bMul_at m HM.out w).mono ?_
  rintro e w1 ⟨rfl, rfl⟩
  go_upto_region 6 with (fail)
  rw [Nat.add_zero] at i0
  have i0 : w1.cell? ⟨g1, o1, none⟩ = some (.bool true) := i0
  have hbase : w1.heap.size ≤ w1.heap.size := Nat.le_refl _
  go_upto_region 7 with (refine wpl_make_flat (enc := encBool) (base := w1.heap.size) rfl (.tmp 29) (.tmp 29) rfl stBoolM false (zero_of (u := .bool false) (by kernel_rfl) rfl) m rfl rfl (by omega) (by omega) hbase ?_; intro w2 own2 k2 z2)
  have hrow := row_of own2
  have i2 := k2.cellS i0
  generalize hgz : w1.heap.size = g at *
  have HGZ := hid hgz
  have kb : Below g w1 w2 := by rw [← hgz]; exact k2
  clear own2 i0 hgz hbase
  have hR0 := rowR_len (m := m) (k := 0) (Nat.zero_le _)
  have a1 : (List.replicate 1 (Value.bool true)).length = Nat.min 1 m := (Nat.min_eq_left m1).symm
  have a2 : ∀ j v, (List.replicate 1 (Value.bool true))[j]? = some v → w2.cell? ((⟨g1, o1, none⟩ : Addr).add j) = some v := fun j v hj => by
    cases j with
    | zero =>
      simp at hj
      subst hj
      simpa [Addr.add] using i2
    | succ j => simp at hj
  have a3 : 0 + (List.replicate 1 (Value.bool true)).length ≤ (rowR m 0).length := by rw [hR0]; simp; omega
  go_upto_region 8 with (refine wpList_copy_splice rfl (.tmp 31) (.tmp 32) 22 22 rfl 4 Try.underlying22 (by kernel_rfl) (some ⟨g, 0, none⟩) (some ⟨g1, o1, none⟩) m m 1 c rfl rfl g 0 (rowR m 0) 4 hrow (List.replicate 1 (.bool true)) a1 (fun _ => ⟨rfl, _, rfl, a2⟩) a3 (by simp [Value.oneCell']) g w1 kb (Nat.le_refl _) ?_; intro w3 HG3 hB3)
  have HB3 : Hid (w3.heap[g]? = some (.cells (rowR m 1).toArray 4 (0, 0))) := hid (by have := HG3.out; rw [rowR_splice (by omega)] at this; exact this)
  have k3 : Kp w1 w3 := by
    have := hB3
    rw [← HGZ.out] at this
    exact this
  clear HG3 hB3 i2 hrow a1 a2 a3 kb hR0
  go_wp2_with fail
  go_loopw [8] (fun nv wr => ∃ k : Nat, 1 ≤ k ∧ k ≤ m ∧ nv = .int .i64 (k : Int) ∧ Hid (wr.heap[g]? = some (.cells (rowR m k).toArray 4 (0, 0))) ∧ Kp w1 wr) (fun nv _ => m - (intOf nv).toNat)
  case atStart => exact ⟨1, Nat.le_refl _, m1, rfl, HB3, k3⟩
  case round =>
    clear HB3 k3
    obtain ⟨k, hk1, hk2, rfl, HB, kr⟩ := hrel
    by_cases hkm : k < m
    · have hkl : (k : Int) < (m : Int) := by omega
      have hki : (1 : Int) ≤ (k : Int) := by omega
      have hkle : (k : Int) ≤ (m : Int) := by omega
      have hsub : ((m : Int) - (k : Int)).toNat = m - k := by omega
      have hmk : ((m - k : Nat) : Int) = (m : Int) - (k : Int) := by omega
      go_upto_region 9 with (fail)
      refine G2.wp_region_growT Kp [0] 7 48 (G2.pvL [G2.eqv (.int .i64 (k : Int)), G2.eqv (.slice (some ⟨g, 0, none⟩) m m), G2.eqv (.int .i64 (k : Int)), G2.eqv (.slice (some ⟨g, k, none⟩) (m - k) (m - k)), G2.eqv (.slice (some ⟨g, 0, none⟩) m m), G2.eqv (.int .i64 (k : Int)), G2.eqv (.slice (some ⟨g, 0, none⟩) k m)]) (by kernel_rfl) (by kernel_rfl) rfl (fun x => Kp.refl x) (fun _ _ _ h k => h.trans k) (Kp.refl _).drew (fun _ _ _ _ _ h => h) (G2.pvL_keep (G2.stabL_cons (G2.stab_eq _) (G2.stabL_cons (G2.stab_eq _) (G2.stabL_cons (G2.stab_eq _) (G2.stabL_cons (G2.stab_eq _) (G2.stabL_cons (G2.stab_eq _) (G2.stabL_cons (G2.stab_eq _) (G2.stabL_cons (G2.stab_eq _) (G2.stabL_nil))))))))) (G2.stepsT_cons 0 ?_ (G2.stepsT_cons 1 ?_ (G2.stepsT_cons 2 ?_ (G2.stepsT_cons 3 ?_ (G2.stepsT_cons 4 ?_ (G2.stepsT_cons 5 ?_ (G2.stepsT_cons 6 ?_ (G2.stepsT_nil _ _ _)))))))) ?_ ?_
      · intro a w' hk hF hD K hK
        have h8 : a.tmps[8]?.getD undef = .int .i64 (k : Int) := hF 8 (by kernel_rfl)
        clear hF hD
        go_simp
        exact hK.out _ _ (Kp.refl _) rfl
      · intro a w' hk hF hD K hK
        have h7 : a.tmps[7]?.getD undef = .slice (some ⟨g, 0, none⟩) m m := hF 7 (by kernel_rfl)
        clear hF hD
        go_simp
        exact hK.out _ _ (Kp.refl _) rfl
      · intro a w' hk hF hD K hK
        have h8 : a.tmps[8]?.getD undef = .int .i64 (k : Int) := hF 8 (by kernel_rfl)
        clear hF hD
        go_simp
        exact hK.out _ _ (Kp.refl _) rfl
      · intro a w' hk hF hD K hK
        have h39 : a.tmps[39]?.getD undef = .slice (some ⟨g, 0, none⟩) m m := hD 1 (by kernel_rfl)
        have h40 : a.tmps[40]?.getD undef = .int .i64 (k : Int) := hD 2 (by kernel_rfl)
        clear hF hD
        have q1 : ¬ ((m : Int) - (k : Int) = 0) := (by omega)
        have q2 : ¬ (m - k = 0) := (by omega)
        have q3 : ¬ ((m : Int) = (k : Int)) := (by omega)
        have q4 : ¬ (m ≤ k) := (by omega)
        have q5 : ¬ (k = m) := (by omega)
        have q7 : ¬ (m = k) := (by omega)
        have q6 : ¬ ((k : Int) = (m : Int)) := (by omega)
        go_simp
        exact hK.out _ _ (Kp.refl _) rfl
      · intro a w' hk hF hD K hK
        have h7 : a.tmps[7]?.getD undef = .slice (some ⟨g, 0, none⟩) m m := hF 7 (by kernel_rfl)
        clear hF hD
        go_simp
        exact hK.out _ _ (Kp.refl _) rfl
      · intro a w' hk hF hD K hK
        have h8 : a.tmps[8]?.getD undef = .int .i64 (k : Int) := hF 8 (by kernel_rfl)
        clear hF hD
        go_simp
        exact hK.out _ _ (Kp.refl _) rfl
      · intro a w' hk hF hD K hK
        have h42 : a.tmps[42]?.getD undef = .slice (some ⟨g, 0, none⟩) m m := hD 4 (by kernel_rfl)
        have h43 : a.tmps[43]?.getD undef = .int .i64 (k : Int) := hD 5 (by kernel_rfl)
        clear hF hD
        go_simp
        exact hK.out _ _ (Kp.refl _) rfl
      · intro i0 hi0
        have hi' : i0 = 0 := by simpa using hi0
        rcases hi' with rfl
        · refine ⟨by omega, fun a w' hk hF hD => ?_⟩
          simp only [List.getElem?_toArray, List.getElem?_cons_zero, List.getElem?_cons_succ, Option.map_some, Option.getD_some]
          have h8 : a.tmps[8]?.getD undef = .int .i64 (k : Int) := hF 8 (by kernel_rfl)
          clear hF hD
          exact ⟨.int .i64 (k : Int), rfl, Or.inl ⟨by simp [Region.wanted], fun w => by go_simp⟩⟩
      intro v w9 k9 hv
      have v3 : v 3 = .slice (some ⟨g, k, none⟩) (m - k) (m - k) := hv 3 (by omega)
      have v6 : v 6 = .slice (some ⟨g, 0, none⟩) k m := hv 6 (by omega)
      have v0 : v 0 = .int .i64 (k : Int) := hv 0 (by omega)
      clear hv
      simp only [G2.growPut, G2.gSlot, List.getElem?_toArray, List.getElem?_cons_zero, List.getElem?_cons_succ, Option.bind_some, List.setIfInBounds_toArray, List.set_cons_zero, List.set_cons_succ, List.drop_succ_cons, List.drop_zero, v3, v6, v0]
      have HB9 : w9.heap[g]? = some (.cells (rowR m k).toArray 4 (0, 0)) := (k9.block (Array.getElem?_eq_some_iff.1 HB.out).1).trans HB.out
      have kr9 := kr.trans k9
      have kb9 : Below g w1 w9 := by
        have := kr9
        rw [← HGZ.out]
        exact this
      obtain ⟨d, hd⟩ : ∃ d, d = Nat.min k (m - k) := ⟨_, rfl⟩
      have hdk : d ≤ k := by rw [hd]; exact Nat.min_le_left _ _
      have hdm : d ≤ m - k := by rw [hd]; exact Nat.min_le_right _ _
      have hd1 : 1 ≤ d := by rw [hd]; exact Nat.le_min.2 ⟨hk1, by omega⟩
      have a1 : (List.replicate d (Value.bool true)).length = Nat.min k (m - k) := by rw [List.length_replicate, hd]
      have hRk := rowR_len hk2
      have a3 : k + (List.replicate d (Value.bool true)).length ≤ (rowR m k).length := by rw [hRk, List.length_replicate]; omega
      have a2 : ∀ j v, (List.replicate d (Value.bool true))[j]? = some v → w9.cell? ((⟨g, 0, none⟩ : Addr).add j) = some v := fun j v hj => by
        rw [List.getElem?_replicate] at hj
        split at hj
        · injection hj with hj
          subst hj
          have e : (⟨g, 0, none⟩ : Addr).add j = ⟨g, j, none⟩ := by unfold Addr.add; split <;> simp_all
          rw [e, cell_of_row _ _ _ _ _ _ HB9]
          have := rowR_get (m := m) (k := k) (j := j) (by omega)
          simpa using this
        · cases hj
      have HD := hid hd
      clear hd HB
      go_wp2_with (refine wpList_copy_splice rfl (.tmp 41) (.tmp 44) 22 22 rfl 4 Try.underlying22 (by kernel_rfl) (some ⟨g, k, none⟩) (some ⟨g, 0, none⟩) (m - k) (m - k) k m rfl rfl g k (rowR m k) 4 HB9 (List.replicate d (.bool true)) a1 (fun _ => ⟨rfl, _, rfl, a2⟩) a3 (by simp [Value.oneCell']) g w1 kb9 (Nat.le_refl _) ?_; intro wz HGz hBz)
      have HBz : Hid (wz.heap[g]? = some (.cells (rowR m (k + d)).toArray 4 (0, 0))) := hid (by have := HGz.out; rw [rowR_splice (by omega)] at this; exact this)
      have kz : Kp w1 wz := by
        have := hBz
        rw [← HGZ.out] at this
        exact this
      clear HGz hBz HB9 a1 a2 a3 hRk
      go_roundw
      case rel => exact ⟨k + d, by omega, by omega, by simp; exact congrArg _ HD.out.symm, HBz, kz⟩
      case measure => simp [intOf]; rw [← HD.out]; omega
    · obtain rfl : k = m := by omega
      have hkl : ¬ (k : Int) < (k : Int) := by omega
      go_wp2
      go_ret
      exact ⟨_, rfl, ownRow (by rw [HGZ.out]; exact Nat.le_refl _) (by omega) HB.out, kr⟩
end Go.Proofs.Ytlkabhjkncklnaa
