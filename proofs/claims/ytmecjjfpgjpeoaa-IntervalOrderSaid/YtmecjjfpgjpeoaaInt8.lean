
/-
What Next returns, for any input.
-/
import Derived.Test.YtmecjjfpgjpeoaaInt7
namespace Go.Proofs.Ytmecjjfpgjpeoaa
open Go.RowKit

def nextF (b : List Rng) : List Int → Nat → Option (List Int)
  | _, 0 => none
  | out, i + 1 => if out.getD i 0 < (pick b i).hi then some (out.set i (out.getD i 0 + 1)) else nextF b (out.set i (pick b i).lo) i
def nextB (b : List Rng) (vs : List Int) : Option (List Int) := if boxB b = true ∧ containsB b vs = true then nextF b vs vs.length else none
theorem ret_next {v v' : Value} {a b : Bool} (h : v = v') (h' : a = b) : Ending.returned (.tuple #[v, .bool a]) = .returned (.tuple #[v', .bool b]) := by rw [h, h']
theorem contL_at : ∀ (b : List Rng) (vs : List Int), b.length = vs.length → contL b vs = true → ∀ k, k < vs.length → ¬ badV (pick b k) (vs.getD k 0)
  | [], [], _, _, k, hk => absurd hk (by simp)
  | r :: b, x :: vs, hl, h, k, hk => by
    unfold contL at h
    split at h
    · simp at h
    · rename_i hb
      cases k with
      | zero => simpa [pick] using hb
      | succ k =>
        have := contL_at b vs (by simpa using hl) h k (by simpa using hk)
        simpa [pick] using this
set_option maxHeartbeats 2000000 in
theorem Next_any (vb vv : Value) (b : List Rng) (vs : List Int) (w : World) (hb : Rngs w vb b) (hv : Ints w vv vs) :
    Calls Try.prog 16 #[vb, vv] w fun e w' => ∃ v', e = .returned (.tuple #[v', .bool (nextB b vs).isSome]) ∧ Own encInt 3 1 w.heap.size w' v' ((nextB b vs).getD []) ∧ Kp w w' := by
  obtain ⟨A, c, rfl, hc, hm⟩ := hb.form
  obtain ⟨A', c', rfl, hc', hm'⟩ := hv.form
  go_enter Try.func16, Try.ntmps16
  go_wp2_with fail
  refine (box_any _ b _ hb).mono ?_
  rintro e w1 ⟨rfl, hk1⟩
  have hbel1 := ((Kp.refl _)).trans hk1
  cases hB : boxB b with
  | false =>
    have HF : Hid (nextB b vs = none) := hid (by simp [nextB, hB])
    clear hB
    go_wp2
    go_ret2
    exact ⟨_, ret_next rfl (by rw [HF.out]; rfl), by rw [HF.out]; exact Own.nil _ _ _ _ _, hbel1⟩
  | true =>
    have HB := hid hB
    clear hB
    go_wp2_with fail
    refine (Contains_any _ _ b vs _ (hb.keep (pl_stable _) hbel1) (hv.keep (pl_stable _) hbel1)).mono ?_
    rintro e w2 ⟨rfl, hk2⟩
    have hbel2 := (hbel1).trans hk2
    cases hC : containsB b vs with
    | false =>
      have HF : Hid (nextB b vs = none) := hid (by simp [nextB, hC])
      clear hC
      go_wp2
      go_ret2
      exact ⟨_, ret_next rfl (by rw [HF.out]; rfl), by rw [HF.out]; exact Own.nil _ _ _ _ _, hbel2⟩
    | true =>
      have HF : Hid (nextB b vs = nextF b vs vs.length) := hid (by simp [nextB, hC, HB.out])
      obtain ⟨hall, h128⟩ := boxB_all HB.out
      have HA := hid hall
      have hlen : b.length = vs.length := by
        unfold containsB at hC
        rw [Bool.and_eq_true] at hC
        simpa using hC.1
      have HL := hid hlen
      have l1 : vs.length ≤ 128 := by omega
      have HCT : Hid (∀ k, k < vs.length → ¬ badV (pick b k) (vs.getD k 0)) := hid (contL_at b vs hlen (by unfold containsB at hC; rw [Bool.and_eq_true] at hC; exact hC.2))
      clear hC hall hlen h128
      go_wp2_with fail
      refine (CloneInt_any _ vs _ (hv.keep (pl_stable _) hbel2) (by omega)).mono ?_
      rintro e w3 ⟨v3, rfl, hown0, hk3⟩
      have hbel3 := hbel2.trans hk3
      have hown := hown0.less (base' := w.heap.size) hbel2.size
      obtain ⟨A3, c3, rfl, h31, h32⟩ := hown.form
      clear hown0 hk1 hk2 hk3
      go_wp2
      go_loopw [7] (fun i wr => ∃ (j : Nat) (out : List Int), j ≤ vs.length ∧ i = .int .i64 ((j : Int) - 1) ∧ Hid (out.length = vs.length) ∧ Hid (∀ k, k < j → out.getD k 0 = vs.getD k 0) ∧ Own encInt 3 1 w.heap.size wr (.slice A3 vs.length c3) out ∧ Hid (nextB b vs = nextF b out j) ∧ Kp w wr) (fun i _ => (intOf i + 1).toNat)
      case atStart => exact ⟨vs.length, vs, Nat.le_refl _, rfl, rfl, fun _ _ => rfl, hown, HF, hbel3⟩
      case round =>
        obtain ⟨j, out, hj, rfl, HO, HS, hownr, HN, hbel⟩ := hrel
        rcases j with _ | k
        · have HE : Hid (nextB b vs = none) := hid (by rw [HN.out, nextF])
          go_wp2
          go_ret2
          exact ⟨_, ret_next rfl (by rw [HE.out]; rfl), by rw [HE.out]; exact Own.nil _ _ _ _ _, hbel⟩
        · have hku : k < vs.length := by omega
          have hko : k < out.length := by rw [HO.out]; exact hku
          have hkb : k < b.length := by rw [HL.out]; exact hku
          have hi : (((k + 1 : Nat) : Int) - 1) = (k : Int) := by omega
          rw [hi]
          obtain ⟨g, rfl, hg1, hg2⟩ := hownr.at_ (by omega)
          have x1 := hownr.intCell HO.out.symm hko
          have x2 := hownr.frozen HO.out.symm k
          obtain ⟨g', o', rfl, hg', y1', y2'⟩ := hb.rng hkb
          have y1 := hbel.cellS y1'
          have y2 := hbel.cellS y2'
          have hne : g' ≠ g := by omega
          have hg3 : g' < wr.heap.size := by have := hbel.size; omega
          have HP := hid (pick_at b k hkb)
          have hnb := not_bad (HA.out b[k] (List.getElem_mem hkb))
          have hnv := HCT.out k hku
          rw [← HS.out k (by omega), HP.out] at hnv
          have HQ : Hid (out.getD k 0 = out[k]) := hid (by simp [List.getD, hko])
          rw [HQ.out] at hnv
          have HX : Hid (nextF b out (k + 1) = if out[k] < b[k].hi then some (out.set k (out[k] + 1)) else nextF b (out.set k b[k].lo) k) := hid (by rw [nextF, HQ.out, HP.out])
          have s1 := hownr.intSet HO.out.symm hko (out[k] + 1)
          have s2 := hownr.intSet HO.out.symm hko b[k].lo
          have S1 := hid s1
          have S2 := hid s2
          clear y1' y2' hb hv hown hownr HQ HP s1 s2
          generalize out[k] = x at *
          generalize b[k] = r at *
          obtain ⟨lo, hi'⟩ := r
          dsimp only at y1 y2 hnb
          unfold badV at hnv
          dsimp only at hnv
          obtain ⟨n1, n2, n3, n4⟩ := hnb
          have m1 : lo ≤ x := by omega
          have m2 : x ≤ hi' := by omega
          have q1 : (0 : Int) ≤ k := by omega
          have q2 : (k : Int) < vs.length := by omega
          have q3 : (k : Int) < b.length := by omega
          clear hnv hi
          by_cases hx : x < hi'
          · have HE : Hid (nextB b vs = some (out.set k (x + 1))) := hid (by rw [HN.out, HX.out, if_pos hx])
            go_wp2
            go_quiet (fail)
            go_wp2
            go_ret2
            exact ⟨_, ret_next rfl (by rw [HE.out]; rfl), by rw [HE.out]; exact Own.less S1.out (Nat.le_refl _), (hbel.drewN _).set (p := ⟨g, k, none⟩) hg1 _⟩
          · have HE : Hid (nextB b vs = nextF b (out.set k lo) k) := hid (by rw [HN.out, HX.out, if_neg hx])
            go_wp2
            go_quiet (fail)
            go_wp2
            go_roundw
            case rel => exact ⟨k, out.set k lo, by omega, by go_num, hid (by rw [List.length_set]; exact HO.out), hid (fun k' hk' => by rw [← HS.out k' (by omega)]; simp [List.getD, show k ≠ k' by omega]), S2.out, HE, (hbel.drewN _).set (p := ⟨g, k, none⟩) hg1 _⟩
            case measure => simp [intOf]
end Go.Proofs.Ytmecjjfpgjpeoaa
