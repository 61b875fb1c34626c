
/-
The laws' own look at a list of vertices: a path without repetition passes.
-/
import Derived.Test.YtlkabhjkncklnaaDgAw
namespace Go.Proofs.Ytlkabhjkncklnaa
set_option linter.unusedSimpArgs false
set_option linter.unusedVariables false
open Go.RowKit

theorem Sl.take {α : Type} {R : Rd α} {size : Nat} {w : World} {A : Option Addr} {n c k : Nat} {l : List α} (h : Sl R size w (.slice A n c) l) (hk : k ≤ l.length) : Sl R size w (.slice A k c) (l.take k) := by
  obtain ⟨A', c', he, h1, h2, h3⟩ := h
  injection he with e1 e2 e3
  subst e1 e3
  refine ⟨A, c, by rw [List.length_take, Nat.min_eq_left hk], by rw [List.length_take]; omega, h2, fun i hi => ?_⟩
  have hi' : i < l.length := by rw [List.length_take] at hi; omega
  obtain ⟨b, o, cs, a1, a2, a3, a4, a5⟩ := h3 i hi'
  exact ⟨b, o, cs, a1, a2, a3, a4, by rw [List.getElem_take]; exact a5⟩
theorem castL_take (l : List Nat) (k : Nat) : castL (l.take k) = (castL l).take k := by simp [castL, List.map_take]
/-- what passes -/
structure WkOk (n : Nat) (es : List Bool) (l : List Nat) : Prop where
  nd : l.Nodup
  lt : ∀ x ∈ l, x < n
  walk : Walk n es l
theorem WkOk.new {n : Nat} {es : List Bool} {l : List Nat} (h : WkOk n es l) {k : Nat} (hk : k < l.length) : l[k] ∉ l.take k := fun hin => by
  obtain ⟨i, hi, e⟩ := List.getElem_of_mem hin
  rw [List.length_take] at hi
  rw [List.getElem_take] at e
  have hp := List.pairwise_iff_getElem.1 h.nd i k (by omega) hk (by omega)
  exact hp e
set_option maxRecDepth 8000 in
set_option maxHeartbeats 4000000 in
theorem lWalk_any (n : Nat) (es : List Bool) (l : List Nat) (va vl : Value) (w : World) (ha : Bools w va es) (hl : Ints w vl (castL l)) (hle : es.length = n * n) (h6 : n ≤ 6) (hok : WkOk n es l) : Calls Try.prog 29 #[.int .i64 (n : Int), va, vl] w fun e w' => e = .returned (.bool true) ∧ Kp w w' := by
  obtain ⟨A, c, rfl, hc, hm⟩ := ha.form
  obtain ⟨B, d, rfl, hd, hn⟩ := hl.form
  rw [castL_len] at hd ⊢
  have HA := hid ha
  have HLn := hid hl
  have HOK := hid hok
  have HLE := hid hle
  have hl36 : es.length ≤ 36 := by rw [hle]; exact Nat.mul_le_mul h6 h6
  clear ha hl hok hle
  go_enter Try.func29, Try.ntmps29
  go_wp2_with fail
  go_loopw [11] (fun iv wr => ∃ k : Nat, k ≤ l.length ∧ iv = .int .i64 (k : Int) ∧ Kp w wr) (fun iv _ => l.length - (intOf iv).toNat)
  case atStart => exact ⟨0, Nat.zero_le _, rfl, Kp.refl _⟩
  case round =>
    obtain ⟨k, hk, rfl, kr⟩ := hrel
    by_cases hlt : k < l.length
    · have hkl : (k : Int) < (l.length : Int) := by omega
      have hI := HLn.out.keep (pl_stable _) kr
      have hT := hI.take (k := k) (by rw [castL_len]; exact hk)
      rw [← castL_take] at hT
      rw [castL_len] at hI
      obtain ⟨g, o, hB, hg, i0⟩ := hI.ints (k := k) (by rw [castL_len]; exact hlt)
      subst hB
      rw [castL_get l k hlt] at i0
      have hvn : l[k] < n := HOK.out.lt _ (List.getElem_mem hlt)
      have hnew := HOK.out.new hlt
      have HNEW := hid (decide_eq_false hnew)
      have HTK := hid hT
      have HEDGE : Hid (∀ j (hj : j + 1 = k), hasE n es (l[j]'(by omega)) l[k] = true) := hid fun j hj => by
        subst hj
        exact (walk_get n es l j hlt HOK.out.walk).2
      have HI := hid hI
      clear hnew hT hI
      generalize l[k] = v at *
      have hv0 : ¬ (v : Int) < 0 := by omega
      have hvn1 : ¬ (n : Int) ≤ (v : Int) := by omega
      have e1 : decide ((v : Int) < 0) = false := decide_eq_false hv0
      have e2 : decide ((n : Int) ≤ (v : Int)) = false := decide_eq_false hvn1
      cases k with
      | zero =>
        rw [Nat.add_zero] at i0
        go_wp2_with fail
        refine (ContainsN_any _ _ v wr HTK.out).mono ?_
        rintro e w5 ⟨rfl, rfl⟩
        rw [HNEW.out]
        go_wp2_with fail
        go_roundw
        case rel => exact ⟨1, by omega, by go_num, kr⟩
        case measure => simp [intOf]; omega
      | succ j =>
        obtain ⟨g', o', hB', hg', i1⟩ := HI.out.ints (k := j) (by rw [castL_len]; omega)
        injection hB' with hB'
        injection hB' with b1 b2 b3
        subst b1 b2
        rw [castL_get l j (by omega)] at i1
        have hun := HOK.out.lt (l[j]'(by omega)) (List.getElem_mem _)
        have HE := hid (HEDGE.out j rfl)
        generalize (l[j]'(by omega)) = u at *
        have hi : u * n + v < es.length := by rw [HLE.out]; exact idx_lt hun hvn
        obtain ⟨g2, o2, hA, hg2, i2⟩ := (HA.out.keep (pl_stable _) kr).bools hi
        subst hA
        have hee : es[u * n + v] = true := by rw [← hasE_get hi]; exact HE.out
        rw [hee] at i2
        have hp := mul_cast u n
        replace hee := hid hee
        clear hee HEDGE
        generalize u * n = un at *
        have hj1 : (un : Int) + (v : Int) < (es.length : Int) := by omega
        have hj6 : (j : Int) + 1 ≤ 7 := by have := nodup_len n l HOK.out.nd HOK.out.lt; omega
        have hcast : ((j + 1 : Nat) : Int) = (j : Int) + 1 := by push_cast; rfl
        have hjl : (j : Int) < (l.length : Int) := by omega
        have hj0 : (0 : Int) < (j : Int) + 1 := by omega
        have hj00 : 0 ≤ (j : Int) + 1 := by omega
        have hjll : (j : Int) + 1 < (l.length : Int) := by omega
        have hjd : (j : Int) + 1 ≤ (d : Int) := by omega
        go_wp2_with fail
        refine (ContainsN_any _ _ v wr HTK.out).mono ?_
        rintro e w5 ⟨rfl, rfl⟩
        rw [HNEW.out]
        go_wp2_with fail
        go_roundw
        case rel => exact ⟨j + 1 + 1, by omega, by go_num, kr⟩
        case measure => simp [intOf]; omega
    · obtain rfl : k = l.length := by omega
      have hkl : ¬ (l.length : Int) < (l.length : Int) := by omega
      go_wp2
      go_ret
      exact ⟨rfl, kr⟩
end Go.Proofs.Ytlkabhjkncklnaa
