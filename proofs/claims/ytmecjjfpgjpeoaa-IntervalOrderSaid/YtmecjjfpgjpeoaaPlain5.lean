
/-
Plain facts on fixed boxes: the order of the rows does not matter, fewer rows fix less, a smaller box stays smaller. No program in sight.
-/
import Derived.Test.YtmecjjfpgjpeoaaPlain3
namespace Go.Proofs.Ytmecjjfpgjpeoaa
open Go.RowKit

theorem validB_sub {b : List Rng} {A B : List Row} (h : validB b A = true) (hs : ∀ r ∈ B, r ∈ A) : validB b B = true := by
  have h0 := (validB_ok h).2.2
  unfold validB at *
  rw [Bool.and_eq_true] at *
  refine ⟨h.1, ?_⟩
  rw [Bool.not_eq_true', List.any_eq_false]
  intro r hr
  rw [h0 r (hs r hr)]
  simp
theorem fix_mono {b L : List Rng} {A B : List Row} (h : fixB b A = some L) (hs : ∀ r ∈ B, r ∈ A) : ∃ L', fixB b B = some L' ∧ Sub L L' := by
  obtain ⟨c1, c2, c3, c4, c5, c6⟩ := fix_closed h
  refine fix_greatest (validB_sub c1 hs) c2 ?_ (fun r hr => c6 r (hs r hr)) c5
  unfold noSol at *
  rw [List.any_eq_false] at *
  exact fun r hr => c3 r (hs r hr)
theorem fix_same {b : List Rng} {A B : List Row} (h1 : ∀ r ∈ B, r ∈ A) (h2 : ∀ r ∈ A, r ∈ B) : fixB b A = fixB b B := by
  cases hA : fixB b A with
  | some L =>
    obtain ⟨L', hB, hS⟩ := fix_mono hA h1
    obtain ⟨L'', hA', hS'⟩ := fix_mono hB h2
    rw [hA] at hA'
    injection hA' with e
    subst e
    rw [hB, hS.antisymm hS']
  | none =>
    cases hB : fixB b B with
    | none => rfl
    | some L =>
      obtain ⟨L', hA', -⟩ := fix_mono hB h2
      rw [hA] at hA'
      cases hA'
theorem fix_reverse (b : List Rng) (rows : List Row) : fixB b rows.reverse = fixB b rows := fix_same (fun r hr => by simpa using hr) (fun r hr => by simpa using hr)
theorem fix_take {b L : List Rng} {rows : List Row} (h : fixB b rows = some L) (n : Nat) : ∃ L', fixB b (rows.take n) = some L' ∧ Sub L L' := fix_mono h (fun _ hr => List.mem_of_mem_take hr)
theorem sub_with {b : List Rng} {j : Nat} (hj : j < b.length) (lo hi : Int) (h1 : (pick b j).lo ≤ lo) (h2 : hi ≤ (pick b j).hi) : Sub (withL b j ⟨lo, hi⟩) b := by
  refine ⟨withL_length _ _ _, fun k hk => ?_⟩
  by_cases hkj : k = j
  · subst hkj
    rw [pick_with_self b k _ hj]
    exact ⟨h1, h2⟩
  · rw [pick_with b j _ k (by omega) (by omega)]
    exact ⟨Int.le_refl _, Int.le_refl _⟩
theorem sub_ne {M L : List Rng} (h : Sub M L) (hm : M.any emptyR = false) : L.any emptyR = false := by
  rw [List.any_eq_false] at *
  intro r hr
  obtain ⟨k, hk, rfl⟩ := List.getElem_of_mem hr
  have h1 := h.2 k hk
  have hkM : k < M.length := by rw [h.1]; exact hk
  have h2 := hm _ (List.getElem_mem hkM)
  rw [pick_at L k hk, pick_at M k hkM] at h1
  unfold emptyR at *
  simp at h2 ⊢
  omega
theorem fix_part {b l M : List Rng} {rows : List Row} (hv : validB b rows = true) (hS : Sub M b) (h : fixB M rows = some l) : ∃ L, fixB b rows = some L ∧ Sub l L := by
  obtain ⟨c1, c2, c3, c4, c5, c6⟩ := fix_closed h
  exact fix_greatest hv (sub_ne hS c2) c3 c6 (c5.trans hS)
theorem sub_at {M L : List Rng} (h : Sub M L) (k : Nat) (h1 : k < M.length) (h2 : k < L.length) : L[k].lo ≤ M[k].lo ∧ M[k].hi ≤ L[k].hi := by
  have := h.2 k h2
  rwa [pick_at L k h2, pick_at M k h1] at this
theorem Sl.take {α : Type} {R : Rd α} {size : Nat} {w : World} {A : Option Addr} {n c : Nat} {l : List α} (h : Sl R size w (.slice A n c) l) (m : Nat) (hm : m ≤ l.length) : Sl R size w (.slice A m c) (l.take m) := by
  obtain ⟨A', c', he, h1, h2, h3⟩ := h
  injection he with e1 e2 e3
  subst e1 e3
  refine ⟨A, c, by rw [List.length_take, Nat.min_eq_left hm], by rw [List.length_take]; omega, h2, fun k hk => ?_⟩
  have hk' : k < l.length := by rw [List.length_take] at hk; omega
  obtain ⟨b, o, cs, hA, had, hcs, hc, hr⟩ := h3 k hk'
  exact ⟨b, o, cs, hA, had, hcs, hc, by rw [List.getElem_take]; exact hr⟩
end Go.Proofs.Ytmecjjfpgjpeoaa
