
/-
What Tighten and Clone return, for any input.
-/
import Derived.Test.YtmecjjfpgjpeoaaInt6
namespace Go.Proofs.Ytmecjjfpgjpeoaa
open Go.RowKit

theorem fits_all {b : List Rng} {r : Row} (h : fitsB b.length r = true) : ∀ t ∈ r.terms, okT b.length t ∧ t.factor ≠ 0 := by
  unfold fitsB at h
  rw [Bool.and_eq_true] at h
  obtain ⟨h1, -⟩ := fitsL_ok b.length r.terms (-1) (by omega) h.1
  intro t ht
  have := h1 t ht
  unfold okT
  omega
def tightenB (r : Row) (b : List Rng) (cell : Int) : Rng := if validB b [r] = true ∧ 0 ≤ cell ∧ cell < b.length then tightR r b cell else ⟨0, 0⟩
set_option maxHeartbeats 1000000 in
theorem Tighten_any (vt vb : Value) (r : Row) (b : List Rng) (cell : Int) (w : World) (ht : Terms w vt r.terms) (hb : Rngs w vb b) :
    Calls Try.prog 29 #[.agg #[vt, .int .i64 r.bound], vb, .int .i64 cell] w fun e w' => e = .returned (.agg #[.int .i64 (tightenB r b cell).lo, .int .i64 (tightenB r b cell).hi]) ∧ Kp w w' := by
  obtain ⟨A, c, rfl, hc, hm⟩ := ht.form
  obtain ⟨A', c', rfl, hc', hm'⟩ := hb.form
  obtain ⟨ts, bd⟩ := r
  dsimp only at *
  go_enter Try.func29, Try.ntmps29
  have hk0 := ((Kp.refl w).alloc (.cells #[.slice A ts.length c, .int .i64 bd] 41)).alloc (.cells #[.int .i64 0, .int .i64 0] 27)
  have HR := rowLit ((w.alloc (.cells #[.slice A ts.length c, .int .i64 bd] 41)).alloc (.cells #[.int .i64 0, .int .i64 0] 27)) _ ⟨ts, bd⟩ (ht.keep (pl_stable _) hk0)
  rw [World.size_alloc, World.size_alloc] at HR
  dsimp only at HR
  have hk1 := hk0.alloc (.cells #[.slice A ts.length c, .int .i64 bd] 41)
  go_wp2_with fail
  refine (Valid_any _ _ b _ _ (hb.keep (pl_stable _) hk1) HR).mono ?_
  rintro e w1 ⟨rfl, hk2⟩
  have hbel1 := (hk1).trans hk2
  have c0 : w1.cell? ⟨w.heap.size, 0, none⟩ = some (.slice A ts.length c) := hk2.cellS (by go_simp)
  have c1 : w1.cell? ⟨w.heap.size, 1, none⟩ = some (.int .i64 bd) := hk2.cellS (by go_simp)
  have c2 : w1.cell? ⟨w.heap.size + 1, 0, none⟩ = some (.int .i64 0) := hk2.cellS (by go_simp)
  have c3 : w1.cell? ⟨w.heap.size + 1, 1, none⟩ = some (.int .i64 0) := hk2.cellS (by go_simp)
  have f1 : ∀ o, w1.frozen? ⟨w.heap.size + 1, o, none⟩ = false := fun o => by rw [(kcell hk2).2 _ _ (by simp)]; go_simp
  have hz := hk2.size
  simp only [World.size_alloc] at hz
  clear hk0 HR hk1 hk2
  cases hV : validB b [⟨ts, bd⟩] with
  | false =>
    have HF : Hid (tightenB ⟨ts, bd⟩ b cell = ⟨0, 0⟩) := hid (by simp [tightenB, hV])
    clear hV
    go_wp2
    refine bodyPost_agg2 (by simp [results, Try.results29, go_sem, c2, c3]; exact ⟨rfl, rfl⟩) rfl ⟨ret_agg2 (by rw [HF.out]) (by rw [HF.out]), ?_⟩
    exact (hbel1.set (by show _ ≤ _; simp) _).set (by show _ ≤ _; simp) _
  | true =>
    have HV := hid hV
    by_cases h0 : 0 ≤ cell
    · by_cases h1 : cell < b.length
      · have HF : Hid (tightenB ⟨ts, bd⟩ b cell = tightR ⟨ts, bd⟩ b cell) := hid (by unfold tightenB; rw [if_pos ⟨hV, h0, h1⟩])
        obtain ⟨v1, v2, v3⟩ := validB_ok hV
        have v4 := v3 ⟨ts, bd⟩ (by simp)
        obtain ⟨f1', f2, f3, f4⟩ := fitsB_ok v4
        have f5 := fits_all v4
        obtain ⟨j, rfl⟩ := Int.eq_ofNat_of_zero_le h0
        have H1 := hid f5
        have H2 := hid v1
        have H3 : Hid (j < b.length ∧ ts.length ≤ 128) := hid ⟨by omega, by dsimp only at f2; omega⟩
        have H4 := hid (And.intro f3 f4)
        clear hV v1 v2 v3 v4 f1' f2 f3 f4 f5
        go_wp2_with fail
        refine (tighten_any _ _ ⟨ts, bd⟩ b j _ (ht.keep (pl_stable _) hbel1) (hb.keep (pl_stable _) hbel1) H3.out.1 H1.out H2.out H3.out.2 H4.out).mono ?_
        rintro e w2 ⟨rfl, hk3⟩
        have hbel2 := (hbel1).trans hk3
        have d2 := hk3.cellS c2
        have d3 := hk3.cellS c3
        have f2 : ∀ o, w2.frozen? ⟨w.heap.size + 1, o, none⟩ = false := fun o => by rw [(kcell hk3).2 _ _ (by omega)]; exact f1 o
        clear c0 c1 c2 c3 f1 hk3
        go_wp2
        refine bodyPost_agg2 (by simp [results, Try.results29, go_sem, d2, d3]; exact ⟨rfl, rfl⟩) rfl ⟨ret_agg2 (by rw [HF.out]) (by rw [HF.out]), ?_⟩
        exact (hbel2.set (by show _ ≤ _; simp) _).set (by show _ ≤ _; simp) _
      · have HF : Hid (tightenB ⟨ts, bd⟩ b cell = ⟨0, 0⟩) := hid (by unfold tightenB; rw [if_neg (by omega)])
        clear hV
        go_wp2
        refine bodyPost_agg2 (by simp [results, Try.results29, go_sem, c2, c3]; exact ⟨rfl, rfl⟩) rfl ⟨ret_agg2 (by rw [HF.out]) (by rw [HF.out]), ?_⟩
        exact (hbel1.set (by show _ ≤ _; simp) _).set (by show _ ≤ _; simp) _
    · have HF : Hid (tightenB ⟨ts, bd⟩ b cell = ⟨0, 0⟩) := hid (by unfold tightenB; rw [if_neg (by omega)])
      clear hV
      go_wp2
      refine bodyPost_agg2 (by simp [results, Try.results29, go_sem, c2, c3]; exact ⟨rfl, rfl⟩) rfl ⟨ret_agg2 (by rw [HF.out]) (by rw [HF.out]), ?_⟩
      exact (hbel1.set (by show _ ≤ _; simp) _).set (by show _ ≤ _; simp) _

/-! Clone -/
theorem stRange : SliceT Try.prog 22 27 2 16 := SliceT.mk' Try.underlying22 (z := .agg #[.int .i64 0, .int .i64 0]) (by kernel_rfl) rfl (by omega)
theorem stInt : SliceT Try.prog 24 3 1 8 := SliceT.mk' Try.underlying24 (z := .int .i64 0) (by kernel_rfl) rfl (by omega)
set_option maxHeartbeats 1000000 in
theorem CloneRange_any (v : Value) (l : List Rng) (w : World) (hS : Rngs w v l) (hl : l.length ≤ 1000000000) :
    Calls Try.prog 57 #[v] w fun e w' => ∃ v', e = .returned v' ∧ Own encRng 27 2 w.heap.size w' v' l ∧ Kp w w' := by
  obtain ⟨A, c, rfl, hc, hm⟩ := hS.form
  rcases A with _ | A
  · have hl0 : l = [] := by
      cases l with
      | nil => rfl
      | cons x l =>
        obtain ⟨_, _, _, hA, _⟩ := hS.at_ (k := 0) (by simp)
        cases hA
    subst hl0
    rw [List.length_nil]
    have hnil := fun (W : World) => Lib.run_eql_slice_nil (P := Try.prog) W 22 27 none 0 c 0 0 Try.underlying22
    go_enter Try.func57, Try.ntmps57
    go_wp2
    go_ret
    exact ⟨_, rfl, Own.nil _ _ _ _ _, Kp.refl _⟩
  · have hnil := fun (W : World) => Lib.run_eql_slice_nil (P := Try.prog) W 22 27 (some A) l.length c 0 0 Try.underlying22
    go_enter Try.func57, Try.ntmps57
    go_wp2_with (at_builtin; refine wpl_append_flat rfl (.tmp 5) (.tmp 6) rfl stRange encRng_len encRng_one rfl (Own.lit (base := w.heap.size) encRng w #[] [] (Nat.le_refl _) (by simp) rfl rfl) rfl (hS.keep (pl_stable _) ((Kp.refl w).alloc _)) (by simp; omega) (by simp; omega) (by simp) ?_; intro v' w' hown hgrow hat hnil')
    go_ret
    exact ⟨_, rfl, by simpa using hown, ((Kp.refl w).alloc _).grown hgrow (fun k hk => by cases hk; exact Nat.le_refl _)⟩
set_option maxHeartbeats 1000000 in
theorem CloneInt_any (v : Value) (l : List Int) (w : World) (hS : Ints w v l) (hl : l.length ≤ 1000000000) :
    Calls Try.prog 45 #[v] w fun e w' => ∃ v', e = .returned v' ∧ Own encInt 3 1 w.heap.size w' v' l ∧ Kp w w' := by
  obtain ⟨A, c, rfl, hc, hm⟩ := hS.form
  rcases A with _ | A
  · have hl0 : l = [] := by
      cases l with
      | nil => rfl
      | cons x l =>
        obtain ⟨_, _, _, hA, _⟩ := hS.at_ (k := 0) (by simp)
        cases hA
    subst hl0
    rw [List.length_nil]
    have hnil := fun (W : World) => Lib.run_eql_slice_nil (P := Try.prog) W 24 3 none 0 c 0 0 Try.underlying24
    go_enter Try.func45, Try.ntmps45
    go_wp2
    go_ret
    exact ⟨_, rfl, Own.nil _ _ _ _ _, Kp.refl _⟩
  · have hnil := fun (W : World) => Lib.run_eql_slice_nil (P := Try.prog) W 24 3 (some A) l.length c 0 0 Try.underlying24
    go_enter Try.func45, Try.ntmps45
    go_wp2_with (at_builtin; refine wpl_append_flat rfl (.tmp 5) (.tmp 6) rfl stInt encInt_len encInt_one rfl (Own.lit (base := w.heap.size) encInt w #[] [] (Nat.le_refl _) (by simp) rfl rfl) rfl (hS.keep (pl_stable _) ((Kp.refl w).alloc _)) (by simp; omega) (by simp; omega) (by simp) ?_; intro v' w' hown hgrow hat hnil')
    go_ret
    exact ⟨_, rfl, by simpa using hown, ((Kp.refl w).alloc _).grown hgrow (fun k hk => by cases hk; exact Nat.le_refl _)⟩
end Go.Proofs.Ytmecjjfpgjpeoaa
