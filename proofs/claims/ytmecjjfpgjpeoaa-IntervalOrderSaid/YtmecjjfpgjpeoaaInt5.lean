
/-
What Sum and Tighten return, for any input.
-/
import Derived.Test.YtmecjjfpgjpeoaaInt4
namespace Go.Proofs.Ytmecjjfpgjpeoaa
open Go.RowKit

theorem fitsL_ok (n : Int) : ∀ (l : List Term) (last : Int), -1 ≤ last → fitsL n last l = true →
    (∀ t ∈ l, last < t.cell ∧ t.cell < n ∧ t.factor ≠ 0 ∧ -1000 ≤ t.factor ∧ t.factor ≤ 1000) ∧ (l ≠ [] → (l.length : Int) ≤ n - 1 - last)
  | [], _, _, _ => by simp
  | x :: l, last, h0, h => by
    unfold fitsL at h
    split at h
    · simp at h
    · rename_i hb
      unfold badT at hb
      obtain ⟨h1, h2⟩ := fitsL_ok n l x.cell (by omega) h
      refine ⟨fun t ht => ?_, fun _ => ?_⟩
      · rcases List.mem_cons.1 ht with rfl | ht
        · omega
        · have := h1 t ht
          omega
      · rw [List.length_cons]
        cases l with
        | nil => simp; omega
        | cons y l => have := h2 (by simp); omega
theorem fitsB_ok {n : Nat} {r : Row} (h : fitsB n r = true) : (∀ t ∈ r.terms, okT n t) ∧ r.terms.length ≤ n ∧ -1000000000 ≤ r.bound ∧ r.bound ≤ 1000000000 := by
  unfold fitsB at h
  rw [Bool.and_eq_true] at h
  obtain ⟨h1, h2⟩ := fitsL_ok n r.terms (-1) (by omega) h.1
  have h3 : -1000000000 ≤ r.bound ∧ r.bound ≤ 1000000000 := by simpa using h.2
  refine ⟨fun t ht => ?_, ?_, h3⟩
  · have := h1 t ht
    unfold okT
    omega
  · cases hr : r.terms with
    | nil => simp
    | cons y l => rw [← hr]; have := h2 (by simp [hr]); omega
theorem validB_ok {b : List Rng} {rows : List Row} (h : validB b rows = true) : (∀ r ∈ b, ¬ bad r) ∧ b.length ≤ 128 ∧ ∀ r ∈ rows, fitsB b.length r = true := by
  unfold validB at h
  rw [Bool.and_eq_true] at h
  obtain ⟨h1, h2⟩ := boxB_all h.1
  refine ⟨h1, h2, fun r hr => ?_⟩
  have h3 : rows.any (fun r => !fitsB b.length r) = false := by simpa using h.2
  simpa using List.any_eq_false.1 h3 r hr

def sumB (r : Row) (b : List Rng) : Int × Int := if validB b [r] then (boundL b (-1) 1 0 r.terms, boundL b (-1) (-1) 0 r.terms) else (0, 0)
theorem ret_ints {a b c d : Int} (h : a = c) (h' : b = d) : Ending.returned (.tuple #[.int .i64 a, .int .i64 b]) = .returned (.tuple #[.int .i64 c, .int .i64 d]) := by rw [h, h']

theorem rowLit (w : World) (v : Value) (r : Row) (ht : Terms w v r.terms) : RowsL (w.alloc (.cells #[v, .int .i64 r.bound] 41)) (.slice (some ⟨w.heap.size, 0, none⟩) 1 1) [r] :=
  Sl.one w [v, .int .i64 r.bound] _ 2 r rfl ⟨v, rfl, ht.keep (pl_stable _) ((Kp.refl w).alloc _)⟩
set_option maxHeartbeats 1000000 in
theorem Sum_any (vt vb : Value) (r : Row) (b : List Rng) (w : World) (ht : Terms w vt r.terms) (hb : Rngs w vb b) :
    Calls Try.prog 27 #[.agg #[vt, .int .i64 r.bound], vb] w fun e w' => e = .returned (.tuple #[.int .i64 (sumB r b).1, .int .i64 (sumB r b).2]) ∧ Kp w w' := by
  obtain ⟨A, c, rfl, hc, hm⟩ := ht.form
  obtain ⟨A', c', rfl, hc', hm'⟩ := hb.form
  obtain ⟨ts, bd⟩ := r
  dsimp only at *
  go_enter Try.func27, Try.ntmps27
  have hk0 := (Kp.refl w).alloc (.cells #[.slice A ts.length c, .int .i64 bd] 41)
  have hg0 := alloc_cell w #[.slice A ts.length c, .int .i64 bd] 41 0 rfl
  have hg1 := alloc_cell w #[.slice A ts.length c, .int .i64 bd] 41 1 rfl
  have hlt0 := alloc_lt w (.cells #[.slice A ts.length c, .int .i64 bd] 41)
  have HR := rowLit (w.alloc (.cells #[.slice A ts.length c, .int .i64 bd] 41)) _ ⟨ts, bd⟩ (ht.keep (pl_stable _) hk0)
  rw [World.size_alloc] at HR
  dsimp only at HR
  have hk1 := hk0.alloc (.cells #[.slice A ts.length c, .int .i64 bd] 41)
  go_wp2_with fail
  refine (Valid_any _ _ b _ _ (hb.keep (pl_stable _) hk1) HR).mono ?_
  rintro e w1 ⟨rfl, hk2⟩
  have hbel1 := (hk1).trans hk2
  have hc0 := hk2.cellS (((Kp.refl _).alloc (.cells #[.slice A ts.length c, .int .i64 bd] 41)).cellS hg0)
  have hc1 := hk2.cellS (((Kp.refl _).alloc (.cells #[.slice A ts.length c, .int .i64 bd] 41)).cellS hg1)
  dsimp at hc0 hc1
  have hl1 := block_lt_of_cell hc0
  dsimp only at hl1
  clear hk0 hg0 hg1 hlt0 HR hk1 hk2
  cases hV : validB b [⟨ts, bd⟩] with
  | false =>
    have HF : Hid (sumB ⟨ts, bd⟩ b = (0, 0)) := hid (by simp [sumB, hV])
    clear hV
    go_wp2
    go_ret2
    exact ⟨ret_ints (by rw [HF.out]) (by rw [HF.out]), hbel1⟩
  | true =>
    have HF : Hid (sumB ⟨ts, bd⟩ b = (boundL b (-1) 1 0 ts, boundL b (-1) (-1) 0 ts)) := hid (by simp [sumB, hV])
    obtain ⟨v1, v2, v3⟩ := validB_ok hV
    obtain ⟨f1, f2, f3, f4⟩ := fitsB_ok (v3 ⟨ts, bd⟩ (by simp))
    dsimp only at f1 f2 f3 f4
    have H1 := hid f1
    have H2 := hid v1
    have hbS := hb.keep (pl_stable _) hbel1
    have htS := ht.keep (pl_stable _) hbel1
    have l128 : ts.length ≤ 128 := by omega
    clear hV v1 v3 f1 hb ht
    go_wp2
    refine wp_region_kw (by kernel_rfl) (by kernel_rfl) ?_
    repeat (go_big_quiet_step (((go_at_call 53; refine quiet_kw (bound_any _ _ ts _ b _ _ _ (htS.keep (pl_stable _) (kw_kp _ _)) (hbS.keep (pl_stable _) (kw_kp _ _)) (by simp) H1.out H2.out l128)))))
    refine wpQuiet_nil ?_
    intro _ hw'
    obtain ⟨u, hw''⟩ := hw'
    subst hw''
    go_wp2
    go_ret2
    exact ⟨ret_ints (by rw [HF.out]) (by rw [HF.out]), hbel1.trans (kw_kp _ _)⟩
end Go.Proofs.Ytmecjjfpgjpeoaa
