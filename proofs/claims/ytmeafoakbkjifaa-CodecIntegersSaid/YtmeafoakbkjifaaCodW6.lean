
/-
The writer: what is known of a convergent cell, and a base.
-/
import Derived.Test.YtmeafoakbkjifaaCodW5
import Derived.Deep.RegionWith
namespace Go.Proofs.Ytmeafoakbkjifaa
set_option linter.unusedSimpArgs false
set_option linter.unusedVariables false
open Go.RowKit

theorem cTruth_eq (b : Bool) (w : World) : Calls Try.prog 117 #[.bool b] w fun e w' => e = .returned (.int .i64 (numB b)) ∧ w' = w := by
  cases b <;>
  · go_enter Try.func117, Try.ntmps117
    go_wp2
    go_ret
    exact ⟨rfl, rfl⟩
set_option maxHeartbeats 1000000 in
theorem wMerged_any (W0 : World) (g : Nat) (l : List Int) (v : Value) (x : Merged) (w : World) (hk : Kp W0 w) (hw : Wr W0.heap.size w g l) (hp : Marks W0 v x.marks) (hroom : Room l (numMerged x).length) :
    Writes W0 g l (numMerged x) 90 #[.pointer (some ⟨g, 0, none⟩), .agg #[.bool x.put, .bool x.drop, v]] w := by
  obtain ⟨A, c, rfl, hc, hm⟩ := hp.form
  obtain ⟨x0, x1, past⟩ := x
  dsimp only at *
  go_enter Try.func90, Try.ntmps90
  have hbx := box_new hw #[.bool x0, .bool x1, .slice A past.length c] 98
  have hk1 := hk.alloc (.cells #[.bool x0, .bool x1, .slice A past.length c] 98)
  have hw1 := hw.kp ((Kp.refl w).alloc (.cells #[.bool x0, .bool x1, .slice A past.length c] 98))
  have hx1 := ((Kp.refl w).alloc (.cells #[.bool x0, .bool x1, .slice A past.length c] 98)).wx hw.lt
  obtain ⟨hB1, s1⟩ := hbx
  have c0 := hB1 0 _ rfl
  have c1 := hB1 1 _ rfl
  have l1 : (w.alloc (.cells #[.bool x0, .bool x1, .slice A past.length c] 98)).heap.size = w.heap.size + 1 := by simp
  have hkd := (hk1.alloc (.cells #[.int .i64 (numB x0), .int .i64 (numB x1)] 3)).drew
  have hpd := ((Kp.refl (w.alloc (.cells #[.bool x0, .bool x1, .slice A past.length c] 98))).alloc (.cells #[.int .i64 (numB x0), .int .i64 (numB x1)] 3)).drew
  have hld : Ints ((w.alloc (.cells #[.bool x0, .bool x1, .slice A past.length c] 98)).alloc (.cells #[.int .i64 (numB x0), .int .i64 (numB x1)] 3)).drew (.slice (some ⟨w.heap.size + 1, 0, none⟩) 2 2) [numB x0, numB x1] := by
    rw [← l1]
    exact (litInts [numB x0, numB x1] #[.int .i64 (numB x0), .int .i64 (numB x1)] rfl (by simp) 2 rfl).keep (pl_stable _) (Kp.refl _).drew
  have hpt := put_any W0 g l [numB x0, numB x1] _ _ hkd (hw1.kp hpd) hld (by unfold Room at *; simp only [numEvent, numNeed, numMark, numSpan, numAsk, numEntry, numMerged, List.length_append, List.length_cons, List.length_nil] at *; omega)
  go_wp2_with fail
  go_region_with (first | (go_at_call 117; refine (cTruth_eq _ _).mono ?_; rintro e w' ⟨rfl, rfl⟩) | (go_at_call 83; refine hpt.mono ?_; rintro e w3 ⟨rfl, hw3, hy3⟩))
  all_goals
    have hz3 := (hpd.wx hw1.lt).trans hy3
    have hx3 := hx1.trans hz3
    have hk3 := hx3.to_kp hk hw
    have hB3 := hB1.wx hz3 s1
    have s3 := s1.wx hz3
    clear hy3 hz3 c0 c1 l1 hkd hpd hld hpt hB1 s1 hx1 hw1 hk1
    generalize w.heap.size = h at *
    have c2 := hB3 2 _ rfl
    go_wp2_with fail
    refine (listMark_any W0 g _ numMark 125 [.pointer (some ⟨g, 0, none⟩)] [] _ past _ hk3 hw3 hp (by unfold Room at *; simp only [numEvent, numNeed, numMark, numSpan, numAsk, numEntry, numMerged, List.length_append, List.length_cons, List.length_nil] at *; omega) wMark_real (fun w' l' a b c d h1 _ h2 h3 => wMark_any W0 g l' a b c d w' h1 h2 h3)).mono ?_
    rintro e w4 ⟨rfl, hw4, hz4⟩
    have hx4 := hx3.trans hz4
    have hk4 := hx4.to_kp hk hw
    have hB4 := hB3.wx hz4 s3
    have s4 := s3.wx hz4
    clear hz4
    go_wp2
    go_end0
    exact ⟨rfl, by simpa [numMerged] using hw4, hx4⟩
theorem wMerged_real : Real Try.prog 90 := ⟨_, Try.func90, by kernel_rfl, by kernel_rfl⟩
end Go.Proofs.Ytmeafoakbkjifaa
