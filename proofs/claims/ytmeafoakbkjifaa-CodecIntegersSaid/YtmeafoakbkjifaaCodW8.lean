
/-
The writer: a base.
-/
import Derived.Test.YtmeafoakbkjifaaCodW7
namespace Go.Proofs.Ytmeafoakbkjifaa
set_option linter.unusedSimpArgs false
set_option linter.unusedVariables false
open Go.RowKit

/-- how a base lies as a value -/
def BaseV (w : World) (val : Value) (b : Base) : Prop :=
  ∃ v0 v2 v3 v4 v5 v6, val = .agg #[v0, .int .i64 b.time, v2, v3, v4, v5, v6] ∧ Ints w v0 b.clock ∧ Ints w v2 b.state ∧ Mergeds w v3 b.merged ∧ Intss w v4 b.rights ∧ Intsss w v5 b.shares ∧ Ints w v6 b.places
set_option maxHeartbeats 2000000 in
theorem wBase_any (W0 : World) (g : Nat) (l : List Int) (val : Value) (x : Base) (w : World) (hk : Kp W0 w) (hw : Wr W0.heap.size w g l) (hv : BaseV W0 val x) (hroom : Room l (numBase x).length) :
    Writes W0 g l (numBase x) 58 #[.pointer (some ⟨g, 0, none⟩), val] w := by
  obtain ⟨v0, v2, v3, v4, v5, v6, rfl, p0, p2, p3, p4, p5, p6⟩ := hv
  obtain ⟨A0, c0, rfl, hc0, hm0⟩ := p0.form
  obtain ⟨A2, c2, rfl, hc2, hm2⟩ := p2.form
  obtain ⟨A3, c3, rfl, hc3, hm3⟩ := p3.form
  obtain ⟨A4, c4, rfl, hc4, hm4⟩ := p4.form
  obtain ⟨A5, c5, rfl, hc5, hm5⟩ := p5.form
  obtain ⟨A6, c6, rfl, hc6, hm6⟩ := p6.form
  obtain ⟨x0, x1, x2, x3, x4, x5, x6⟩ := x
  dsimp only at *
  go_enter Try.func58, Try.ntmps58
  have q0 := box_new hw #[.pointer (some ⟨g, 0, none⟩)] 103
  obtain ⟨qB, qs⟩ := q0
  have hw0 := hw.kp ((Kp.refl w).alloc (.cells #[.pointer (some ⟨g, 0, none⟩)] 103))
  have hk0 := hk.alloc (.cells #[.pointer (some ⟨g, 0, none⟩)] 103)
  have hx0 := ((Kp.refl w).alloc (.cells #[.pointer (some ⟨g, 0, none⟩)] 103)).wx hw.lt
  have l0 : (w.alloc (.cells #[.pointer (some ⟨g, 0, none⟩)] 103)).heap.size = w.heap.size + 1 := by simp
  have q1 := box_new hw0 #[.slice A0 x0.length c0, .int .i64 x1, .slice A2 x2.length c2, .slice A3 x3.length c3, .slice A4 x4.length c4, .slice A5 x5.length c5, .slice A6 x6.length c6] 42
  obtain ⟨hB1, s1⟩ := q1
  have kx := (Kp.refl (w.alloc (.cells #[.pointer (some ⟨g, 0, none⟩)] 103))).alloc (.cells #[.slice A0 x0.length c0, .int .i64 x1, .slice A2 x2.length c2, .slice A3 x3.length c3, .slice A4 x4.length c4, .slice A5 x5.length c5, .slice A6 x6.length c6] 42)
  have hz1 := kx.wx hw0.lt
  have hw1 := hw0.kp kx
  have hk1 := hk0.trans kx
  have hx1 := hx0.trans hz1
  have qB1 := qB.wx hz1 qs
  have qs1 := qs.wx hz1
  rw [l0] at hB1 s1
  have d1 := qB1 0 _ rfl
  have c0' := hB1 0 _ rfl
  go_wp2_with fail
  generalize (w.alloc (.cells #[.pointer (some ⟨g, 0, none⟩)] 103)).alloc (.cells #[.slice A0 x0.length c0, .int .i64 x1, .slice A2 x2.length c2, .slice A3 x3.length c3, .slice A4 x4.length c4, .slice A5 x5.length c5, .slice A6 x6.length c6] 42) = w1 at *
  clear qB qs hw0 hk0 hx0 l0 kx hz1
  generalize w.heap.size = h at *
  refine (wIntegers_any W0 g _ _ x0 _ hk1 hw1 p0 (by unfold Room at *; simp only [numBase, List.length_append, List.length_cons, List.length_nil] at *; omega)).mono ?_
  rintro e w2 ⟨rfl, hw2, hz2⟩
  have hx2 := hx1.trans hz2
  have hk2 := hx2.to_kp hk hw
  have hB2 := hB1.wx hz2 s1
  have s2 := s1.wx hz2
  have qB2 := qB1.wx hz2 qs1
  have qs2 := qs1.wx hz2
  have d2 := qB2 0 _ rfl
  clear hz2
  have e1 := hB2 1 _ rfl
  go_wp2_with fail
  refine (put_any W0 g _ [x1] _ _ (hk2.alloc _) (hw2.kp ((Kp.refl _).alloc _)) ?hl (by unfold Room at *; simp only [numBase, List.length_append, List.length_cons, List.length_nil] at *; omega)).mono ?_
  case hl => exact litInts [x1] _ rfl (by simp) _ rfl
  rintro e w3 ⟨rfl, hw3, hy3⟩
  have hz3 := (((Kp.refl w2).alloc _).wx hw2.lt).trans hy3
  clear hy3
  have hx3 := hx2.trans hz3
  have hk3 := hx3.to_kp hk hw
  have hB3 := hB2.wx hz3 s2
  have s3 := s2.wx hz3
  have qB3 := qB2.wx hz3 qs2
  have qs3 := qs2.wx hz3
  have d3 := qB3 0 _ rfl
  clear hz3
  have e2 := hB3 2 _ rfl
  go_wp2_with fail
  refine (wIntegers_any W0 g _ _ x2 _ hk3 hw3 p2 (by unfold Room at *; simp only [numBase, List.length_append, List.length_cons, List.length_nil] at *; omega)).mono ?_
  rintro e w4 ⟨rfl, hw4, hz4⟩
  have hx4 := hx3.trans hz4
  have hk4 := hx4.to_kp hk hw
  have hB4 := hB3.wx hz4 s3
  have s4 := s3.wx hz4
  have qB4 := qB3.wx hz4 qs3
  have qs4 := qs3.wx hz4
  have d4 := qB4 0 _ rfl
  clear hz4
  have e3 := hB4 3 _ rfl
  go_wp2_with fail
  refine (listMerged_any W0 g _ numMerged 90 [.pointer (some ⟨g, 0, none⟩)] [] _ x3 _ hk4 hw4 p3 (by unfold Room at *; simp only [numBase, List.length_append, List.length_cons, List.length_nil] at *; omega) wMerged_real (fun w' l' A' c' y0 y1 ms ht h1 _ h2 h3 => wMerged_any W0 g l' _ ⟨y0, y1, ms⟩ w' h1 h2 ht h3)).mono ?_
  rintro e w5 ⟨rfl, hw5, hz5⟩
  have hx5 := hx4.trans hz5
  have hk5 := hx5.to_kp hk hw
  have hB5 := hB4.wx hz5 s4
  have s5 := s4.wx hz5
  have qB5 := qB4.wx hz5 qs4
  have qs5 := qs4.wx hz5
  have d5 := qB5 0 _ rfl
  clear hz5
  have e4 := hB5 4 _ rfl
  go_wp2_with fail
  refine (listInts_any W0 g _ numIs 87 [.pointer (some ⟨g, 0, none⟩)] [] _ x4 _ hk5 hw5 p4 (by unfold Room at *; simp only [numBase, List.length_append, List.length_cons, List.length_nil] at *; omega) wIntegers_real (fun w' l' A' c' x ht h1 _ h2 h3 => wIntegers_any W0 g l' _ x w' h1 h2 ht h3)).mono ?_
  rintro e w6 ⟨rfl, hw6, hz6⟩
  have hx6 := hx5.trans hz6
  have hk6 := hx6.to_kp hk hw
  have hB6 := hB5.wx hz6 s5
  have s6 := s5.wx hz6
  have qB6 := qB5.wx hz6 qs5
  have qs6 := qs5.wx hz6
  have d6 := qB6 0 _ rfl
  clear hz6
  have e5 := hB6 5 _ rfl
  go_wp2_with fail
  refine (listIntss_any W0 g _ (numL numIs) 93 [] [.pointer (some ⟨h, 0, none⟩)] _ x5 _ hk6 hw6 p5 (by unfold Room at *; simp only [numBase, List.length_append, List.length_cons, List.length_nil] at *; omega) wBase1_real (fun w' l' A' c' x ht h1 hx h2 h3 => wBase1_any W0 g h l' _ x w' h1 h2 ht h3 (hx.cellS (p := ⟨h, 0, none⟩) qs6 d6))).mono ?_
  rintro e w7 ⟨rfl, hw7, hz7⟩
  have hx7 := hx6.trans hz7
  have hk7 := hx7.to_kp hk hw
  have hB7 := hB6.wx hz7 s6
  have s7 := s6.wx hz7
  have qB7 := qB6.wx hz7 qs6
  have qs7 := qs6.wx hz7
  have d7 := qB7 0 _ rfl
  clear hz7
  have e6 := hB7 6 _ rfl
  go_wp2_with fail
  refine (wIntegers_any W0 g _ _ x6 _ hk7 hw7 p6 (by unfold Room at *; simp only [numBase, List.length_append, List.length_cons, List.length_nil] at *; omega)).mono ?_
  rintro e w8 ⟨rfl, hw8, hz8⟩
  have hx8 := hx7.trans hz8
  have hk8 := hx8.to_kp hk hw
  have hB8 := hB7.wx hz8 s7
  have s8 := s7.wx hz8
  have qB8 := qB7.wx hz8 qs7
  have qs8 := qs7.wx hz8
  have d8 := qB8 0 _ rfl
  clear hz8
  go_wp2
  go_end0
  exact ⟨rfl, by simpa [numBase] using hw8, hx8⟩
theorem wBase_real : Real Try.prog 58 := ⟨_, Try.func58, by kernel_rfl, by kernel_rfl⟩
end Go.Proofs.Ytmeafoakbkjifaa
