
/-
The writer: the fields of a record that its kind names, or the other ones.
-/
import Derived.Test.YtmeafoakbkjifaaWB
namespace Go.Proofs.Ytmeafoakbkjifaa
set_option linter.unusedSimpArgs false
set_option linter.unusedVariables false
open Go.RowKit

/-- how a record lies as a value -/
def RecordV (w : World) (val : Value) (r : Record) : Prop :=
  ∃ v0 v1 v2 v3 v4 v5 v6 v7, val = .agg #[.int .i64 r.kind, .int .i64 r.event.replica, .int .i64 r.event.number, .int .i64 r.event.time, v0, .int .i64 r.event.kind, .int .i64 r.event.action, .int .i64 r.event.give.kind, .int .i64 r.event.give.index, .int .i64 r.event.give.element, .int .i64 r.event.give.amount, .int .i64 r.event.to, .int .i64 r.event.place, .int .i64 r.event.serial, v1, .int .i64 r.base.time, v2, v3, v4, v5, v6, .int .i64 r.term, .int .i64 r.vote, .int .i64 r.index, .int .i64 r.entry.term, .int .i64 r.entry.kind, .int .i64 r.entry.replica, .int .i64 r.entry.serial, .int .i64 r.entry.action, v7] ∧
    Ints w v0 r.event.past ∧ Ints w v1 r.base.clock ∧ Ints w v2 r.base.state ∧ Mergeds w v3 r.base.merged ∧ Intss w v4 r.base.rights ∧ Intsss w v5 r.base.shares ∧ Ints w v6 r.base.places ∧ Ints w v7 r.entry.voters
/-- the numbers of the fields that the kind names, or of the other ones -/
def numPart (r : Record) (named : Bool) : List Int :=
  (if decide (r.kind = 0) == named then numEvent r.event else []) ++ (if decide (r.kind = 1) == named then numBase r.base else []) ++ (if decide (r.kind = 2) == named then [r.term, r.vote] else []) ++ (if decide (r.kind = 3 ∨ r.kind = 4) == named then [r.index] else []) ++ (if decide (r.kind = 3) == named then numEntry r.entry else [])
/-- all numbers of a record -/
def sizeRecord (r : Record) : Nat := (numEvent r.event).length + (numBase r.base).length + (numEntry r.entry).length + 10

set_option maxHeartbeats 4000000 in
theorem wPart_0t (W0 : World) (g : Nat) (l : List Int) (val : Value) (x : Record) (w : World) (hk : Kp W0 w) (hw : Wr W0.heap.size w g l) (hv : RecordV W0 val x) (hroom : Room l (numPart x true).length) (hn : x.kind = 0) :
    Writes W0 g l (numPart x true) 80 #[.pointer (some ⟨g, 0, none⟩), val, .bool true] w := by
  obtain ⟨v0, v1, v2, v3, v4, v5, v6, v7, rfl, p0, p1, p2, p3, p4, p5, p6, p7⟩ := hv
  obtain ⟨A0, c0, rfl, hc0, hm0⟩ := p0.form
  clear hc0 hm0
  obtain ⟨A1, c1, rfl, hc1, hm1⟩ := p1.form
  clear hc1 hm1
  obtain ⟨A2, c2, rfl, hc2, hm2⟩ := p2.form
  clear hc2 hm2
  obtain ⟨A3, c3, rfl, hc3, hm3⟩ := p3.form
  clear hc3 hm3
  obtain ⟨A4, c4, rfl, hc4, hm4⟩ := p4.form
  clear hc4 hm4
  obtain ⟨A5, c5, rfl, hc5, hm5⟩ := p5.form
  clear hc5 hm5
  obtain ⟨A6, c6, rfl, hc6, hm6⟩ := p6.form
  clear hc6 hm6
  obtain ⟨A7, c7, rfl, hc7, hm7⟩ := p7.form
  clear hc7 hm7
  obtain ⟨kd, ⟨x0, x1, x2, x3, x4, x5, ⟨y0, y1, y2, y3⟩, x7, x8, x9⟩, ⟨b0, b1, b2, b3, b4, b5, b6⟩, tm, vt, ix, ⟨n0, n1, n2, n3, n4, n5⟩⟩ := x
  dsimp only at *
  subst hn
  simp [numPart] at hroom
  go_enter Try.func80, Try.ntmps80
  have hbx := box_new hw #[.int .i64 0, .int .i64 x0, .int .i64 x1, .int .i64 x2, .slice A0 x3.length c0, .int .i64 x4, .int .i64 x5, .int .i64 y0, .int .i64 y1, .int .i64 y2, .int .i64 y3, .int .i64 x7, .int .i64 x8, .int .i64 x9, .slice A1 b0.length c1, .int .i64 b1, .slice A2 b2.length c2, .slice A3 b3.length c3, .slice A4 b4.length c4, .slice A5 b5.length c5, .slice A6 b6.length c6, .int .i64 tm, .int .i64 vt, .int .i64 ix, .int .i64 n0, .int .i64 n1, .int .i64 n2, .int .i64 n3, .int .i64 n4, .slice A7 n5.length c7] 46
  have hk1 := hk.alloc (.cells #[.int .i64 0, .int .i64 x0, .int .i64 x1, .int .i64 x2, .slice A0 x3.length c0, .int .i64 x4, .int .i64 x5, .int .i64 y0, .int .i64 y1, .int .i64 y2, .int .i64 y3, .int .i64 x7, .int .i64 x8, .int .i64 x9, .slice A1 b0.length c1, .int .i64 b1, .slice A2 b2.length c2, .slice A3 b3.length c3, .slice A4 b4.length c4, .slice A5 b5.length c5, .slice A6 b6.length c6, .int .i64 tm, .int .i64 vt, .int .i64 ix, .int .i64 n0, .int .i64 n1, .int .i64 n2, .int .i64 n3, .int .i64 n4, .slice A7 n5.length c7] 46)
  have hw1 := hw.kp ((Kp.refl w).alloc (.cells #[.int .i64 0, .int .i64 x0, .int .i64 x1, .int .i64 x2, .slice A0 x3.length c0, .int .i64 x4, .int .i64 x5, .int .i64 y0, .int .i64 y1, .int .i64 y2, .int .i64 y3, .int .i64 x7, .int .i64 x8, .int .i64 x9, .slice A1 b0.length c1, .int .i64 b1, .slice A2 b2.length c2, .slice A3 b3.length c3, .slice A4 b4.length c4, .slice A5 b5.length c5, .slice A6 b6.length c6, .int .i64 tm, .int .i64 vt, .int .i64 ix, .int .i64 n0, .int .i64 n1, .int .i64 n2, .int .i64 n3, .int .i64 n4, .slice A7 n5.length c7] 46))
  have hx1 := ((Kp.refl w).alloc (.cells #[.int .i64 0, .int .i64 x0, .int .i64 x1, .int .i64 x2, .slice A0 x3.length c0, .int .i64 x4, .int .i64 x5, .int .i64 y0, .int .i64 y1, .int .i64 y2, .int .i64 y3, .int .i64 x7, .int .i64 x8, .int .i64 x9, .slice A1 b0.length c1, .int .i64 b1, .slice A2 b2.length c2, .slice A3 b3.length c3, .slice A4 b4.length c4, .slice A5 b5.length c5, .slice A6 b6.length c6, .int .i64 tm, .int .i64 vt, .int .i64 ix, .int .i64 n0, .int .i64 n1, .int .i64 n2, .int .i64 n3, .int .i64 n4, .slice A7 n5.length c7] 46)).wx hw.lt
  obtain ⟨hB1, s1⟩ := hbx
  have d0 := hB1 0 _ rfl
  have d1 := hB1 1 _ rfl
  have d2 := hB1 2 _ rfl
  have d3 := hB1 3 _ rfl
  have d4 := hB1 4 _ rfl
  have d5 := hB1 5 _ rfl
  have d6 := hB1 6 _ rfl
  have d7 := hB1 7 _ rfl
  have d8 := hB1 8 _ rfl
  have d9 := hB1 9 _ rfl
  have d10 := hB1 10 _ rfl
  have d11 := hB1 11 _ rfl
  have d12 := hB1 12 _ rfl
  have d13 := hB1 13 _ rfl
  go_wp2_with fail
  try rw [← World.size_alloc w (.cells #[.int .i64 0, .int .i64 x0, .int .i64 x1, .int .i64 x2, .slice A0 x3.length c0, .int .i64 x4, .int .i64 x5, .int .i64 y0, .int .i64 y1, .int .i64 y2, .int .i64 y3, .int .i64 x7, .int .i64 x8, .int .i64 x9, .slice A1 b0.length c1, .int .i64 b1, .slice A2 b2.length c2, .slice A3 b3.length c3, .slice A4 b4.length c4, .slice A5 b5.length c5, .slice A6 b6.length c6, .int .i64 tm, .int .i64 vt, .int .i64 ix, .int .i64 n0, .int .i64 n1, .int .i64 n2, .int .i64 n3, .int .i64 n4, .slice A7 n5.length c7] 46)]
  generalize w.alloc (.cells #[.int .i64 0, .int .i64 x0, .int .i64 x1, .int .i64 x2, .slice A0 x3.length c0, .int .i64 x4, .int .i64 x5, .int .i64 y0, .int .i64 y1, .int .i64 y2, .int .i64 y3, .int .i64 x7, .int .i64 x8, .int .i64 x9, .slice A1 b0.length c1, .int .i64 b1, .slice A2 b2.length c2, .slice A3 b3.length c3, .slice A4 b4.length c4, .slice A5 b5.length c5, .slice A6 b6.length c6, .int .i64 tm, .int .i64 vt, .int .i64 ix, .int .i64 n0, .int .i64 n1, .int .i64 n2, .int .i64 n3, .int .i64 n4, .slice A7 n5.length c7] 46) = w1 at *
  generalize w.heap.size = h at *
  refine (wEvent_any W0 g _ _ ⟨x0, x1, x2, x3, x4, x5, ⟨y0, y1, y2, y3⟩, x7, x8, x9⟩ _ hk1 hw1 ⟨_, rfl, p0⟩ (by unfold Room at *; (try dsimp only at *); (try simp only [List.length_append, List.length_cons, List.length_nil] at *); omega)).mono ?_
  rintro e w2 ⟨rfl, hw2, hz2⟩
  have hx2 := hx1.trans hz2
  have hk2 := hx2.to_kp hk hw
  have hB2 := hB1.wx hz2 s1
  have s2 := s1.wx hz2
  clear hz2 hB1 s1 hx1 hk1
  clear d0 d1 d2 d3 d4 d5 d6 d7 d8 d9 d10 d11 d12 d13
  have d0 := hB2 0 _ rfl
  go_wp2
  go_end0
  exact ⟨rfl, by simpa [numPart] using hw2, hx2⟩

set_option maxHeartbeats 4000000 in
theorem wPart_0f (W0 : World) (g : Nat) (l : List Int) (val : Value) (x : Record) (w : World) (hk : Kp W0 w) (hw : Wr W0.heap.size w g l) (hv : RecordV W0 val x) (hroom : Room l (numPart x false).length) (hn : x.kind = 0) :
    Writes W0 g l (numPart x false) 80 #[.pointer (some ⟨g, 0, none⟩), val, .bool false] w := by
  obtain ⟨v0, v1, v2, v3, v4, v5, v6, v7, rfl, p0, p1, p2, p3, p4, p5, p6, p7⟩ := hv
  obtain ⟨A0, c0, rfl, hc0, hm0⟩ := p0.form
  clear hc0 hm0
  obtain ⟨A1, c1, rfl, hc1, hm1⟩ := p1.form
  clear hc1 hm1
  obtain ⟨A2, c2, rfl, hc2, hm2⟩ := p2.form
  clear hc2 hm2
  obtain ⟨A3, c3, rfl, hc3, hm3⟩ := p3.form
  clear hc3 hm3
  obtain ⟨A4, c4, rfl, hc4, hm4⟩ := p4.form
  clear hc4 hm4
  obtain ⟨A5, c5, rfl, hc5, hm5⟩ := p5.form
  clear hc5 hm5
  obtain ⟨A6, c6, rfl, hc6, hm6⟩ := p6.form
  clear hc6 hm6
  obtain ⟨A7, c7, rfl, hc7, hm7⟩ := p7.form
  clear hc7 hm7
  obtain ⟨kd, ⟨x0, x1, x2, x3, x4, x5, ⟨y0, y1, y2, y3⟩, x7, x8, x9⟩, ⟨b0, b1, b2, b3, b4, b5, b6⟩, tm, vt, ix, ⟨n0, n1, n2, n3, n4, n5⟩⟩ := x
  dsimp only at *
  subst hn
  simp [numPart] at hroom
  go_enter Try.func80, Try.ntmps80
  have hbx := box_new hw #[.int .i64 0, .int .i64 x0, .int .i64 x1, .int .i64 x2, .slice A0 x3.length c0, .int .i64 x4, .int .i64 x5, .int .i64 y0, .int .i64 y1, .int .i64 y2, .int .i64 y3, .int .i64 x7, .int .i64 x8, .int .i64 x9, .slice A1 b0.length c1, .int .i64 b1, .slice A2 b2.length c2, .slice A3 b3.length c3, .slice A4 b4.length c4, .slice A5 b5.length c5, .slice A6 b6.length c6, .int .i64 tm, .int .i64 vt, .int .i64 ix, .int .i64 n0, .int .i64 n1, .int .i64 n2, .int .i64 n3, .int .i64 n4, .slice A7 n5.length c7] 46
  have hk1 := hk.alloc (.cells #[.int .i64 0, .int .i64 x0, .int .i64 x1, .int .i64 x2, .slice A0 x3.length c0, .int .i64 x4, .int .i64 x5, .int .i64 y0, .int .i64 y1, .int .i64 y2, .int .i64 y3, .int .i64 x7, .int .i64 x8, .int .i64 x9, .slice A1 b0.length c1, .int .i64 b1, .slice A2 b2.length c2, .slice A3 b3.length c3, .slice A4 b4.length c4, .slice A5 b5.length c5, .slice A6 b6.length c6, .int .i64 tm, .int .i64 vt, .int .i64 ix, .int .i64 n0, .int .i64 n1, .int .i64 n2, .int .i64 n3, .int .i64 n4, .slice A7 n5.length c7] 46)
  have hw1 := hw.kp ((Kp.refl w).alloc (.cells #[.int .i64 0, .int .i64 x0, .int .i64 x1, .int .i64 x2, .slice A0 x3.length c0, .int .i64 x4, .int .i64 x5, .int .i64 y0, .int .i64 y1, .int .i64 y2, .int .i64 y3, .int .i64 x7, .int .i64 x8, .int .i64 x9, .slice A1 b0.length c1, .int .i64 b1, .slice A2 b2.length c2, .slice A3 b3.length c3, .slice A4 b4.length c4, .slice A5 b5.length c5, .slice A6 b6.length c6, .int .i64 tm, .int .i64 vt, .int .i64 ix, .int .i64 n0, .int .i64 n1, .int .i64 n2, .int .i64 n3, .int .i64 n4, .slice A7 n5.length c7] 46))
  have hx1 := ((Kp.refl w).alloc (.cells #[.int .i64 0, .int .i64 x0, .int .i64 x1, .int .i64 x2, .slice A0 x3.length c0, .int .i64 x4, .int .i64 x5, .int .i64 y0, .int .i64 y1, .int .i64 y2, .int .i64 y3, .int .i64 x7, .int .i64 x8, .int .i64 x9, .slice A1 b0.length c1, .int .i64 b1, .slice A2 b2.length c2, .slice A3 b3.length c3, .slice A4 b4.length c4, .slice A5 b5.length c5, .slice A6 b6.length c6, .int .i64 tm, .int .i64 vt, .int .i64 ix, .int .i64 n0, .int .i64 n1, .int .i64 n2, .int .i64 n3, .int .i64 n4, .slice A7 n5.length c7] 46)).wx hw.lt
  obtain ⟨hB1, s1⟩ := hbx
  have d0 := hB1 0 _ rfl
  have d14 := hB1 14 _ rfl
  have d15 := hB1 15 _ rfl
  have d16 := hB1 16 _ rfl
  have d17 := hB1 17 _ rfl
  have d18 := hB1 18 _ rfl
  have d19 := hB1 19 _ rfl
  have d20 := hB1 20 _ rfl
  go_wp2_with fail
  try rw [← World.size_alloc w (.cells #[.int .i64 0, .int .i64 x0, .int .i64 x1, .int .i64 x2, .slice A0 x3.length c0, .int .i64 x4, .int .i64 x5, .int .i64 y0, .int .i64 y1, .int .i64 y2, .int .i64 y3, .int .i64 x7, .int .i64 x8, .int .i64 x9, .slice A1 b0.length c1, .int .i64 b1, .slice A2 b2.length c2, .slice A3 b3.length c3, .slice A4 b4.length c4, .slice A5 b5.length c5, .slice A6 b6.length c6, .int .i64 tm, .int .i64 vt, .int .i64 ix, .int .i64 n0, .int .i64 n1, .int .i64 n2, .int .i64 n3, .int .i64 n4, .slice A7 n5.length c7] 46)]
  generalize w.alloc (.cells #[.int .i64 0, .int .i64 x0, .int .i64 x1, .int .i64 x2, .slice A0 x3.length c0, .int .i64 x4, .int .i64 x5, .int .i64 y0, .int .i64 y1, .int .i64 y2, .int .i64 y3, .int .i64 x7, .int .i64 x8, .int .i64 x9, .slice A1 b0.length c1, .int .i64 b1, .slice A2 b2.length c2, .slice A3 b3.length c3, .slice A4 b4.length c4, .slice A5 b5.length c5, .slice A6 b6.length c6, .int .i64 tm, .int .i64 vt, .int .i64 ix, .int .i64 n0, .int .i64 n1, .int .i64 n2, .int .i64 n3, .int .i64 n4, .slice A7 n5.length c7] 46) = w1 at *
  generalize w.heap.size = h at *
  refine (wBase_any W0 g _ _ ⟨b0, b1, b2, b3, b4, b5, b6⟩ _ hk1 hw1 ⟨_, _, _, _, _, _, rfl, p1, p2, p3, p4, p5, p6⟩ (by unfold Room at *; (try dsimp only at *); (try simp only [List.length_append, List.length_cons, List.length_nil] at *); omega)).mono ?_
  rintro e w2 ⟨rfl, hw2, hz2⟩
  have hx2 := hx1.trans hz2
  have hk2 := hx2.to_kp hk hw
  have hB2 := hB1.wx hz2 s1
  have s2 := s1.wx hz2
  clear hz2 hB1 s1 hx1 hk1
  clear d0 d14 d15 d16 d17 d18 d19 d20
  have d0 := hB2 0 _ rfl
  have d21 := hB2 21 _ rfl
  have d22 := hB2 22 _ rfl
  go_wp2_with fail
  refine (put_any W0 g _ [tm, vt] _ _ (hk2.alloc _) (hw2.kp ((Kp.refl _).alloc _)) ?hl (by unfold Room at *; (try dsimp only at *); (try simp only [List.length_append, List.length_cons, List.length_nil] at *); omega)).mono ?_
  case hl => exact litInts [tm, vt] _ rfl (by simp) _ rfl
  rintro e w3 ⟨rfl, hw3, hy3⟩
  have hz3 := (((Kp.refl w2).alloc _).wx hw2.lt).trans hy3
  clear hy3
  have hx3 := hx2.trans hz3
  have hk3 := hx3.to_kp hk hw
  have hB3 := hB2.wx hz3 s2
  have s3 := s2.wx hz3
  clear hz3 hB2 s2 hx2 hk2
  clear d0 d21 d22
  have d0 := hB3 0 _ rfl
  have d23 := hB3 23 _ rfl
  go_wp2_with fail
  refine (put_any W0 g _ [ix] _ _ (hk3.alloc _) (hw3.kp ((Kp.refl _).alloc _)) ?hl (by unfold Room at *; (try dsimp only at *); (try simp only [List.length_append, List.length_cons, List.length_nil] at *); omega)).mono ?_
  case hl => exact litInts [ix] _ rfl (by simp) _ rfl
  rintro e w4 ⟨rfl, hw4, hy4⟩
  have hz4 := (((Kp.refl w3).alloc _).wx hw3.lt).trans hy4
  clear hy4
  have hx4 := hx3.trans hz4
  have hk4 := hx4.to_kp hk hw
  have hB4 := hB3.wx hz4 s3
  have s4 := s3.wx hz4
  clear hz4 hB3 s3 hx3 hk3
  clear d0 d23
  have d0 := hB4 0 _ rfl
  have d24 := hB4 24 _ rfl
  have d25 := hB4 25 _ rfl
  have d26 := hB4 26 _ rfl
  have d27 := hB4 27 _ rfl
  have d28 := hB4 28 _ rfl
  have d29 := hB4 29 _ rfl
  go_wp2_with fail
  refine (wEntry_any W0 g _ _ ⟨n0, n1, n2, n3, n4, n5⟩ _ hk4 hw4 ⟨_, rfl, p7⟩ (by unfold Room at *; (try dsimp only at *); (try simp only [List.length_append, List.length_cons, List.length_nil] at *); omega)).mono ?_
  rintro e w5 ⟨rfl, hw5, hz5⟩
  have hx5 := hx4.trans hz5
  have hk5 := hx5.to_kp hk hw
  have hB5 := hB4.wx hz5 s4
  have s5 := s4.wx hz5
  clear hz5 hB4 s4 hx4 hk4
  clear d0 d24 d25 d26 d27 d28 d29
  have d0 := hB5 0 _ rfl
  go_wp2
  go_end0
  exact ⟨rfl, by simpa [numPart] using hw5, hx5⟩

set_option maxHeartbeats 4000000 in
theorem wPart_1t (W0 : World) (g : Nat) (l : List Int) (val : Value) (x : Record) (w : World) (hk : Kp W0 w) (hw : Wr W0.heap.size w g l) (hv : RecordV W0 val x) (hroom : Room l (numPart x true).length) (hn : x.kind = 1) :
    Writes W0 g l (numPart x true) 80 #[.pointer (some ⟨g, 0, none⟩), val, .bool true] w := by
  obtain ⟨v0, v1, v2, v3, v4, v5, v6, v7, rfl, p0, p1, p2, p3, p4, p5, p6, p7⟩ := hv
  obtain ⟨A0, c0, rfl, hc0, hm0⟩ := p0.form
  clear hc0 hm0
  obtain ⟨A1, c1, rfl, hc1, hm1⟩ := p1.form
  clear hc1 hm1
  obtain ⟨A2, c2, rfl, hc2, hm2⟩ := p2.form
  clear hc2 hm2
  obtain ⟨A3, c3, rfl, hc3, hm3⟩ := p3.form
  clear hc3 hm3
  obtain ⟨A4, c4, rfl, hc4, hm4⟩ := p4.form
  clear hc4 hm4
  obtain ⟨A5, c5, rfl, hc5, hm5⟩ := p5.form
  clear hc5 hm5
  obtain ⟨A6, c6, rfl, hc6, hm6⟩ := p6.form
  clear hc6 hm6
  obtain ⟨A7, c7, rfl, hc7, hm7⟩ := p7.form
  clear hc7 hm7
  obtain ⟨kd, ⟨x0, x1, x2, x3, x4, x5, ⟨y0, y1, y2, y3⟩, x7, x8, x9⟩, ⟨b0, b1, b2, b3, b4, b5, b6⟩, tm, vt, ix, ⟨n0, n1, n2, n3, n4, n5⟩⟩ := x
  dsimp only at *
  subst hn
  simp [numPart] at hroom
  go_enter Try.func80, Try.ntmps80
  have hbx := box_new hw #[.int .i64 1, .int .i64 x0, .int .i64 x1, .int .i64 x2, .slice A0 x3.length c0, .int .i64 x4, .int .i64 x5, .int .i64 y0, .int .i64 y1, .int .i64 y2, .int .i64 y3, .int .i64 x7, .int .i64 x8, .int .i64 x9, .slice A1 b0.length c1, .int .i64 b1, .slice A2 b2.length c2, .slice A3 b3.length c3, .slice A4 b4.length c4, .slice A5 b5.length c5, .slice A6 b6.length c6, .int .i64 tm, .int .i64 vt, .int .i64 ix, .int .i64 n0, .int .i64 n1, .int .i64 n2, .int .i64 n3, .int .i64 n4, .slice A7 n5.length c7] 46
  have hk1 := hk.alloc (.cells #[.int .i64 1, .int .i64 x0, .int .i64 x1, .int .i64 x2, .slice A0 x3.length c0, .int .i64 x4, .int .i64 x5, .int .i64 y0, .int .i64 y1, .int .i64 y2, .int .i64 y3, .int .i64 x7, .int .i64 x8, .int .i64 x9, .slice A1 b0.length c1, .int .i64 b1, .slice A2 b2.length c2, .slice A3 b3.length c3, .slice A4 b4.length c4, .slice A5 b5.length c5, .slice A6 b6.length c6, .int .i64 tm, .int .i64 vt, .int .i64 ix, .int .i64 n0, .int .i64 n1, .int .i64 n2, .int .i64 n3, .int .i64 n4, .slice A7 n5.length c7] 46)
  have hw1 := hw.kp ((Kp.refl w).alloc (.cells #[.int .i64 1, .int .i64 x0, .int .i64 x1, .int .i64 x2, .slice A0 x3.length c0, .int .i64 x4, .int .i64 x5, .int .i64 y0, .int .i64 y1, .int .i64 y2, .int .i64 y3, .int .i64 x7, .int .i64 x8, .int .i64 x9, .slice A1 b0.length c1, .int .i64 b1, .slice A2 b2.length c2, .slice A3 b3.length c3, .slice A4 b4.length c4, .slice A5 b5.length c5, .slice A6 b6.length c6, .int .i64 tm, .int .i64 vt, .int .i64 ix, .int .i64 n0, .int .i64 n1, .int .i64 n2, .int .i64 n3, .int .i64 n4, .slice A7 n5.length c7] 46))
  have hx1 := ((Kp.refl w).alloc (.cells #[.int .i64 1, .int .i64 x0, .int .i64 x1, .int .i64 x2, .slice A0 x3.length c0, .int .i64 x4, .int .i64 x5, .int .i64 y0, .int .i64 y1, .int .i64 y2, .int .i64 y3, .int .i64 x7, .int .i64 x8, .int .i64 x9, .slice A1 b0.length c1, .int .i64 b1, .slice A2 b2.length c2, .slice A3 b3.length c3, .slice A4 b4.length c4, .slice A5 b5.length c5, .slice A6 b6.length c6, .int .i64 tm, .int .i64 vt, .int .i64 ix, .int .i64 n0, .int .i64 n1, .int .i64 n2, .int .i64 n3, .int .i64 n4, .slice A7 n5.length c7] 46)).wx hw.lt
  obtain ⟨hB1, s1⟩ := hbx
  have d0 := hB1 0 _ rfl
  have d14 := hB1 14 _ rfl
  have d15 := hB1 15 _ rfl
  have d16 := hB1 16 _ rfl
  have d17 := hB1 17 _ rfl
  have d18 := hB1 18 _ rfl
  have d19 := hB1 19 _ rfl
  have d20 := hB1 20 _ rfl
  go_wp2_with fail
  try rw [← World.size_alloc w (.cells #[.int .i64 1, .int .i64 x0, .int .i64 x1, .int .i64 x2, .slice A0 x3.length c0, .int .i64 x4, .int .i64 x5, .int .i64 y0, .int .i64 y1, .int .i64 y2, .int .i64 y3, .int .i64 x7, .int .i64 x8, .int .i64 x9, .slice A1 b0.length c1, .int .i64 b1, .slice A2 b2.length c2, .slice A3 b3.length c3, .slice A4 b4.length c4, .slice A5 b5.length c5, .slice A6 b6.length c6, .int .i64 tm, .int .i64 vt, .int .i64 ix, .int .i64 n0, .int .i64 n1, .int .i64 n2, .int .i64 n3, .int .i64 n4, .slice A7 n5.length c7] 46)]
  generalize w.alloc (.cells #[.int .i64 1, .int .i64 x0, .int .i64 x1, .int .i64 x2, .slice A0 x3.length c0, .int .i64 x4, .int .i64 x5, .int .i64 y0, .int .i64 y1, .int .i64 y2, .int .i64 y3, .int .i64 x7, .int .i64 x8, .int .i64 x9, .slice A1 b0.length c1, .int .i64 b1, .slice A2 b2.length c2, .slice A3 b3.length c3, .slice A4 b4.length c4, .slice A5 b5.length c5, .slice A6 b6.length c6, .int .i64 tm, .int .i64 vt, .int .i64 ix, .int .i64 n0, .int .i64 n1, .int .i64 n2, .int .i64 n3, .int .i64 n4, .slice A7 n5.length c7] 46) = w1 at *
  generalize w.heap.size = h at *
  refine (wBase_any W0 g _ _ ⟨b0, b1, b2, b3, b4, b5, b6⟩ _ hk1 hw1 ⟨_, _, _, _, _, _, rfl, p1, p2, p3, p4, p5, p6⟩ (by unfold Room at *; (try dsimp only at *); (try simp only [List.length_append, List.length_cons, List.length_nil] at *); omega)).mono ?_
  rintro e w2 ⟨rfl, hw2, hz2⟩
  have hx2 := hx1.trans hz2
  have hk2 := hx2.to_kp hk hw
  have hB2 := hB1.wx hz2 s1
  have s2 := s1.wx hz2
  clear hz2 hB1 s1 hx1 hk1
  clear d0 d14 d15 d16 d17 d18 d19 d20
  have d0 := hB2 0 _ rfl
  go_wp2
  go_end0
  exact ⟨rfl, by simpa [numPart] using hw2, hx2⟩

set_option maxHeartbeats 4000000 in
theorem wPart_1f (W0 : World) (g : Nat) (l : List Int) (val : Value) (x : Record) (w : World) (hk : Kp W0 w) (hw : Wr W0.heap.size w g l) (hv : RecordV W0 val x) (hroom : Room l (numPart x false).length) (hn : x.kind = 1) :
    Writes W0 g l (numPart x false) 80 #[.pointer (some ⟨g, 0, none⟩), val, .bool false] w := by
  obtain ⟨v0, v1, v2, v3, v4, v5, v6, v7, rfl, p0, p1, p2, p3, p4, p5, p6, p7⟩ := hv
  obtain ⟨A0, c0, rfl, hc0, hm0⟩ := p0.form
  clear hc0 hm0
  obtain ⟨A1, c1, rfl, hc1, hm1⟩ := p1.form
  clear hc1 hm1
  obtain ⟨A2, c2, rfl, hc2, hm2⟩ := p2.form
  clear hc2 hm2
  obtain ⟨A3, c3, rfl, hc3, hm3⟩ := p3.form
  clear hc3 hm3
  obtain ⟨A4, c4, rfl, hc4, hm4⟩ := p4.form
  clear hc4 hm4
  obtain ⟨A5, c5, rfl, hc5, hm5⟩ := p5.form
  clear hc5 hm5
  obtain ⟨A6, c6, rfl, hc6, hm6⟩ := p6.form
  clear hc6 hm6
  obtain ⟨A7, c7, rfl, hc7, hm7⟩ := p7.form
  clear hc7 hm7
  obtain ⟨kd, ⟨x0, x1, x2, x3, x4, x5, ⟨y0, y1, y2, y3⟩, x7, x8, x9⟩, ⟨b0, b1, b2, b3, b4, b5, b6⟩, tm, vt, ix, ⟨n0, n1, n2, n3, n4, n5⟩⟩ := x
  dsimp only at *
  subst hn
  simp [numPart] at hroom
  go_enter Try.func80, Try.ntmps80
  have hbx := box_new hw #[.int .i64 1, .int .i64 x0, .int .i64 x1, .int .i64 x2, .slice A0 x3.length c0, .int .i64 x4, .int .i64 x5, .int .i64 y0, .int .i64 y1, .int .i64 y2, .int .i64 y3, .int .i64 x7, .int .i64 x8, .int .i64 x9, .slice A1 b0.length c1, .int .i64 b1, .slice A2 b2.length c2, .slice A3 b3.length c3, .slice A4 b4.length c4, .slice A5 b5.length c5, .slice A6 b6.length c6, .int .i64 tm, .int .i64 vt, .int .i64 ix, .int .i64 n0, .int .i64 n1, .int .i64 n2, .int .i64 n3, .int .i64 n4, .slice A7 n5.length c7] 46
  have hk1 := hk.alloc (.cells #[.int .i64 1, .int .i64 x0, .int .i64 x1, .int .i64 x2, .slice A0 x3.length c0, .int .i64 x4, .int .i64 x5, .int .i64 y0, .int .i64 y1, .int .i64 y2, .int .i64 y3, .int .i64 x7, .int .i64 x8, .int .i64 x9, .slice A1 b0.length c1, .int .i64 b1, .slice A2 b2.length c2, .slice A3 b3.length c3, .slice A4 b4.length c4, .slice A5 b5.length c5, .slice A6 b6.length c6, .int .i64 tm, .int .i64 vt, .int .i64 ix, .int .i64 n0, .int .i64 n1, .int .i64 n2, .int .i64 n3, .int .i64 n4, .slice A7 n5.length c7] 46)
  have hw1 := hw.kp ((Kp.refl w).alloc (.cells #[.int .i64 1, .int .i64 x0, .int .i64 x1, .int .i64 x2, .slice A0 x3.length c0, .int .i64 x4, .int .i64 x5, .int .i64 y0, .int .i64 y1, .int .i64 y2, .int .i64 y3, .int .i64 x7, .int .i64 x8, .int .i64 x9, .slice A1 b0.length c1, .int .i64 b1, .slice A2 b2.length c2, .slice A3 b3.length c3, .slice A4 b4.length c4, .slice A5 b5.length c5, .slice A6 b6.length c6, .int .i64 tm, .int .i64 vt, .int .i64 ix, .int .i64 n0, .int .i64 n1, .int .i64 n2, .int .i64 n3, .int .i64 n4, .slice A7 n5.length c7] 46))
  have hx1 := ((Kp.refl w).alloc (.cells #[.int .i64 1, .int .i64 x0, .int .i64 x1, .int .i64 x2, .slice A0 x3.length c0, .int .i64 x4, .int .i64 x5, .int .i64 y0, .int .i64 y1, .int .i64 y2, .int .i64 y3, .int .i64 x7, .int .i64 x8, .int .i64 x9, .slice A1 b0.length c1, .int .i64 b1, .slice A2 b2.length c2, .slice A3 b3.length c3, .slice A4 b4.length c4, .slice A5 b5.length c5, .slice A6 b6.length c6, .int .i64 tm, .int .i64 vt, .int .i64 ix, .int .i64 n0, .int .i64 n1, .int .i64 n2, .int .i64 n3, .int .i64 n4, .slice A7 n5.length c7] 46)).wx hw.lt
  obtain ⟨hB1, s1⟩ := hbx
  have d0 := hB1 0 _ rfl
  have d1 := hB1 1 _ rfl
  have d2 := hB1 2 _ rfl
  have d3 := hB1 3 _ rfl
  have d4 := hB1 4 _ rfl
  have d5 := hB1 5 _ rfl
  have d6 := hB1 6 _ rfl
  have d7 := hB1 7 _ rfl
  have d8 := hB1 8 _ rfl
  have d9 := hB1 9 _ rfl
  have d10 := hB1 10 _ rfl
  have d11 := hB1 11 _ rfl
  have d12 := hB1 12 _ rfl
  have d13 := hB1 13 _ rfl
  go_wp2_with fail
  try rw [← World.size_alloc w (.cells #[.int .i64 1, .int .i64 x0, .int .i64 x1, .int .i64 x2, .slice A0 x3.length c0, .int .i64 x4, .int .i64 x5, .int .i64 y0, .int .i64 y1, .int .i64 y2, .int .i64 y3, .int .i64 x7, .int .i64 x8, .int .i64 x9, .slice A1 b0.length c1, .int .i64 b1, .slice A2 b2.length c2, .slice A3 b3.length c3, .slice A4 b4.length c4, .slice A5 b5.length c5, .slice A6 b6.length c6, .int .i64 tm, .int .i64 vt, .int .i64 ix, .int .i64 n0, .int .i64 n1, .int .i64 n2, .int .i64 n3, .int .i64 n4, .slice A7 n5.length c7] 46)]
  generalize w.alloc (.cells #[.int .i64 1, .int .i64 x0, .int .i64 x1, .int .i64 x2, .slice A0 x3.length c0, .int .i64 x4, .int .i64 x5, .int .i64 y0, .int .i64 y1, .int .i64 y2, .int .i64 y3, .int .i64 x7, .int .i64 x8, .int .i64 x9, .slice A1 b0.length c1, .int .i64 b1, .slice A2 b2.length c2, .slice A3 b3.length c3, .slice A4 b4.length c4, .slice A5 b5.length c5, .slice A6 b6.length c6, .int .i64 tm, .int .i64 vt, .int .i64 ix, .int .i64 n0, .int .i64 n1, .int .i64 n2, .int .i64 n3, .int .i64 n4, .slice A7 n5.length c7] 46) = w1 at *
  generalize w.heap.size = h at *
  refine (wEvent_any W0 g _ _ ⟨x0, x1, x2, x3, x4, x5, ⟨y0, y1, y2, y3⟩, x7, x8, x9⟩ _ hk1 hw1 ⟨_, rfl, p0⟩ (by unfold Room at *; (try dsimp only at *); (try simp only [List.length_append, List.length_cons, List.length_nil] at *); omega)).mono ?_
  rintro e w2 ⟨rfl, hw2, hz2⟩
  have hx2 := hx1.trans hz2
  have hk2 := hx2.to_kp hk hw
  have hB2 := hB1.wx hz2 s1
  have s2 := s1.wx hz2
  clear hz2 hB1 s1 hx1 hk1
  clear d0 d1 d2 d3 d4 d5 d6 d7 d8 d9 d10 d11 d12 d13
  have d0 := hB2 0 _ rfl
  have d21 := hB2 21 _ rfl
  have d22 := hB2 22 _ rfl
  go_wp2_with fail
  refine (put_any W0 g _ [tm, vt] _ _ (hk2.alloc _) (hw2.kp ((Kp.refl _).alloc _)) ?hl (by unfold Room at *; (try dsimp only at *); (try simp only [List.length_append, List.length_cons, List.length_nil] at *); omega)).mono ?_
  case hl => exact litInts [tm, vt] _ rfl (by simp) _ rfl
  rintro e w3 ⟨rfl, hw3, hy3⟩
  have hz3 := (((Kp.refl w2).alloc _).wx hw2.lt).trans hy3
  clear hy3
  have hx3 := hx2.trans hz3
  have hk3 := hx3.to_kp hk hw
  have hB3 := hB2.wx hz3 s2
  have s3 := s2.wx hz3
  clear hz3 hB2 s2 hx2 hk2
  clear d0 d21 d22
  have d0 := hB3 0 _ rfl
  have d23 := hB3 23 _ rfl
  go_wp2_with fail
  refine (put_any W0 g _ [ix] _ _ (hk3.alloc _) (hw3.kp ((Kp.refl _).alloc _)) ?hl (by unfold Room at *; (try dsimp only at *); (try simp only [List.length_append, List.length_cons, List.length_nil] at *); omega)).mono ?_
  case hl => exact litInts [ix] _ rfl (by simp) _ rfl
  rintro e w4 ⟨rfl, hw4, hy4⟩
  have hz4 := (((Kp.refl w3).alloc _).wx hw3.lt).trans hy4
  clear hy4
  have hx4 := hx3.trans hz4
  have hk4 := hx4.to_kp hk hw
  have hB4 := hB3.wx hz4 s3
  have s4 := s3.wx hz4
  clear hz4 hB3 s3 hx3 hk3
  clear d0 d23
  have d0 := hB4 0 _ rfl
  have d24 := hB4 24 _ rfl
  have d25 := hB4 25 _ rfl
  have d26 := hB4 26 _ rfl
  have d27 := hB4 27 _ rfl
  have d28 := hB4 28 _ rfl
  have d29 := hB4 29 _ rfl
  go_wp2_with fail
  refine (wEntry_any W0 g _ _ ⟨n0, n1, n2, n3, n4, n5⟩ _ hk4 hw4 ⟨_, rfl, p7⟩ (by unfold Room at *; (try dsimp only at *); (try simp only [List.length_append, List.length_cons, List.length_nil] at *); omega)).mono ?_
  rintro e w5 ⟨rfl, hw5, hz5⟩
  have hx5 := hx4.trans hz5
  have hk5 := hx5.to_kp hk hw
  have hB5 := hB4.wx hz5 s4
  have s5 := s4.wx hz5
  clear hz5 hB4 s4 hx4 hk4
  clear d0 d24 d25 d26 d27 d28 d29
  have d0 := hB5 0 _ rfl
  go_wp2
  go_end0
  exact ⟨rfl, by simpa [numPart] using hw5, hx5⟩

set_option maxHeartbeats 4000000 in
theorem wPart_2t (W0 : World) (g : Nat) (l : List Int) (val : Value) (x : Record) (w : World) (hk : Kp W0 w) (hw : Wr W0.heap.size w g l) (hv : RecordV W0 val x) (hroom : Room l (numPart x true).length) (hn : x.kind = 2) :
    Writes W0 g l (numPart x true) 80 #[.pointer (some ⟨g, 0, none⟩), val, .bool true] w := by
  obtain ⟨v0, v1, v2, v3, v4, v5, v6, v7, rfl, p0, p1, p2, p3, p4, p5, p6, p7⟩ := hv
  obtain ⟨A0, c0, rfl, hc0, hm0⟩ := p0.form
  clear hc0 hm0
  obtain ⟨A1, c1, rfl, hc1, hm1⟩ := p1.form
  clear hc1 hm1
  obtain ⟨A2, c2, rfl, hc2, hm2⟩ := p2.form
  clear hc2 hm2
  obtain ⟨A3, c3, rfl, hc3, hm3⟩ := p3.form
  clear hc3 hm3
  obtain ⟨A4, c4, rfl, hc4, hm4⟩ := p4.form
  clear hc4 hm4
  obtain ⟨A5, c5, rfl, hc5, hm5⟩ := p5.form
  clear hc5 hm5
  obtain ⟨A6, c6, rfl, hc6, hm6⟩ := p6.form
  clear hc6 hm6
  obtain ⟨A7, c7, rfl, hc7, hm7⟩ := p7.form
  clear hc7 hm7
  obtain ⟨kd, ⟨x0, x1, x2, x3, x4, x5, ⟨y0, y1, y2, y3⟩, x7, x8, x9⟩, ⟨b0, b1, b2, b3, b4, b5, b6⟩, tm, vt, ix, ⟨n0, n1, n2, n3, n4, n5⟩⟩ := x
  dsimp only at *
  subst hn
  simp [numPart] at hroom
  go_enter Try.func80, Try.ntmps80
  have hbx := box_new hw #[.int .i64 2, .int .i64 x0, .int .i64 x1, .int .i64 x2, .slice A0 x3.length c0, .int .i64 x4, .int .i64 x5, .int .i64 y0, .int .i64 y1, .int .i64 y2, .int .i64 y3, .int .i64 x7, .int .i64 x8, .int .i64 x9, .slice A1 b0.length c1, .int .i64 b1, .slice A2 b2.length c2, .slice A3 b3.length c3, .slice A4 b4.length c4, .slice A5 b5.length c5, .slice A6 b6.length c6, .int .i64 tm, .int .i64 vt, .int .i64 ix, .int .i64 n0, .int .i64 n1, .int .i64 n2, .int .i64 n3, .int .i64 n4, .slice A7 n5.length c7] 46
  have hk1 := hk.alloc (.cells #[.int .i64 2, .int .i64 x0, .int .i64 x1, .int .i64 x2, .slice A0 x3.length c0, .int .i64 x4, .int .i64 x5, .int .i64 y0, .int .i64 y1, .int .i64 y2, .int .i64 y3, .int .i64 x7, .int .i64 x8, .int .i64 x9, .slice A1 b0.length c1, .int .i64 b1, .slice A2 b2.length c2, .slice A3 b3.length c3, .slice A4 b4.length c4, .slice A5 b5.length c5, .slice A6 b6.length c6, .int .i64 tm, .int .i64 vt, .int .i64 ix, .int .i64 n0, .int .i64 n1, .int .i64 n2, .int .i64 n3, .int .i64 n4, .slice A7 n5.length c7] 46)
  have hw1 := hw.kp ((Kp.refl w).alloc (.cells #[.int .i64 2, .int .i64 x0, .int .i64 x1, .int .i64 x2, .slice A0 x3.length c0, .int .i64 x4, .int .i64 x5, .int .i64 y0, .int .i64 y1, .int .i64 y2, .int .i64 y3, .int .i64 x7, .int .i64 x8, .int .i64 x9, .slice A1 b0.length c1, .int .i64 b1, .slice A2 b2.length c2, .slice A3 b3.length c3, .slice A4 b4.length c4, .slice A5 b5.length c5, .slice A6 b6.length c6, .int .i64 tm, .int .i64 vt, .int .i64 ix, .int .i64 n0, .int .i64 n1, .int .i64 n2, .int .i64 n3, .int .i64 n4, .slice A7 n5.length c7] 46))
  have hx1 := ((Kp.refl w).alloc (.cells #[.int .i64 2, .int .i64 x0, .int .i64 x1, .int .i64 x2, .slice A0 x3.length c0, .int .i64 x4, .int .i64 x5, .int .i64 y0, .int .i64 y1, .int .i64 y2, .int .i64 y3, .int .i64 x7, .int .i64 x8, .int .i64 x9, .slice A1 b0.length c1, .int .i64 b1, .slice A2 b2.length c2, .slice A3 b3.length c3, .slice A4 b4.length c4, .slice A5 b5.length c5, .slice A6 b6.length c6, .int .i64 tm, .int .i64 vt, .int .i64 ix, .int .i64 n0, .int .i64 n1, .int .i64 n2, .int .i64 n3, .int .i64 n4, .slice A7 n5.length c7] 46)).wx hw.lt
  obtain ⟨hB1, s1⟩ := hbx
  have d0 := hB1 0 _ rfl
  have d21 := hB1 21 _ rfl
  have d22 := hB1 22 _ rfl
  go_wp2_with fail
  try rw [← World.size_alloc w (.cells #[.int .i64 2, .int .i64 x0, .int .i64 x1, .int .i64 x2, .slice A0 x3.length c0, .int .i64 x4, .int .i64 x5, .int .i64 y0, .int .i64 y1, .int .i64 y2, .int .i64 y3, .int .i64 x7, .int .i64 x8, .int .i64 x9, .slice A1 b0.length c1, .int .i64 b1, .slice A2 b2.length c2, .slice A3 b3.length c3, .slice A4 b4.length c4, .slice A5 b5.length c5, .slice A6 b6.length c6, .int .i64 tm, .int .i64 vt, .int .i64 ix, .int .i64 n0, .int .i64 n1, .int .i64 n2, .int .i64 n3, .int .i64 n4, .slice A7 n5.length c7] 46)]
  generalize w.alloc (.cells #[.int .i64 2, .int .i64 x0, .int .i64 x1, .int .i64 x2, .slice A0 x3.length c0, .int .i64 x4, .int .i64 x5, .int .i64 y0, .int .i64 y1, .int .i64 y2, .int .i64 y3, .int .i64 x7, .int .i64 x8, .int .i64 x9, .slice A1 b0.length c1, .int .i64 b1, .slice A2 b2.length c2, .slice A3 b3.length c3, .slice A4 b4.length c4, .slice A5 b5.length c5, .slice A6 b6.length c6, .int .i64 tm, .int .i64 vt, .int .i64 ix, .int .i64 n0, .int .i64 n1, .int .i64 n2, .int .i64 n3, .int .i64 n4, .slice A7 n5.length c7] 46) = w1 at *
  generalize w.heap.size = h at *
  refine (put_any W0 g _ [tm, vt] _ _ (hk1.alloc _) (hw1.kp ((Kp.refl _).alloc _)) ?hl (by unfold Room at *; (try dsimp only at *); (try simp only [List.length_append, List.length_cons, List.length_nil] at *); omega)).mono ?_
  case hl => exact litInts [tm, vt] _ rfl (by simp) _ rfl
  rintro e w2 ⟨rfl, hw2, hy2⟩
  have hz2 := (((Kp.refl w1).alloc _).wx hw1.lt).trans hy2
  clear hy2
  have hx2 := hx1.trans hz2
  have hk2 := hx2.to_kp hk hw
  have hB2 := hB1.wx hz2 s1
  have s2 := s1.wx hz2
  clear hz2 hB1 s1 hx1 hk1
  clear d0 d21 d22
  have d0 := hB2 0 _ rfl
  go_wp2
  go_end0
  exact ⟨rfl, by simpa [numPart] using hw2, hx2⟩

set_option maxHeartbeats 4000000 in
theorem wPart_2f (W0 : World) (g : Nat) (l : List Int) (val : Value) (x : Record) (w : World) (hk : Kp W0 w) (hw : Wr W0.heap.size w g l) (hv : RecordV W0 val x) (hroom : Room l (numPart x false).length) (hn : x.kind = 2) :
    Writes W0 g l (numPart x false) 80 #[.pointer (some ⟨g, 0, none⟩), val, .bool false] w := by
  obtain ⟨v0, v1, v2, v3, v4, v5, v6, v7, rfl, p0, p1, p2, p3, p4, p5, p6, p7⟩ := hv
  obtain ⟨A0, c0, rfl, hc0, hm0⟩ := p0.form
  clear hc0 hm0
  obtain ⟨A1, c1, rfl, hc1, hm1⟩ := p1.form
  clear hc1 hm1
  obtain ⟨A2, c2, rfl, hc2, hm2⟩ := p2.form
  clear hc2 hm2
  obtain ⟨A3, c3, rfl, hc3, hm3⟩ := p3.form
  clear hc3 hm3
  obtain ⟨A4, c4, rfl, hc4, hm4⟩ := p4.form
  clear hc4 hm4
  obtain ⟨A5, c5, rfl, hc5, hm5⟩ := p5.form
  clear hc5 hm5
  obtain ⟨A6, c6, rfl, hc6, hm6⟩ := p6.form
  clear hc6 hm6
  obtain ⟨A7, c7, rfl, hc7, hm7⟩ := p7.form
  clear hc7 hm7
  obtain ⟨kd, ⟨x0, x1, x2, x3, x4, x5, ⟨y0, y1, y2, y3⟩, x7, x8, x9⟩, ⟨b0, b1, b2, b3, b4, b5, b6⟩, tm, vt, ix, ⟨n0, n1, n2, n3, n4, n5⟩⟩ := x
  dsimp only at *
  subst hn
  simp [numPart] at hroom
  go_enter Try.func80, Try.ntmps80
  have hbx := box_new hw #[.int .i64 2, .int .i64 x0, .int .i64 x1, .int .i64 x2, .slice A0 x3.length c0, .int .i64 x4, .int .i64 x5, .int .i64 y0, .int .i64 y1, .int .i64 y2, .int .i64 y3, .int .i64 x7, .int .i64 x8, .int .i64 x9, .slice A1 b0.length c1, .int .i64 b1, .slice A2 b2.length c2, .slice A3 b3.length c3, .slice A4 b4.length c4, .slice A5 b5.length c5, .slice A6 b6.length c6, .int .i64 tm, .int .i64 vt, .int .i64 ix, .int .i64 n0, .int .i64 n1, .int .i64 n2, .int .i64 n3, .int .i64 n4, .slice A7 n5.length c7] 46
  have hk1 := hk.alloc (.cells #[.int .i64 2, .int .i64 x0, .int .i64 x1, .int .i64 x2, .slice A0 x3.length c0, .int .i64 x4, .int .i64 x5, .int .i64 y0, .int .i64 y1, .int .i64 y2, .int .i64 y3, .int .i64 x7, .int .i64 x8, .int .i64 x9, .slice A1 b0.length c1, .int .i64 b1, .slice A2 b2.length c2, .slice A3 b3.length c3, .slice A4 b4.length c4, .slice A5 b5.length c5, .slice A6 b6.length c6, .int .i64 tm, .int .i64 vt, .int .i64 ix, .int .i64 n0, .int .i64 n1, .int .i64 n2, .int .i64 n3, .int .i64 n4, .slice A7 n5.length c7] 46)
  have hw1 := hw.kp ((Kp.refl w).alloc (.cells #[.int .i64 2, .int .i64 x0, .int .i64 x1, .int .i64 x2, .slice A0 x3.length c0, .int .i64 x4, .int .i64 x5, .int .i64 y0, .int .i64 y1, .int .i64 y2, .int .i64 y3, .int .i64 x7, .int .i64 x8, .int .i64 x9, .slice A1 b0.length c1, .int .i64 b1, .slice A2 b2.length c2, .slice A3 b3.length c3, .slice A4 b4.length c4, .slice A5 b5.length c5, .slice A6 b6.length c6, .int .i64 tm, .int .i64 vt, .int .i64 ix, .int .i64 n0, .int .i64 n1, .int .i64 n2, .int .i64 n3, .int .i64 n4, .slice A7 n5.length c7] 46))
  have hx1 := ((Kp.refl w).alloc (.cells #[.int .i64 2, .int .i64 x0, .int .i64 x1, .int .i64 x2, .slice A0 x3.length c0, .int .i64 x4, .int .i64 x5, .int .i64 y0, .int .i64 y1, .int .i64 y2, .int .i64 y3, .int .i64 x7, .int .i64 x8, .int .i64 x9, .slice A1 b0.length c1, .int .i64 b1, .slice A2 b2.length c2, .slice A3 b3.length c3, .slice A4 b4.length c4, .slice A5 b5.length c5, .slice A6 b6.length c6, .int .i64 tm, .int .i64 vt, .int .i64 ix, .int .i64 n0, .int .i64 n1, .int .i64 n2, .int .i64 n3, .int .i64 n4, .slice A7 n5.length c7] 46)).wx hw.lt
  obtain ⟨hB1, s1⟩ := hbx
  have d0 := hB1 0 _ rfl
  have d1 := hB1 1 _ rfl
  have d2 := hB1 2 _ rfl
  have d3 := hB1 3 _ rfl
  have d4 := hB1 4 _ rfl
  have d5 := hB1 5 _ rfl
  have d6 := hB1 6 _ rfl
  have d7 := hB1 7 _ rfl
  have d8 := hB1 8 _ rfl
  have d9 := hB1 9 _ rfl
  have d10 := hB1 10 _ rfl
  have d11 := hB1 11 _ rfl
  have d12 := hB1 12 _ rfl
  have d13 := hB1 13 _ rfl
  go_wp2_with fail
  try rw [← World.size_alloc w (.cells #[.int .i64 2, .int .i64 x0, .int .i64 x1, .int .i64 x2, .slice A0 x3.length c0, .int .i64 x4, .int .i64 x5, .int .i64 y0, .int .i64 y1, .int .i64 y2, .int .i64 y3, .int .i64 x7, .int .i64 x8, .int .i64 x9, .slice A1 b0.length c1, .int .i64 b1, .slice A2 b2.length c2, .slice A3 b3.length c3, .slice A4 b4.length c4, .slice A5 b5.length c5, .slice A6 b6.length c6, .int .i64 tm, .int .i64 vt, .int .i64 ix, .int .i64 n0, .int .i64 n1, .int .i64 n2, .int .i64 n3, .int .i64 n4, .slice A7 n5.length c7] 46)]
  generalize w.alloc (.cells #[.int .i64 2, .int .i64 x0, .int .i64 x1, .int .i64 x2, .slice A0 x3.length c0, .int .i64 x4, .int .i64 x5, .int .i64 y0, .int .i64 y1, .int .i64 y2, .int .i64 y3, .int .i64 x7, .int .i64 x8, .int .i64 x9, .slice A1 b0.length c1, .int .i64 b1, .slice A2 b2.length c2, .slice A3 b3.length c3, .slice A4 b4.length c4, .slice A5 b5.length c5, .slice A6 b6.length c6, .int .i64 tm, .int .i64 vt, .int .i64 ix, .int .i64 n0, .int .i64 n1, .int .i64 n2, .int .i64 n3, .int .i64 n4, .slice A7 n5.length c7] 46) = w1 at *
  generalize w.heap.size = h at *
  refine (wEvent_any W0 g _ _ ⟨x0, x1, x2, x3, x4, x5, ⟨y0, y1, y2, y3⟩, x7, x8, x9⟩ _ hk1 hw1 ⟨_, rfl, p0⟩ (by unfold Room at *; (try dsimp only at *); (try simp only [List.length_append, List.length_cons, List.length_nil] at *); omega)).mono ?_
  rintro e w2 ⟨rfl, hw2, hz2⟩
  have hx2 := hx1.trans hz2
  have hk2 := hx2.to_kp hk hw
  have hB2 := hB1.wx hz2 s1
  have s2 := s1.wx hz2
  clear hz2 hB1 s1 hx1 hk1
  clear d0 d1 d2 d3 d4 d5 d6 d7 d8 d9 d10 d11 d12 d13
  have d0 := hB2 0 _ rfl
  have d14 := hB2 14 _ rfl
  have d15 := hB2 15 _ rfl
  have d16 := hB2 16 _ rfl
  have d17 := hB2 17 _ rfl
  have d18 := hB2 18 _ rfl
  have d19 := hB2 19 _ rfl
  have d20 := hB2 20 _ rfl
  go_wp2_with fail
  refine (wBase_any W0 g _ _ ⟨b0, b1, b2, b3, b4, b5, b6⟩ _ hk2 hw2 ⟨_, _, _, _, _, _, rfl, p1, p2, p3, p4, p5, p6⟩ (by unfold Room at *; (try dsimp only at *); (try simp only [List.length_append, List.length_cons, List.length_nil] at *); omega)).mono ?_
  rintro e w3 ⟨rfl, hw3, hz3⟩
  have hx3 := hx2.trans hz3
  have hk3 := hx3.to_kp hk hw
  have hB3 := hB2.wx hz3 s2
  have s3 := s2.wx hz3
  clear hz3 hB2 s2 hx2 hk2
  clear d0 d14 d15 d16 d17 d18 d19 d20
  have d0 := hB3 0 _ rfl
  have d23 := hB3 23 _ rfl
  go_wp2_with fail
  refine (put_any W0 g _ [ix] _ _ (hk3.alloc _) (hw3.kp ((Kp.refl _).alloc _)) ?hl (by unfold Room at *; (try dsimp only at *); (try simp only [List.length_append, List.length_cons, List.length_nil] at *); omega)).mono ?_
  case hl => exact litInts [ix] _ rfl (by simp) _ rfl
  rintro e w4 ⟨rfl, hw4, hy4⟩
  have hz4 := (((Kp.refl w3).alloc _).wx hw3.lt).trans hy4
  clear hy4
  have hx4 := hx3.trans hz4
  have hk4 := hx4.to_kp hk hw
  have hB4 := hB3.wx hz4 s3
  have s4 := s3.wx hz4
  clear hz4 hB3 s3 hx3 hk3
  clear d0 d23
  have d0 := hB4 0 _ rfl
  have d24 := hB4 24 _ rfl
  have d25 := hB4 25 _ rfl
  have d26 := hB4 26 _ rfl
  have d27 := hB4 27 _ rfl
  have d28 := hB4 28 _ rfl
  have d29 := hB4 29 _ rfl
  go_wp2_with fail
  refine (wEntry_any W0 g _ _ ⟨n0, n1, n2, n3, n4, n5⟩ _ hk4 hw4 ⟨_, rfl, p7⟩ (by unfold Room at *; (try dsimp only at *); (try simp only [List.length_append, List.length_cons, List.length_nil] at *); omega)).mono ?_
  rintro e w5 ⟨rfl, hw5, hz5⟩
  have hx5 := hx4.trans hz5
  have hk5 := hx5.to_kp hk hw
  have hB5 := hB4.wx hz5 s4
  have s5 := s4.wx hz5
  clear hz5 hB4 s4 hx4 hk4
  clear d0 d24 d25 d26 d27 d28 d29
  have d0 := hB5 0 _ rfl
  go_wp2
  go_end0
  exact ⟨rfl, by simpa [numPart] using hw5, hx5⟩

set_option maxHeartbeats 4000000 in
theorem wPart_3t (W0 : World) (g : Nat) (l : List Int) (val : Value) (x : Record) (w : World) (hk : Kp W0 w) (hw : Wr W0.heap.size w g l) (hv : RecordV W0 val x) (hroom : Room l (numPart x true).length) (hn : x.kind = 3) :
    Writes W0 g l (numPart x true) 80 #[.pointer (some ⟨g, 0, none⟩), val, .bool true] w := by
  obtain ⟨v0, v1, v2, v3, v4, v5, v6, v7, rfl, p0, p1, p2, p3, p4, p5, p6, p7⟩ := hv
  obtain ⟨A0, c0, rfl, hc0, hm0⟩ := p0.form
  clear hc0 hm0
  obtain ⟨A1, c1, rfl, hc1, hm1⟩ := p1.form
  clear hc1 hm1
  obtain ⟨A2, c2, rfl, hc2, hm2⟩ := p2.form
  clear hc2 hm2
  obtain ⟨A3, c3, rfl, hc3, hm3⟩ := p3.form
  clear hc3 hm3
  obtain ⟨A4, c4, rfl, hc4, hm4⟩ := p4.form
  clear hc4 hm4
  obtain ⟨A5, c5, rfl, hc5, hm5⟩ := p5.form
  clear hc5 hm5
  obtain ⟨A6, c6, rfl, hc6, hm6⟩ := p6.form
  clear hc6 hm6
  obtain ⟨A7, c7, rfl, hc7, hm7⟩ := p7.form
  clear hc7 hm7
  obtain ⟨kd, ⟨x0, x1, x2, x3, x4, x5, ⟨y0, y1, y2, y3⟩, x7, x8, x9⟩, ⟨b0, b1, b2, b3, b4, b5, b6⟩, tm, vt, ix, ⟨n0, n1, n2, n3, n4, n5⟩⟩ := x
  dsimp only at *
  subst hn
  simp [numPart] at hroom
  go_enter Try.func80, Try.ntmps80
  have hbx := box_new hw #[.int .i64 3, .int .i64 x0, .int .i64 x1, .int .i64 x2, .slice A0 x3.length c0, .int .i64 x4, .int .i64 x5, .int .i64 y0, .int .i64 y1, .int .i64 y2, .int .i64 y3, .int .i64 x7, .int .i64 x8, .int .i64 x9, .slice A1 b0.length c1, .int .i64 b1, .slice A2 b2.length c2, .slice A3 b3.length c3, .slice A4 b4.length c4, .slice A5 b5.length c5, .slice A6 b6.length c6, .int .i64 tm, .int .i64 vt, .int .i64 ix, .int .i64 n0, .int .i64 n1, .int .i64 n2, .int .i64 n3, .int .i64 n4, .slice A7 n5.length c7] 46
  have hk1 := hk.alloc (.cells #[.int .i64 3, .int .i64 x0, .int .i64 x1, .int .i64 x2, .slice A0 x3.length c0, .int .i64 x4, .int .i64 x5, .int .i64 y0, .int .i64 y1, .int .i64 y2, .int .i64 y3, .int .i64 x7, .int .i64 x8, .int .i64 x9, .slice A1 b0.length c1, .int .i64 b1, .slice A2 b2.length c2, .slice A3 b3.length c3, .slice A4 b4.length c4, .slice A5 b5.length c5, .slice A6 b6.length c6, .int .i64 tm, .int .i64 vt, .int .i64 ix, .int .i64 n0, .int .i64 n1, .int .i64 n2, .int .i64 n3, .int .i64 n4, .slice A7 n5.length c7] 46)
  have hw1 := hw.kp ((Kp.refl w).alloc (.cells #[.int .i64 3, .int .i64 x0, .int .i64 x1, .int .i64 x2, .slice A0 x3.length c0, .int .i64 x4, .int .i64 x5, .int .i64 y0, .int .i64 y1, .int .i64 y2, .int .i64 y3, .int .i64 x7, .int .i64 x8, .int .i64 x9, .slice A1 b0.length c1, .int .i64 b1, .slice A2 b2.length c2, .slice A3 b3.length c3, .slice A4 b4.length c4, .slice A5 b5.length c5, .slice A6 b6.length c6, .int .i64 tm, .int .i64 vt, .int .i64 ix, .int .i64 n0, .int .i64 n1, .int .i64 n2, .int .i64 n3, .int .i64 n4, .slice A7 n5.length c7] 46))
  have hx1 := ((Kp.refl w).alloc (.cells #[.int .i64 3, .int .i64 x0, .int .i64 x1, .int .i64 x2, .slice A0 x3.length c0, .int .i64 x4, .int .i64 x5, .int .i64 y0, .int .i64 y1, .int .i64 y2, .int .i64 y3, .int .i64 x7, .int .i64 x8, .int .i64 x9, .slice A1 b0.length c1, .int .i64 b1, .slice A2 b2.length c2, .slice A3 b3.length c3, .slice A4 b4.length c4, .slice A5 b5.length c5, .slice A6 b6.length c6, .int .i64 tm, .int .i64 vt, .int .i64 ix, .int .i64 n0, .int .i64 n1, .int .i64 n2, .int .i64 n3, .int .i64 n4, .slice A7 n5.length c7] 46)).wx hw.lt
  obtain ⟨hB1, s1⟩ := hbx
  have d0 := hB1 0 _ rfl
  have d23 := hB1 23 _ rfl
  go_wp2_with fail
  try rw [← World.size_alloc w (.cells #[.int .i64 3, .int .i64 x0, .int .i64 x1, .int .i64 x2, .slice A0 x3.length c0, .int .i64 x4, .int .i64 x5, .int .i64 y0, .int .i64 y1, .int .i64 y2, .int .i64 y3, .int .i64 x7, .int .i64 x8, .int .i64 x9, .slice A1 b0.length c1, .int .i64 b1, .slice A2 b2.length c2, .slice A3 b3.length c3, .slice A4 b4.length c4, .slice A5 b5.length c5, .slice A6 b6.length c6, .int .i64 tm, .int .i64 vt, .int .i64 ix, .int .i64 n0, .int .i64 n1, .int .i64 n2, .int .i64 n3, .int .i64 n4, .slice A7 n5.length c7] 46)]
  generalize w.alloc (.cells #[.int .i64 3, .int .i64 x0, .int .i64 x1, .int .i64 x2, .slice A0 x3.length c0, .int .i64 x4, .int .i64 x5, .int .i64 y0, .int .i64 y1, .int .i64 y2, .int .i64 y3, .int .i64 x7, .int .i64 x8, .int .i64 x9, .slice A1 b0.length c1, .int .i64 b1, .slice A2 b2.length c2, .slice A3 b3.length c3, .slice A4 b4.length c4, .slice A5 b5.length c5, .slice A6 b6.length c6, .int .i64 tm, .int .i64 vt, .int .i64 ix, .int .i64 n0, .int .i64 n1, .int .i64 n2, .int .i64 n3, .int .i64 n4, .slice A7 n5.length c7] 46) = w1 at *
  generalize w.heap.size = h at *
  refine (put_any W0 g _ [ix] _ _ (hk1.alloc _) (hw1.kp ((Kp.refl _).alloc _)) ?hl (by unfold Room at *; (try dsimp only at *); (try simp only [List.length_append, List.length_cons, List.length_nil] at *); omega)).mono ?_
  case hl => exact litInts [ix] _ rfl (by simp) _ rfl
  rintro e w2 ⟨rfl, hw2, hy2⟩
  have hz2 := (((Kp.refl w1).alloc _).wx hw1.lt).trans hy2
  clear hy2
  have hx2 := hx1.trans hz2
  have hk2 := hx2.to_kp hk hw
  have hB2 := hB1.wx hz2 s1
  have s2 := s1.wx hz2
  clear hz2 hB1 s1 hx1 hk1
  clear d0 d23
  have d0 := hB2 0 _ rfl
  have d24 := hB2 24 _ rfl
  have d25 := hB2 25 _ rfl
  have d26 := hB2 26 _ rfl
  have d27 := hB2 27 _ rfl
  have d28 := hB2 28 _ rfl
  have d29 := hB2 29 _ rfl
  go_wp2_with fail
  refine (wEntry_any W0 g _ _ ⟨n0, n1, n2, n3, n4, n5⟩ _ hk2 hw2 ⟨_, rfl, p7⟩ (by unfold Room at *; (try dsimp only at *); (try simp only [List.length_append, List.length_cons, List.length_nil] at *); omega)).mono ?_
  rintro e w3 ⟨rfl, hw3, hz3⟩
  have hx3 := hx2.trans hz3
  have hk3 := hx3.to_kp hk hw
  have hB3 := hB2.wx hz3 s2
  have s3 := s2.wx hz3
  clear hz3 hB2 s2 hx2 hk2
  clear d0 d24 d25 d26 d27 d28 d29
  have d0 := hB3 0 _ rfl
  go_wp2
  go_end0
  exact ⟨rfl, by simpa [numPart] using hw3, hx3⟩

set_option maxHeartbeats 4000000 in
theorem wPart_3f (W0 : World) (g : Nat) (l : List Int) (val : Value) (x : Record) (w : World) (hk : Kp W0 w) (hw : Wr W0.heap.size w g l) (hv : RecordV W0 val x) (hroom : Room l (numPart x false).length) (hn : x.kind = 3) :
    Writes W0 g l (numPart x false) 80 #[.pointer (some ⟨g, 0, none⟩), val, .bool false] w := by
  obtain ⟨v0, v1, v2, v3, v4, v5, v6, v7, rfl, p0, p1, p2, p3, p4, p5, p6, p7⟩ := hv
  obtain ⟨A0, c0, rfl, hc0, hm0⟩ := p0.form
  clear hc0 hm0
  obtain ⟨A1, c1, rfl, hc1, hm1⟩ := p1.form
  clear hc1 hm1
  obtain ⟨A2, c2, rfl, hc2, hm2⟩ := p2.form
  clear hc2 hm2
  obtain ⟨A3, c3, rfl, hc3, hm3⟩ := p3.form
  clear hc3 hm3
  obtain ⟨A4, c4, rfl, hc4, hm4⟩ := p4.form
  clear hc4 hm4
  obtain ⟨A5, c5, rfl, hc5, hm5⟩ := p5.form
  clear hc5 hm5
  obtain ⟨A6, c6, rfl, hc6, hm6⟩ := p6.form
  clear hc6 hm6
  obtain ⟨A7, c7, rfl, hc7, hm7⟩ := p7.form
  clear hc7 hm7
  obtain ⟨kd, ⟨x0, x1, x2, x3, x4, x5, ⟨y0, y1, y2, y3⟩, x7, x8, x9⟩, ⟨b0, b1, b2, b3, b4, b5, b6⟩, tm, vt, ix, ⟨n0, n1, n2, n3, n4, n5⟩⟩ := x
  dsimp only at *
  subst hn
  simp [numPart] at hroom
  go_enter Try.func80, Try.ntmps80
  have hbx := box_new hw #[.int .i64 3, .int .i64 x0, .int .i64 x1, .int .i64 x2, .slice A0 x3.length c0, .int .i64 x4, .int .i64 x5, .int .i64 y0, .int .i64 y1, .int .i64 y2, .int .i64 y3, .int .i64 x7, .int .i64 x8, .int .i64 x9, .slice A1 b0.length c1, .int .i64 b1, .slice A2 b2.length c2, .slice A3 b3.length c3, .slice A4 b4.length c4, .slice A5 b5.length c5, .slice A6 b6.length c6, .int .i64 tm, .int .i64 vt, .int .i64 ix, .int .i64 n0, .int .i64 n1, .int .i64 n2, .int .i64 n3, .int .i64 n4, .slice A7 n5.length c7] 46
  have hk1 := hk.alloc (.cells #[.int .i64 3, .int .i64 x0, .int .i64 x1, .int .i64 x2, .slice A0 x3.length c0, .int .i64 x4, .int .i64 x5, .int .i64 y0, .int .i64 y1, .int .i64 y2, .int .i64 y3, .int .i64 x7, .int .i64 x8, .int .i64 x9, .slice A1 b0.length c1, .int .i64 b1, .slice A2 b2.length c2, .slice A3 b3.length c3, .slice A4 b4.length c4, .slice A5 b5.length c5, .slice A6 b6.length c6, .int .i64 tm, .int .i64 vt, .int .i64 ix, .int .i64 n0, .int .i64 n1, .int .i64 n2, .int .i64 n3, .int .i64 n4, .slice A7 n5.length c7] 46)
  have hw1 := hw.kp ((Kp.refl w).alloc (.cells #[.int .i64 3, .int .i64 x0, .int .i64 x1, .int .i64 x2, .slice A0 x3.length c0, .int .i64 x4, .int .i64 x5, .int .i64 y0, .int .i64 y1, .int .i64 y2, .int .i64 y3, .int .i64 x7, .int .i64 x8, .int .i64 x9, .slice A1 b0.length c1, .int .i64 b1, .slice A2 b2.length c2, .slice A3 b3.length c3, .slice A4 b4.length c4, .slice A5 b5.length c5, .slice A6 b6.length c6, .int .i64 tm, .int .i64 vt, .int .i64 ix, .int .i64 n0, .int .i64 n1, .int .i64 n2, .int .i64 n3, .int .i64 n4, .slice A7 n5.length c7] 46))
  have hx1 := ((Kp.refl w).alloc (.cells #[.int .i64 3, .int .i64 x0, .int .i64 x1, .int .i64 x2, .slice A0 x3.length c0, .int .i64 x4, .int .i64 x5, .int .i64 y0, .int .i64 y1, .int .i64 y2, .int .i64 y3, .int .i64 x7, .int .i64 x8, .int .i64 x9, .slice A1 b0.length c1, .int .i64 b1, .slice A2 b2.length c2, .slice A3 b3.length c3, .slice A4 b4.length c4, .slice A5 b5.length c5, .slice A6 b6.length c6, .int .i64 tm, .int .i64 vt, .int .i64 ix, .int .i64 n0, .int .i64 n1, .int .i64 n2, .int .i64 n3, .int .i64 n4, .slice A7 n5.length c7] 46)).wx hw.lt
  obtain ⟨hB1, s1⟩ := hbx
  have d0 := hB1 0 _ rfl
  have d1 := hB1 1 _ rfl
  have d2 := hB1 2 _ rfl
  have d3 := hB1 3 _ rfl
  have d4 := hB1 4 _ rfl
  have d5 := hB1 5 _ rfl
  have d6 := hB1 6 _ rfl
  have d7 := hB1 7 _ rfl
  have d8 := hB1 8 _ rfl
  have d9 := hB1 9 _ rfl
  have d10 := hB1 10 _ rfl
  have d11 := hB1 11 _ rfl
  have d12 := hB1 12 _ rfl
  have d13 := hB1 13 _ rfl
  go_wp2_with fail
  try rw [← World.size_alloc w (.cells #[.int .i64 3, .int .i64 x0, .int .i64 x1, .int .i64 x2, .slice A0 x3.length c0, .int .i64 x4, .int .i64 x5, .int .i64 y0, .int .i64 y1, .int .i64 y2, .int .i64 y3, .int .i64 x7, .int .i64 x8, .int .i64 x9, .slice A1 b0.length c1, .int .i64 b1, .slice A2 b2.length c2, .slice A3 b3.length c3, .slice A4 b4.length c4, .slice A5 b5.length c5, .slice A6 b6.length c6, .int .i64 tm, .int .i64 vt, .int .i64 ix, .int .i64 n0, .int .i64 n1, .int .i64 n2, .int .i64 n3, .int .i64 n4, .slice A7 n5.length c7] 46)]
  generalize w.alloc (.cells #[.int .i64 3, .int .i64 x0, .int .i64 x1, .int .i64 x2, .slice A0 x3.length c0, .int .i64 x4, .int .i64 x5, .int .i64 y0, .int .i64 y1, .int .i64 y2, .int .i64 y3, .int .i64 x7, .int .i64 x8, .int .i64 x9, .slice A1 b0.length c1, .int .i64 b1, .slice A2 b2.length c2, .slice A3 b3.length c3, .slice A4 b4.length c4, .slice A5 b5.length c5, .slice A6 b6.length c6, .int .i64 tm, .int .i64 vt, .int .i64 ix, .int .i64 n0, .int .i64 n1, .int .i64 n2, .int .i64 n3, .int .i64 n4, .slice A7 n5.length c7] 46) = w1 at *
  generalize w.heap.size = h at *
  refine (wEvent_any W0 g _ _ ⟨x0, x1, x2, x3, x4, x5, ⟨y0, y1, y2, y3⟩, x7, x8, x9⟩ _ hk1 hw1 ⟨_, rfl, p0⟩ (by unfold Room at *; (try dsimp only at *); (try simp only [List.length_append, List.length_cons, List.length_nil] at *); omega)).mono ?_
  rintro e w2 ⟨rfl, hw2, hz2⟩
  have hx2 := hx1.trans hz2
  have hk2 := hx2.to_kp hk hw
  have hB2 := hB1.wx hz2 s1
  have s2 := s1.wx hz2
  clear hz2 hB1 s1 hx1 hk1
  clear d0 d1 d2 d3 d4 d5 d6 d7 d8 d9 d10 d11 d12 d13
  have d0 := hB2 0 _ rfl
  have d14 := hB2 14 _ rfl
  have d15 := hB2 15 _ rfl
  have d16 := hB2 16 _ rfl
  have d17 := hB2 17 _ rfl
  have d18 := hB2 18 _ rfl
  have d19 := hB2 19 _ rfl
  have d20 := hB2 20 _ rfl
  go_wp2_with fail
  refine (wBase_any W0 g _ _ ⟨b0, b1, b2, b3, b4, b5, b6⟩ _ hk2 hw2 ⟨_, _, _, _, _, _, rfl, p1, p2, p3, p4, p5, p6⟩ (by unfold Room at *; (try dsimp only at *); (try simp only [List.length_append, List.length_cons, List.length_nil] at *); omega)).mono ?_
  rintro e w3 ⟨rfl, hw3, hz3⟩
  have hx3 := hx2.trans hz3
  have hk3 := hx3.to_kp hk hw
  have hB3 := hB2.wx hz3 s2
  have s3 := s2.wx hz3
  clear hz3 hB2 s2 hx2 hk2
  clear d0 d14 d15 d16 d17 d18 d19 d20
  have d0 := hB3 0 _ rfl
  have d21 := hB3 21 _ rfl
  have d22 := hB3 22 _ rfl
  go_wp2_with fail
  refine (put_any W0 g _ [tm, vt] _ _ (hk3.alloc _) (hw3.kp ((Kp.refl _).alloc _)) ?hl (by unfold Room at *; (try dsimp only at *); (try simp only [List.length_append, List.length_cons, List.length_nil] at *); omega)).mono ?_
  case hl => exact litInts [tm, vt] _ rfl (by simp) _ rfl
  rintro e w4 ⟨rfl, hw4, hy4⟩
  have hz4 := (((Kp.refl w3).alloc _).wx hw3.lt).trans hy4
  clear hy4
  have hx4 := hx3.trans hz4
  have hk4 := hx4.to_kp hk hw
  have hB4 := hB3.wx hz4 s3
  have s4 := s3.wx hz4
  clear hz4 hB3 s3 hx3 hk3
  clear d0 d21 d22
  have d0 := hB4 0 _ rfl
  go_wp2
  go_end0
  exact ⟨rfl, by simpa [numPart] using hw4, hx4⟩

set_option maxHeartbeats 4000000 in
theorem wPart_4t (W0 : World) (g : Nat) (l : List Int) (val : Value) (x : Record) (w : World) (hk : Kp W0 w) (hw : Wr W0.heap.size w g l) (hv : RecordV W0 val x) (hroom : Room l (numPart x true).length) (hn : x.kind = 4) :
    Writes W0 g l (numPart x true) 80 #[.pointer (some ⟨g, 0, none⟩), val, .bool true] w := by
  obtain ⟨v0, v1, v2, v3, v4, v5, v6, v7, rfl, p0, p1, p2, p3, p4, p5, p6, p7⟩ := hv
  obtain ⟨A0, c0, rfl, hc0, hm0⟩ := p0.form
  clear hc0 hm0
  obtain ⟨A1, c1, rfl, hc1, hm1⟩ := p1.form
  clear hc1 hm1
  obtain ⟨A2, c2, rfl, hc2, hm2⟩ := p2.form
  clear hc2 hm2
  obtain ⟨A3, c3, rfl, hc3, hm3⟩ := p3.form
  clear hc3 hm3
  obtain ⟨A4, c4, rfl, hc4, hm4⟩ := p4.form
  clear hc4 hm4
  obtain ⟨A5, c5, rfl, hc5, hm5⟩ := p5.form
  clear hc5 hm5
  obtain ⟨A6, c6, rfl, hc6, hm6⟩ := p6.form
  clear hc6 hm6
  obtain ⟨A7, c7, rfl, hc7, hm7⟩ := p7.form
  clear hc7 hm7
  obtain ⟨kd, ⟨x0, x1, x2, x3, x4, x5, ⟨y0, y1, y2, y3⟩, x7, x8, x9⟩, ⟨b0, b1, b2, b3, b4, b5, b6⟩, tm, vt, ix, ⟨n0, n1, n2, n3, n4, n5⟩⟩ := x
  dsimp only at *
  subst hn
  simp [numPart] at hroom
  go_enter Try.func80, Try.ntmps80
  have hbx := box_new hw #[.int .i64 4, .int .i64 x0, .int .i64 x1, .int .i64 x2, .slice A0 x3.length c0, .int .i64 x4, .int .i64 x5, .int .i64 y0, .int .i64 y1, .int .i64 y2, .int .i64 y3, .int .i64 x7, .int .i64 x8, .int .i64 x9, .slice A1 b0.length c1, .int .i64 b1, .slice A2 b2.length c2, .slice A3 b3.length c3, .slice A4 b4.length c4, .slice A5 b5.length c5, .slice A6 b6.length c6, .int .i64 tm, .int .i64 vt, .int .i64 ix, .int .i64 n0, .int .i64 n1, .int .i64 n2, .int .i64 n3, .int .i64 n4, .slice A7 n5.length c7] 46
  have hk1 := hk.alloc (.cells #[.int .i64 4, .int .i64 x0, .int .i64 x1, .int .i64 x2, .slice A0 x3.length c0, .int .i64 x4, .int .i64 x5, .int .i64 y0, .int .i64 y1, .int .i64 y2, .int .i64 y3, .int .i64 x7, .int .i64 x8, .int .i64 x9, .slice A1 b0.length c1, .int .i64 b1, .slice A2 b2.length c2, .slice A3 b3.length c3, .slice A4 b4.length c4, .slice A5 b5.length c5, .slice A6 b6.length c6, .int .i64 tm, .int .i64 vt, .int .i64 ix, .int .i64 n0, .int .i64 n1, .int .i64 n2, .int .i64 n3, .int .i64 n4, .slice A7 n5.length c7] 46)
  have hw1 := hw.kp ((Kp.refl w).alloc (.cells #[.int .i64 4, .int .i64 x0, .int .i64 x1, .int .i64 x2, .slice A0 x3.length c0, .int .i64 x4, .int .i64 x5, .int .i64 y0, .int .i64 y1, .int .i64 y2, .int .i64 y3, .int .i64 x7, .int .i64 x8, .int .i64 x9, .slice A1 b0.length c1, .int .i64 b1, .slice A2 b2.length c2, .slice A3 b3.length c3, .slice A4 b4.length c4, .slice A5 b5.length c5, .slice A6 b6.length c6, .int .i64 tm, .int .i64 vt, .int .i64 ix, .int .i64 n0, .int .i64 n1, .int .i64 n2, .int .i64 n3, .int .i64 n4, .slice A7 n5.length c7] 46))
  have hx1 := ((Kp.refl w).alloc (.cells #[.int .i64 4, .int .i64 x0, .int .i64 x1, .int .i64 x2, .slice A0 x3.length c0, .int .i64 x4, .int .i64 x5, .int .i64 y0, .int .i64 y1, .int .i64 y2, .int .i64 y3, .int .i64 x7, .int .i64 x8, .int .i64 x9, .slice A1 b0.length c1, .int .i64 b1, .slice A2 b2.length c2, .slice A3 b3.length c3, .slice A4 b4.length c4, .slice A5 b5.length c5, .slice A6 b6.length c6, .int .i64 tm, .int .i64 vt, .int .i64 ix, .int .i64 n0, .int .i64 n1, .int .i64 n2, .int .i64 n3, .int .i64 n4, .slice A7 n5.length c7] 46)).wx hw.lt
  obtain ⟨hB1, s1⟩ := hbx
  have d0 := hB1 0 _ rfl
  have d23 := hB1 23 _ rfl
  go_wp2_with fail
  try rw [← World.size_alloc w (.cells #[.int .i64 4, .int .i64 x0, .int .i64 x1, .int .i64 x2, .slice A0 x3.length c0, .int .i64 x4, .int .i64 x5, .int .i64 y0, .int .i64 y1, .int .i64 y2, .int .i64 y3, .int .i64 x7, .int .i64 x8, .int .i64 x9, .slice A1 b0.length c1, .int .i64 b1, .slice A2 b2.length c2, .slice A3 b3.length c3, .slice A4 b4.length c4, .slice A5 b5.length c5, .slice A6 b6.length c6, .int .i64 tm, .int .i64 vt, .int .i64 ix, .int .i64 n0, .int .i64 n1, .int .i64 n2, .int .i64 n3, .int .i64 n4, .slice A7 n5.length c7] 46)]
  generalize w.alloc (.cells #[.int .i64 4, .int .i64 x0, .int .i64 x1, .int .i64 x2, .slice A0 x3.length c0, .int .i64 x4, .int .i64 x5, .int .i64 y0, .int .i64 y1, .int .i64 y2, .int .i64 y3, .int .i64 x7, .int .i64 x8, .int .i64 x9, .slice A1 b0.length c1, .int .i64 b1, .slice A2 b2.length c2, .slice A3 b3.length c3, .slice A4 b4.length c4, .slice A5 b5.length c5, .slice A6 b6.length c6, .int .i64 tm, .int .i64 vt, .int .i64 ix, .int .i64 n0, .int .i64 n1, .int .i64 n2, .int .i64 n3, .int .i64 n4, .slice A7 n5.length c7] 46) = w1 at *
  generalize w.heap.size = h at *
  refine (put_any W0 g _ [ix] _ _ (hk1.alloc _) (hw1.kp ((Kp.refl _).alloc _)) ?hl (by unfold Room at *; (try dsimp only at *); (try simp only [List.length_append, List.length_cons, List.length_nil] at *); omega)).mono ?_
  case hl => exact litInts [ix] _ rfl (by simp) _ rfl
  rintro e w2 ⟨rfl, hw2, hy2⟩
  have hz2 := (((Kp.refl w1).alloc _).wx hw1.lt).trans hy2
  clear hy2
  have hx2 := hx1.trans hz2
  have hk2 := hx2.to_kp hk hw
  have hB2 := hB1.wx hz2 s1
  have s2 := s1.wx hz2
  clear hz2 hB1 s1 hx1 hk1
  clear d0 d23
  have d0 := hB2 0 _ rfl
  go_wp2
  go_end0
  exact ⟨rfl, by simpa [numPart] using hw2, hx2⟩

set_option maxHeartbeats 4000000 in
theorem wPart_4f (W0 : World) (g : Nat) (l : List Int) (val : Value) (x : Record) (w : World) (hk : Kp W0 w) (hw : Wr W0.heap.size w g l) (hv : RecordV W0 val x) (hroom : Room l (numPart x false).length) (hn : x.kind = 4) :
    Writes W0 g l (numPart x false) 80 #[.pointer (some ⟨g, 0, none⟩), val, .bool false] w := by
  obtain ⟨v0, v1, v2, v3, v4, v5, v6, v7, rfl, p0, p1, p2, p3, p4, p5, p6, p7⟩ := hv
  obtain ⟨A0, c0, rfl, hc0, hm0⟩ := p0.form
  clear hc0 hm0
  obtain ⟨A1, c1, rfl, hc1, hm1⟩ := p1.form
  clear hc1 hm1
  obtain ⟨A2, c2, rfl, hc2, hm2⟩ := p2.form
  clear hc2 hm2
  obtain ⟨A3, c3, rfl, hc3, hm3⟩ := p3.form
  clear hc3 hm3
  obtain ⟨A4, c4, rfl, hc4, hm4⟩ := p4.form
  clear hc4 hm4
  obtain ⟨A5, c5, rfl, hc5, hm5⟩ := p5.form
  clear hc5 hm5
  obtain ⟨A6, c6, rfl, hc6, hm6⟩ := p6.form
  clear hc6 hm6
  obtain ⟨A7, c7, rfl, hc7, hm7⟩ := p7.form
  clear hc7 hm7
  obtain ⟨kd, ⟨x0, x1, x2, x3, x4, x5, ⟨y0, y1, y2, y3⟩, x7, x8, x9⟩, ⟨b0, b1, b2, b3, b4, b5, b6⟩, tm, vt, ix, ⟨n0, n1, n2, n3, n4, n5⟩⟩ := x
  dsimp only at *
  subst hn
  simp [numPart] at hroom
  go_enter Try.func80, Try.ntmps80
  have hbx := box_new hw #[.int .i64 4, .int .i64 x0, .int .i64 x1, .int .i64 x2, .slice A0 x3.length c0, .int .i64 x4, .int .i64 x5, .int .i64 y0, .int .i64 y1, .int .i64 y2, .int .i64 y3, .int .i64 x7, .int .i64 x8, .int .i64 x9, .slice A1 b0.length c1, .int .i64 b1, .slice A2 b2.length c2, .slice A3 b3.length c3, .slice A4 b4.length c4, .slice A5 b5.length c5, .slice A6 b6.length c6, .int .i64 tm, .int .i64 vt, .int .i64 ix, .int .i64 n0, .int .i64 n1, .int .i64 n2, .int .i64 n3, .int .i64 n4, .slice A7 n5.length c7] 46
  have hk1 := hk.alloc (.cells #[.int .i64 4, .int .i64 x0, .int .i64 x1, .int .i64 x2, .slice A0 x3.length c0, .int .i64 x4, .int .i64 x5, .int .i64 y0, .int .i64 y1, .int .i64 y2, .int .i64 y3, .int .i64 x7, .int .i64 x8, .int .i64 x9, .slice A1 b0.length c1, .int .i64 b1, .slice A2 b2.length c2, .slice A3 b3.length c3, .slice A4 b4.length c4, .slice A5 b5.length c5, .slice A6 b6.length c6, .int .i64 tm, .int .i64 vt, .int .i64 ix, .int .i64 n0, .int .i64 n1, .int .i64 n2, .int .i64 n3, .int .i64 n4, .slice A7 n5.length c7] 46)
  have hw1 := hw.kp ((Kp.refl w).alloc (.cells #[.int .i64 4, .int .i64 x0, .int .i64 x1, .int .i64 x2, .slice A0 x3.length c0, .int .i64 x4, .int .i64 x5, .int .i64 y0, .int .i64 y1, .int .i64 y2, .int .i64 y3, .int .i64 x7, .int .i64 x8, .int .i64 x9, .slice A1 b0.length c1, .int .i64 b1, .slice A2 b2.length c2, .slice A3 b3.length c3, .slice A4 b4.length c4, .slice A5 b5.length c5, .slice A6 b6.length c6, .int .i64 tm, .int .i64 vt, .int .i64 ix, .int .i64 n0, .int .i64 n1, .int .i64 n2, .int .i64 n3, .int .i64 n4, .slice A7 n5.length c7] 46))
  have hx1 := ((Kp.refl w).alloc (.cells #[.int .i64 4, .int .i64 x0, .int .i64 x1, .int .i64 x2, .slice A0 x3.length c0, .int .i64 x4, .int .i64 x5, .int .i64 y0, .int .i64 y1, .int .i64 y2, .int .i64 y3, .int .i64 x7, .int .i64 x8, .int .i64 x9, .slice A1 b0.length c1, .int .i64 b1, .slice A2 b2.length c2, .slice A3 b3.length c3, .slice A4 b4.length c4, .slice A5 b5.length c5, .slice A6 b6.length c6, .int .i64 tm, .int .i64 vt, .int .i64 ix, .int .i64 n0, .int .i64 n1, .int .i64 n2, .int .i64 n3, .int .i64 n4, .slice A7 n5.length c7] 46)).wx hw.lt
  obtain ⟨hB1, s1⟩ := hbx
  have d0 := hB1 0 _ rfl
  have d1 := hB1 1 _ rfl
  have d2 := hB1 2 _ rfl
  have d3 := hB1 3 _ rfl
  have d4 := hB1 4 _ rfl
  have d5 := hB1 5 _ rfl
  have d6 := hB1 6 _ rfl
  have d7 := hB1 7 _ rfl
  have d8 := hB1 8 _ rfl
  have d9 := hB1 9 _ rfl
  have d10 := hB1 10 _ rfl
  have d11 := hB1 11 _ rfl
  have d12 := hB1 12 _ rfl
  have d13 := hB1 13 _ rfl
  go_wp2_with fail
  try rw [← World.size_alloc w (.cells #[.int .i64 4, .int .i64 x0, .int .i64 x1, .int .i64 x2, .slice A0 x3.length c0, .int .i64 x4, .int .i64 x5, .int .i64 y0, .int .i64 y1, .int .i64 y2, .int .i64 y3, .int .i64 x7, .int .i64 x8, .int .i64 x9, .slice A1 b0.length c1, .int .i64 b1, .slice A2 b2.length c2, .slice A3 b3.length c3, .slice A4 b4.length c4, .slice A5 b5.length c5, .slice A6 b6.length c6, .int .i64 tm, .int .i64 vt, .int .i64 ix, .int .i64 n0, .int .i64 n1, .int .i64 n2, .int .i64 n3, .int .i64 n4, .slice A7 n5.length c7] 46)]
  generalize w.alloc (.cells #[.int .i64 4, .int .i64 x0, .int .i64 x1, .int .i64 x2, .slice A0 x3.length c0, .int .i64 x4, .int .i64 x5, .int .i64 y0, .int .i64 y1, .int .i64 y2, .int .i64 y3, .int .i64 x7, .int .i64 x8, .int .i64 x9, .slice A1 b0.length c1, .int .i64 b1, .slice A2 b2.length c2, .slice A3 b3.length c3, .slice A4 b4.length c4, .slice A5 b5.length c5, .slice A6 b6.length c6, .int .i64 tm, .int .i64 vt, .int .i64 ix, .int .i64 n0, .int .i64 n1, .int .i64 n2, .int .i64 n3, .int .i64 n4, .slice A7 n5.length c7] 46) = w1 at *
  generalize w.heap.size = h at *
  refine (wEvent_any W0 g _ _ ⟨x0, x1, x2, x3, x4, x5, ⟨y0, y1, y2, y3⟩, x7, x8, x9⟩ _ hk1 hw1 ⟨_, rfl, p0⟩ (by unfold Room at *; (try dsimp only at *); (try simp only [List.length_append, List.length_cons, List.length_nil] at *); omega)).mono ?_
  rintro e w2 ⟨rfl, hw2, hz2⟩
  have hx2 := hx1.trans hz2
  have hk2 := hx2.to_kp hk hw
  have hB2 := hB1.wx hz2 s1
  have s2 := s1.wx hz2
  clear hz2 hB1 s1 hx1 hk1
  clear d0 d1 d2 d3 d4 d5 d6 d7 d8 d9 d10 d11 d12 d13
  have d0 := hB2 0 _ rfl
  have d14 := hB2 14 _ rfl
  have d15 := hB2 15 _ rfl
  have d16 := hB2 16 _ rfl
  have d17 := hB2 17 _ rfl
  have d18 := hB2 18 _ rfl
  have d19 := hB2 19 _ rfl
  have d20 := hB2 20 _ rfl
  go_wp2_with fail
  refine (wBase_any W0 g _ _ ⟨b0, b1, b2, b3, b4, b5, b6⟩ _ hk2 hw2 ⟨_, _, _, _, _, _, rfl, p1, p2, p3, p4, p5, p6⟩ (by unfold Room at *; (try dsimp only at *); (try simp only [List.length_append, List.length_cons, List.length_nil] at *); omega)).mono ?_
  rintro e w3 ⟨rfl, hw3, hz3⟩
  have hx3 := hx2.trans hz3
  have hk3 := hx3.to_kp hk hw
  have hB3 := hB2.wx hz3 s2
  have s3 := s2.wx hz3
  clear hz3 hB2 s2 hx2 hk2
  clear d0 d14 d15 d16 d17 d18 d19 d20
  have d0 := hB3 0 _ rfl
  have d21 := hB3 21 _ rfl
  have d22 := hB3 22 _ rfl
  go_wp2_with fail
  refine (put_any W0 g _ [tm, vt] _ _ (hk3.alloc _) (hw3.kp ((Kp.refl _).alloc _)) ?hl (by unfold Room at *; (try dsimp only at *); (try simp only [List.length_append, List.length_cons, List.length_nil] at *); omega)).mono ?_
  case hl => exact litInts [tm, vt] _ rfl (by simp) _ rfl
  rintro e w4 ⟨rfl, hw4, hy4⟩
  have hz4 := (((Kp.refl w3).alloc _).wx hw3.lt).trans hy4
  clear hy4
  have hx4 := hx3.trans hz4
  have hk4 := hx4.to_kp hk hw
  have hB4 := hB3.wx hz4 s3
  have s4 := s3.wx hz4
  clear hz4 hB3 s3 hx3 hk3
  clear d0 d21 d22
  have d0 := hB4 0 _ rfl
  have d24 := hB4 24 _ rfl
  have d25 := hB4 25 _ rfl
  have d26 := hB4 26 _ rfl
  have d27 := hB4 27 _ rfl
  have d28 := hB4 28 _ rfl
  have d29 := hB4 29 _ rfl
  go_wp2_with fail
  refine (wEntry_any W0 g _ _ ⟨n0, n1, n2, n3, n4, n5⟩ _ hk4 hw4 ⟨_, rfl, p7⟩ (by unfold Room at *; (try dsimp only at *); (try simp only [List.length_append, List.length_cons, List.length_nil] at *); omega)).mono ?_
  rintro e w5 ⟨rfl, hw5, hz5⟩
  have hx5 := hx4.trans hz5
  have hk5 := hx5.to_kp hk hw
  have hB5 := hB4.wx hz5 s4
  have s5 := s4.wx hz5
  clear hz5 hB4 s4 hx4 hk4
  clear d0 d24 d25 d26 d27 d28 d29
  have d0 := hB5 0 _ rfl
  go_wp2
  go_end0
  exact ⟨rfl, by simpa [numPart] using hw5, hx5⟩

set_option maxHeartbeats 4000000 in
theorem wPart_ot (W0 : World) (g : Nat) (l : List Int) (val : Value) (x : Record) (w : World) (hk : Kp W0 w) (hw : Wr W0.heap.size w g l) (hv : RecordV W0 val x) (hroom : Room l (numPart x true).length) (hn : x.kind ≠ 0 ∧ x.kind ≠ 1 ∧ x.kind ≠ 2 ∧ x.kind ≠ 3 ∧ x.kind ≠ 4) :
    Writes W0 g l (numPart x true) 80 #[.pointer (some ⟨g, 0, none⟩), val, .bool true] w := by
  obtain ⟨v0, v1, v2, v3, v4, v5, v6, v7, rfl, p0, p1, p2, p3, p4, p5, p6, p7⟩ := hv
  obtain ⟨A0, c0, rfl, hc0, hm0⟩ := p0.form
  clear hc0 hm0
  obtain ⟨A1, c1, rfl, hc1, hm1⟩ := p1.form
  clear hc1 hm1
  obtain ⟨A2, c2, rfl, hc2, hm2⟩ := p2.form
  clear hc2 hm2
  obtain ⟨A3, c3, rfl, hc3, hm3⟩ := p3.form
  clear hc3 hm3
  obtain ⟨A4, c4, rfl, hc4, hm4⟩ := p4.form
  clear hc4 hm4
  obtain ⟨A5, c5, rfl, hc5, hm5⟩ := p5.form
  clear hc5 hm5
  obtain ⟨A6, c6, rfl, hc6, hm6⟩ := p6.form
  clear hc6 hm6
  obtain ⟨A7, c7, rfl, hc7, hm7⟩ := p7.form
  clear hc7 hm7
  obtain ⟨kd, ⟨x0, x1, x2, x3, x4, x5, ⟨y0, y1, y2, y3⟩, x7, x8, x9⟩, ⟨b0, b1, b2, b3, b4, b5, b6⟩, tm, vt, ix, ⟨n0, n1, n2, n3, n4, n5⟩⟩ := x
  dsimp only at *
  obtain ⟨hn0, hn1, hn2, hn3, hn4⟩ := hn
  have he0 : (kd == 0) = false := by simp [hn0]
  have he1 : (kd == 1) = false := by simp [hn1]
  have he2 : (kd == 2) = false := by simp [hn2]
  have he3 : (kd == 3) = false := by simp [hn3]
  have he4 : (kd == 4) = false := by simp [hn4]
  simp [numPart, hn0, hn1, hn2, hn3, hn4] at hroom
  go_enter Try.func80, Try.ntmps80
  have hbx := box_new hw #[.int .i64 kd, .int .i64 x0, .int .i64 x1, .int .i64 x2, .slice A0 x3.length c0, .int .i64 x4, .int .i64 x5, .int .i64 y0, .int .i64 y1, .int .i64 y2, .int .i64 y3, .int .i64 x7, .int .i64 x8, .int .i64 x9, .slice A1 b0.length c1, .int .i64 b1, .slice A2 b2.length c2, .slice A3 b3.length c3, .slice A4 b4.length c4, .slice A5 b5.length c5, .slice A6 b6.length c6, .int .i64 tm, .int .i64 vt, .int .i64 ix, .int .i64 n0, .int .i64 n1, .int .i64 n2, .int .i64 n3, .int .i64 n4, .slice A7 n5.length c7] 46
  have hk1 := hk.alloc (.cells #[.int .i64 kd, .int .i64 x0, .int .i64 x1, .int .i64 x2, .slice A0 x3.length c0, .int .i64 x4, .int .i64 x5, .int .i64 y0, .int .i64 y1, .int .i64 y2, .int .i64 y3, .int .i64 x7, .int .i64 x8, .int .i64 x9, .slice A1 b0.length c1, .int .i64 b1, .slice A2 b2.length c2, .slice A3 b3.length c3, .slice A4 b4.length c4, .slice A5 b5.length c5, .slice A6 b6.length c6, .int .i64 tm, .int .i64 vt, .int .i64 ix, .int .i64 n0, .int .i64 n1, .int .i64 n2, .int .i64 n3, .int .i64 n4, .slice A7 n5.length c7] 46)
  have hw1 := hw.kp ((Kp.refl w).alloc (.cells #[.int .i64 kd, .int .i64 x0, .int .i64 x1, .int .i64 x2, .slice A0 x3.length c0, .int .i64 x4, .int .i64 x5, .int .i64 y0, .int .i64 y1, .int .i64 y2, .int .i64 y3, .int .i64 x7, .int .i64 x8, .int .i64 x9, .slice A1 b0.length c1, .int .i64 b1, .slice A2 b2.length c2, .slice A3 b3.length c3, .slice A4 b4.length c4, .slice A5 b5.length c5, .slice A6 b6.length c6, .int .i64 tm, .int .i64 vt, .int .i64 ix, .int .i64 n0, .int .i64 n1, .int .i64 n2, .int .i64 n3, .int .i64 n4, .slice A7 n5.length c7] 46))
  have hx1 := ((Kp.refl w).alloc (.cells #[.int .i64 kd, .int .i64 x0, .int .i64 x1, .int .i64 x2, .slice A0 x3.length c0, .int .i64 x4, .int .i64 x5, .int .i64 y0, .int .i64 y1, .int .i64 y2, .int .i64 y3, .int .i64 x7, .int .i64 x8, .int .i64 x9, .slice A1 b0.length c1, .int .i64 b1, .slice A2 b2.length c2, .slice A3 b3.length c3, .slice A4 b4.length c4, .slice A5 b5.length c5, .slice A6 b6.length c6, .int .i64 tm, .int .i64 vt, .int .i64 ix, .int .i64 n0, .int .i64 n1, .int .i64 n2, .int .i64 n3, .int .i64 n4, .slice A7 n5.length c7] 46)).wx hw.lt
  obtain ⟨hB1, s1⟩ := hbx
  have d0 := hB1 0 _ rfl
  go_wp2
  go_end0
  exact ⟨rfl, by simpa [numPart, hn0, hn1, hn2, hn3, hn4] using hw1, hx1⟩

set_option maxHeartbeats 4000000 in
theorem wPart_of (W0 : World) (g : Nat) (l : List Int) (val : Value) (x : Record) (w : World) (hk : Kp W0 w) (hw : Wr W0.heap.size w g l) (hv : RecordV W0 val x) (hroom : Room l (numPart x false).length) (hn : x.kind ≠ 0 ∧ x.kind ≠ 1 ∧ x.kind ≠ 2 ∧ x.kind ≠ 3 ∧ x.kind ≠ 4) :
    Writes W0 g l (numPart x false) 80 #[.pointer (some ⟨g, 0, none⟩), val, .bool false] w := by
  obtain ⟨v0, v1, v2, v3, v4, v5, v6, v7, rfl, p0, p1, p2, p3, p4, p5, p6, p7⟩ := hv
  obtain ⟨A0, c0, rfl, hc0, hm0⟩ := p0.form
  clear hc0 hm0
  obtain ⟨A1, c1, rfl, hc1, hm1⟩ := p1.form
  clear hc1 hm1
  obtain ⟨A2, c2, rfl, hc2, hm2⟩ := p2.form
  clear hc2 hm2
  obtain ⟨A3, c3, rfl, hc3, hm3⟩ := p3.form
  clear hc3 hm3
  obtain ⟨A4, c4, rfl, hc4, hm4⟩ := p4.form
  clear hc4 hm4
  obtain ⟨A5, c5, rfl, hc5, hm5⟩ := p5.form
  clear hc5 hm5
  obtain ⟨A6, c6, rfl, hc6, hm6⟩ := p6.form
  clear hc6 hm6
  obtain ⟨A7, c7, rfl, hc7, hm7⟩ := p7.form
  clear hc7 hm7
  obtain ⟨kd, ⟨x0, x1, x2, x3, x4, x5, ⟨y0, y1, y2, y3⟩, x7, x8, x9⟩, ⟨b0, b1, b2, b3, b4, b5, b6⟩, tm, vt, ix, ⟨n0, n1, n2, n3, n4, n5⟩⟩ := x
  dsimp only at *
  obtain ⟨hn0, hn1, hn2, hn3, hn4⟩ := hn
  have he0 : (kd == 0) = false := by simp [hn0]
  have he1 : (kd == 1) = false := by simp [hn1]
  have he2 : (kd == 2) = false := by simp [hn2]
  have he3 : (kd == 3) = false := by simp [hn3]
  have he4 : (kd == 4) = false := by simp [hn4]
  simp [numPart, hn0, hn1, hn2, hn3, hn4] at hroom
  go_enter Try.func80, Try.ntmps80
  have hbx := box_new hw #[.int .i64 kd, .int .i64 x0, .int .i64 x1, .int .i64 x2, .slice A0 x3.length c0, .int .i64 x4, .int .i64 x5, .int .i64 y0, .int .i64 y1, .int .i64 y2, .int .i64 y3, .int .i64 x7, .int .i64 x8, .int .i64 x9, .slice A1 b0.length c1, .int .i64 b1, .slice A2 b2.length c2, .slice A3 b3.length c3, .slice A4 b4.length c4, .slice A5 b5.length c5, .slice A6 b6.length c6, .int .i64 tm, .int .i64 vt, .int .i64 ix, .int .i64 n0, .int .i64 n1, .int .i64 n2, .int .i64 n3, .int .i64 n4, .slice A7 n5.length c7] 46
  have hk1 := hk.alloc (.cells #[.int .i64 kd, .int .i64 x0, .int .i64 x1, .int .i64 x2, .slice A0 x3.length c0, .int .i64 x4, .int .i64 x5, .int .i64 y0, .int .i64 y1, .int .i64 y2, .int .i64 y3, .int .i64 x7, .int .i64 x8, .int .i64 x9, .slice A1 b0.length c1, .int .i64 b1, .slice A2 b2.length c2, .slice A3 b3.length c3, .slice A4 b4.length c4, .slice A5 b5.length c5, .slice A6 b6.length c6, .int .i64 tm, .int .i64 vt, .int .i64 ix, .int .i64 n0, .int .i64 n1, .int .i64 n2, .int .i64 n3, .int .i64 n4, .slice A7 n5.length c7] 46)
  have hw1 := hw.kp ((Kp.refl w).alloc (.cells #[.int .i64 kd, .int .i64 x0, .int .i64 x1, .int .i64 x2, .slice A0 x3.length c0, .int .i64 x4, .int .i64 x5, .int .i64 y0, .int .i64 y1, .int .i64 y2, .int .i64 y3, .int .i64 x7, .int .i64 x8, .int .i64 x9, .slice A1 b0.length c1, .int .i64 b1, .slice A2 b2.length c2, .slice A3 b3.length c3, .slice A4 b4.length c4, .slice A5 b5.length c5, .slice A6 b6.length c6, .int .i64 tm, .int .i64 vt, .int .i64 ix, .int .i64 n0, .int .i64 n1, .int .i64 n2, .int .i64 n3, .int .i64 n4, .slice A7 n5.length c7] 46))
  have hx1 := ((Kp.refl w).alloc (.cells #[.int .i64 kd, .int .i64 x0, .int .i64 x1, .int .i64 x2, .slice A0 x3.length c0, .int .i64 x4, .int .i64 x5, .int .i64 y0, .int .i64 y1, .int .i64 y2, .int .i64 y3, .int .i64 x7, .int .i64 x8, .int .i64 x9, .slice A1 b0.length c1, .int .i64 b1, .slice A2 b2.length c2, .slice A3 b3.length c3, .slice A4 b4.length c4, .slice A5 b5.length c5, .slice A6 b6.length c6, .int .i64 tm, .int .i64 vt, .int .i64 ix, .int .i64 n0, .int .i64 n1, .int .i64 n2, .int .i64 n3, .int .i64 n4, .slice A7 n5.length c7] 46)).wx hw.lt
  obtain ⟨hB1, s1⟩ := hbx
  have d0 := hB1 0 _ rfl
  have d1 := hB1 1 _ rfl
  have d2 := hB1 2 _ rfl
  have d3 := hB1 3 _ rfl
  have d4 := hB1 4 _ rfl
  have d5 := hB1 5 _ rfl
  have d6 := hB1 6 _ rfl
  have d7 := hB1 7 _ rfl
  have d8 := hB1 8 _ rfl
  have d9 := hB1 9 _ rfl
  have d10 := hB1 10 _ rfl
  have d11 := hB1 11 _ rfl
  have d12 := hB1 12 _ rfl
  have d13 := hB1 13 _ rfl
  go_wp2_with fail
  try rw [← World.size_alloc w (.cells #[.int .i64 kd, .int .i64 x0, .int .i64 x1, .int .i64 x2, .slice A0 x3.length c0, .int .i64 x4, .int .i64 x5, .int .i64 y0, .int .i64 y1, .int .i64 y2, .int .i64 y3, .int .i64 x7, .int .i64 x8, .int .i64 x9, .slice A1 b0.length c1, .int .i64 b1, .slice A2 b2.length c2, .slice A3 b3.length c3, .slice A4 b4.length c4, .slice A5 b5.length c5, .slice A6 b6.length c6, .int .i64 tm, .int .i64 vt, .int .i64 ix, .int .i64 n0, .int .i64 n1, .int .i64 n2, .int .i64 n3, .int .i64 n4, .slice A7 n5.length c7] 46)]
  generalize w.alloc (.cells #[.int .i64 kd, .int .i64 x0, .int .i64 x1, .int .i64 x2, .slice A0 x3.length c0, .int .i64 x4, .int .i64 x5, .int .i64 y0, .int .i64 y1, .int .i64 y2, .int .i64 y3, .int .i64 x7, .int .i64 x8, .int .i64 x9, .slice A1 b0.length c1, .int .i64 b1, .slice A2 b2.length c2, .slice A3 b3.length c3, .slice A4 b4.length c4, .slice A5 b5.length c5, .slice A6 b6.length c6, .int .i64 tm, .int .i64 vt, .int .i64 ix, .int .i64 n0, .int .i64 n1, .int .i64 n2, .int .i64 n3, .int .i64 n4, .slice A7 n5.length c7] 46) = w1 at *
  generalize w.heap.size = h at *
  refine (wEvent_any W0 g _ _ ⟨x0, x1, x2, x3, x4, x5, ⟨y0, y1, y2, y3⟩, x7, x8, x9⟩ _ hk1 hw1 ⟨_, rfl, p0⟩ (by unfold Room at *; (try dsimp only at *); (try simp only [List.length_append, List.length_cons, List.length_nil] at *); omega)).mono ?_
  rintro e w2 ⟨rfl, hw2, hz2⟩
  have hx2 := hx1.trans hz2
  have hk2 := hx2.to_kp hk hw
  have hB2 := hB1.wx hz2 s1
  have s2 := s1.wx hz2
  clear hz2 hB1 s1 hx1 hk1
  clear d0 d1 d2 d3 d4 d5 d6 d7 d8 d9 d10 d11 d12 d13
  have d0 := hB2 0 _ rfl
  have d14 := hB2 14 _ rfl
  have d15 := hB2 15 _ rfl
  have d16 := hB2 16 _ rfl
  have d17 := hB2 17 _ rfl
  have d18 := hB2 18 _ rfl
  have d19 := hB2 19 _ rfl
  have d20 := hB2 20 _ rfl
  go_wp2_with fail
  refine (wBase_any W0 g _ _ ⟨b0, b1, b2, b3, b4, b5, b6⟩ _ hk2 hw2 ⟨_, _, _, _, _, _, rfl, p1, p2, p3, p4, p5, p6⟩ (by unfold Room at *; (try dsimp only at *); (try simp only [List.length_append, List.length_cons, List.length_nil] at *); omega)).mono ?_
  rintro e w3 ⟨rfl, hw3, hz3⟩
  have hx3 := hx2.trans hz3
  have hk3 := hx3.to_kp hk hw
  have hB3 := hB2.wx hz3 s2
  have s3 := s2.wx hz3
  clear hz3 hB2 s2 hx2 hk2
  clear d0 d14 d15 d16 d17 d18 d19 d20
  have d0 := hB3 0 _ rfl
  have d21 := hB3 21 _ rfl
  have d22 := hB3 22 _ rfl
  go_wp2_with fail
  refine (put_any W0 g _ [tm, vt] _ _ (hk3.alloc _) (hw3.kp ((Kp.refl _).alloc _)) ?hl (by unfold Room at *; (try dsimp only at *); (try simp only [List.length_append, List.length_cons, List.length_nil] at *); omega)).mono ?_
  case hl => exact litInts [tm, vt] _ rfl (by simp) _ rfl
  rintro e w4 ⟨rfl, hw4, hy4⟩
  have hz4 := (((Kp.refl w3).alloc _).wx hw3.lt).trans hy4
  clear hy4
  have hx4 := hx3.trans hz4
  have hk4 := hx4.to_kp hk hw
  have hB4 := hB3.wx hz4 s3
  have s4 := s3.wx hz4
  clear hz4 hB3 s3 hx3 hk3
  clear d0 d21 d22
  have d0 := hB4 0 _ rfl
  have d23 := hB4 23 _ rfl
  go_wp2_with fail
  refine (put_any W0 g _ [ix] _ _ (hk4.alloc _) (hw4.kp ((Kp.refl _).alloc _)) ?hl (by unfold Room at *; (try dsimp only at *); (try simp only [List.length_append, List.length_cons, List.length_nil] at *); omega)).mono ?_
  case hl => exact litInts [ix] _ rfl (by simp) _ rfl
  rintro e w5 ⟨rfl, hw5, hy5⟩
  have hz5 := (((Kp.refl w4).alloc _).wx hw4.lt).trans hy5
  clear hy5
  have hx5 := hx4.trans hz5
  have hk5 := hx5.to_kp hk hw
  have hB5 := hB4.wx hz5 s4
  have s5 := s4.wx hz5
  clear hz5 hB4 s4 hx4 hk4
  clear d0 d23
  have d0 := hB5 0 _ rfl
  have d24 := hB5 24 _ rfl
  have d25 := hB5 25 _ rfl
  have d26 := hB5 26 _ rfl
  have d27 := hB5 27 _ rfl
  have d28 := hB5 28 _ rfl
  have d29 := hB5 29 _ rfl
  go_wp2_with fail
  refine (wEntry_any W0 g _ _ ⟨n0, n1, n2, n3, n4, n5⟩ _ hk5 hw5 ⟨_, rfl, p7⟩ (by unfold Room at *; (try dsimp only at *); (try simp only [List.length_append, List.length_cons, List.length_nil] at *); omega)).mono ?_
  rintro e w6 ⟨rfl, hw6, hz6⟩
  have hx6 := hx5.trans hz6
  have hk6 := hx6.to_kp hk hw
  have hB6 := hB5.wx hz6 s5
  have s6 := s5.wx hz6
  clear hz6 hB5 s5 hx5 hk5
  clear d0 d24 d25 d26 d27 d28 d29
  have d0 := hB6 0 _ rfl
  go_wp2
  go_end0
  exact ⟨rfl, by simpa [numPart, hn0, hn1, hn2, hn3, hn4] using hw6, hx6⟩

theorem wPart_any (W0 : World) (g : Nat) (l : List Int) (val : Value) (x : Record) (named : Bool) (w : World) (hk : Kp W0 w) (hw : Wr W0.heap.size w g l) (hv : RecordV W0 val x) (hroom : Room l (numPart x named).length) :
    Writes W0 g l (numPart x named) 80 #[.pointer (some ⟨g, 0, none⟩), val, .bool named] w := by
  by_cases h0 : x.kind = 0
  · cases named
    · exact wPart_0f W0 g l val x w hk hw hv hroom h0
    · exact wPart_0t W0 g l val x w hk hw hv hroom h0
  by_cases h1 : x.kind = 1
  · cases named
    · exact wPart_1f W0 g l val x w hk hw hv hroom h1
    · exact wPart_1t W0 g l val x w hk hw hv hroom h1
  by_cases h2 : x.kind = 2
  · cases named
    · exact wPart_2f W0 g l val x w hk hw hv hroom h2
    · exact wPart_2t W0 g l val x w hk hw hv hroom h2
  by_cases h3 : x.kind = 3
  · cases named
    · exact wPart_3f W0 g l val x w hk hw hv hroom h3
    · exact wPart_3t W0 g l val x w hk hw hv hroom h3
  by_cases h4 : x.kind = 4
  · cases named
    · exact wPart_4f W0 g l val x w hk hw hv hroom h4
    · exact wPart_4t W0 g l val x w hk hw hv hroom h4
  cases named
  · exact wPart_of W0 g l val x w hk hw hv hroom ⟨h0, h1, h2, h3, h4⟩
  · exact wPart_ot W0 g l val x w hk hw hv hroom ⟨h0, h1, h2, h3, h4⟩
end Go.Proofs.Ytmeafoakbkjifaa
