
/-
The writer: a message.
-/
import Derived.Test.YtmeafoakbkjifaaCodW9
import Derived.Test.YtmeafoakbkjifaaTail1
namespace Go.Proofs.Ytmeafoakbkjifaa
set_option linter.unusedSimpArgs false
set_option linter.unusedVariables false
open Go.RowKit

/-- how a message lies as a value -/
def MessageV (w : World) (val : Value) (m : Message) : Prop :=
  ∃ v3 v4 v5 v6 v7, val = .agg #[.int .i64 m.kind, .int .i64 m.sender, .int .i64 m.to, v3, v4, v5, .int .i64 m.ask.number, .int .i64 m.ask.place, .int .i64 m.ask.time, .int .i64 m.ask.replica, .int .i64 m.ask.serial, v6, .int .i64 m.term, .int .i64 m.index, .int .i64 m.logTerm, .int .i64 m.commit, .bool m.granted, v7] ∧
    Ints w v3 m.clock ∧ Events w v4 m.events ∧ Spans w v5 m.spans ∧ Needs w v6 m.ask.needs ∧ Entries w v7 m.entries
set_option maxHeartbeats 4000000 in
theorem wMessage_any (W0 : World) (g : Nat) (l : List Int) (val : Value) (x : Message) (w : World) (hk : Kp W0 w) (hw : Wr W0.heap.size w g l) (hv : MessageV W0 val x) (hroom : Room l (numMessage x).length) :
    Writes W0 g l (numMessage x) 78 #[.pointer (some ⟨g, 0, none⟩), val] w := by
  obtain ⟨v3, v4, v5, v6, v7, rfl, p3, p4, p5, p6, p7⟩ := hv
  obtain ⟨A3, c3, rfl, hc3, hm3⟩ := p3.form
  obtain ⟨A4, c4, rfl, hc4, hm4⟩ := p4.form
  obtain ⟨A5, c5, rfl, hc5, hm5⟩ := p5.form
  obtain ⟨A6, c6, rfl, hc6, hm6⟩ := p6.form
  obtain ⟨A7, c7, rfl, hc7, hm7⟩ := p7.form
  obtain ⟨m0, m1, m2, m3, m4, m5, ⟨a0, a1, a2, a3, a4, a5⟩, t0, t1, t2, t3, t4, t5⟩ := x
  dsimp only at *
  go_enter Try.func78, Try.ntmps78
  have hbx := box_new hw #[.int .i64 m0, .int .i64 m1, .int .i64 m2, .slice A3 m3.length c3, .slice A4 m4.length c4, .slice A5 m5.length c5, .int .i64 a0, .int .i64 a1, .int .i64 a2, .int .i64 a3, .int .i64 a4, .slice A6 a5.length c6, .int .i64 t0, .int .i64 t1, .int .i64 t2, .int .i64 t3, .bool t4, .slice A7 t5.length c7] 78
  have hk1 := hk.alloc (.cells #[.int .i64 m0, .int .i64 m1, .int .i64 m2, .slice A3 m3.length c3, .slice A4 m4.length c4, .slice A5 m5.length c5, .int .i64 a0, .int .i64 a1, .int .i64 a2, .int .i64 a3, .int .i64 a4, .slice A6 a5.length c6, .int .i64 t0, .int .i64 t1, .int .i64 t2, .int .i64 t3, .bool t4, .slice A7 t5.length c7] 78)
  have hw1 := hw.kp ((Kp.refl w).alloc (.cells #[.int .i64 m0, .int .i64 m1, .int .i64 m2, .slice A3 m3.length c3, .slice A4 m4.length c4, .slice A5 m5.length c5, .int .i64 a0, .int .i64 a1, .int .i64 a2, .int .i64 a3, .int .i64 a4, .slice A6 a5.length c6, .int .i64 t0, .int .i64 t1, .int .i64 t2, .int .i64 t3, .bool t4, .slice A7 t5.length c7] 78))
  have hx1 := ((Kp.refl w).alloc (.cells #[.int .i64 m0, .int .i64 m1, .int .i64 m2, .slice A3 m3.length c3, .slice A4 m4.length c4, .slice A5 m5.length c5, .int .i64 a0, .int .i64 a1, .int .i64 a2, .int .i64 a3, .int .i64 a4, .slice A6 a5.length c6, .int .i64 t0, .int .i64 t1, .int .i64 t2, .int .i64 t3, .bool t4, .slice A7 t5.length c7] 78)).wx hw.lt
  obtain ⟨hB1, s1⟩ := hbx
  have d0 := hB1 0 _ rfl
  have d1 := hB1 1 _ rfl
  have d2 := hB1 2 _ rfl
  go_wp2_with fail
  try rw [← World.size_alloc w (.cells #[.int .i64 m0, .int .i64 m1, .int .i64 m2, .slice A3 m3.length c3, .slice A4 m4.length c4, .slice A5 m5.length c5, .int .i64 a0, .int .i64 a1, .int .i64 a2, .int .i64 a3, .int .i64 a4, .slice A6 a5.length c6, .int .i64 t0, .int .i64 t1, .int .i64 t2, .int .i64 t3, .bool t4, .slice A7 t5.length c7] 78)]
  generalize w.alloc (.cells #[.int .i64 m0, .int .i64 m1, .int .i64 m2, .slice A3 m3.length c3, .slice A4 m4.length c4, .slice A5 m5.length c5, .int .i64 a0, .int .i64 a1, .int .i64 a2, .int .i64 a3, .int .i64 a4, .slice A6 a5.length c6, .int .i64 t0, .int .i64 t1, .int .i64 t2, .int .i64 t3, .bool t4, .slice A7 t5.length c7] 78) = w1 at *
  generalize w.heap.size = h at *
  refine (put_any W0 g _ [m0, m1, m2] _ _ (hk1.alloc _) (hw1.kp ((Kp.refl _).alloc _)) ?hl (by unfold Room at *; simp only [numMessage, List.length_append, List.length_cons, List.length_nil] at *; omega)).mono ?_
  case hl => exact litInts [m0, m1, m2] _ rfl (by simp) _ rfl
  rintro e w2 ⟨rfl, hw2, hy2⟩
  have hz2 := (((Kp.refl w1).alloc _).wx hw1.lt).trans hy2
  clear hy2
  have hx2 := hx1.trans hz2
  have hk2 := hx2.to_kp hk hw
  have hB2 := hB1.wx hz2 s1
  have s2 := s1.wx hz2
  clear hz2 hB1 s1 hx1 hk1
  clear d0 d1 d2
  have d3 := hB2 3 _ rfl
  go_wp2_with fail
  refine (wIntegers_any W0 g _ _ m3 _ hk2 hw2 p3 (by unfold Room at *; simp only [numMessage, List.length_append, List.length_cons, List.length_nil] at *; omega)).mono ?_
  rintro e w3 ⟨rfl, hw3, hz3⟩
  have hx3 := hx2.trans hz3
  have hk3 := hx3.to_kp hk hw
  have hB3 := hB2.wx hz3 s2
  have s3 := s2.wx hz3
  clear hz3 hB2 s2 hx2 hk2
  clear d3
  have d4 := hB3 4 _ rfl
  go_wp2_with fail
  refine (listEvent_any W0 g _ numEvent 56 [.pointer (some ⟨g, 0, none⟩)] [] _ m4 _ hk3 hw3 p4 (by unfold Room at *; simp only [numMessage, List.length_append, List.length_cons, List.length_nil] at *; omega) wEvent_real (fun w' l' A' c' x0 x1 x2 ms x4 x5 y0 y1 y2 y3 x7 x8 x9 ht h1 _ h2 h3 => wEvent_any W0 g l' _ ⟨x0, x1, x2, ms, x4, x5, ⟨y0, y1, y2, y3⟩, x7, x8, x9⟩ w' h1 h2 ⟨_, rfl, ht⟩ h3)).mono ?_
  rintro e w4 ⟨rfl, hw4, hz4⟩
  have hx4 := hx3.trans hz4
  have hk4 := hx4.to_kp hk hw
  have hB4 := hB3.wx hz4 s3
  have s4 := s3.wx hz4
  clear hz4 hB3 s3 hx3 hk3
  clear d4
  have d5 := hB4 5 _ rfl
  go_wp2_with fail
  refine (listSpan_any W0 g _ numSpan 115 [.pointer (some ⟨g, 0, none⟩)] [] _ m5 _ hk4 hw4 p5 (by unfold Room at *; simp only [numMessage, List.length_append, List.length_cons, List.length_nil] at *; omega) wSpan_real (fun w' l' x0 x1 x2 h1 _ h2 h3 => wSpan_any W0 g l' x0 x1 x2 w' h1 h2 h3)).mono ?_
  rintro e w5 ⟨rfl, hw5, hz5⟩
  have hx5 := hx4.trans hz5
  have hk5 := hx5.to_kp hk hw
  have hB5 := hB4.wx hz5 s4
  have s5 := s4.wx hz5
  clear hz5 hB4 s4 hx4 hk4
  clear d5
  have d6 := hB5 6 _ rfl
  have d7 := hB5 7 _ rfl
  have d8 := hB5 8 _ rfl
  have d9 := hB5 9 _ rfl
  have d10 := hB5 10 _ rfl
  have d11 := hB5 11 _ rfl
  go_wp2_with fail
  refine (wAsk_any W0 g _ _ ⟨a0, a1, a2, a3, a4, a5⟩ _ hk5 hw5 ⟨_, rfl, p6⟩ (by unfold Room at *; simp only [numMessage, List.length_append, List.length_cons, List.length_nil] at *; omega)).mono ?_
  rintro e w6 ⟨rfl, hw6, hz6⟩
  have hx6 := hx5.trans hz6
  have hk6 := hx6.to_kp hk hw
  have hB6 := hB5.wx hz6 s5
  have s6 := s5.wx hz6
  clear hz6 hB5 s5 hx5 hk5
  clear d6 d7 d8 d9 d10 d11
  have d12 := hB6 12 _ rfl
  have d13 := hB6 13 _ rfl
  have d14 := hB6 14 _ rfl
  have d15 := hB6 15 _ rfl
  have d16 := hB6 16 _ rfl
  have hlt := s6.1
  go_wp2_with fail
  refine wp_region_kw_tail1 (v := ?_) 12 (by kernel_rfl) (by kernel_rfl) (fun _ _ _ h => h) (Or.inl ⟨by rfl, ?_⟩) ?_
  rotate_left
  · intro w; go_simp; rfl
  simp only [List.take_succ_cons, List.take_zero, List.drop_succ_cons, List.drop_zero, Nat.add_one_sub_one, Act.put, List.setIfInBounds_toArray, List.set_cons_succ, List.set_cons_zero]
  repeat (go_big_quiet_step (((go_at_call 117; refine quiet_kw (cTruth_any _ _)))))
  refine wpQuiet_nil ?_
  intro _ hw'
  obtain ⟨u, hw''⟩ := hw'
  subst hw''
  have kq := kw_kp w6 u
  generalize Kw w6 u = w7 at *
  have hw7 := hw6.kp kq
  have hz7 := kq.wx hw6.lt
  have hx7 := hx6.trans hz7
  have hk7 := hx7.to_kp hk hw
  have hB7 := hB6.wx hz7 s6
  have s7 := s6.wx hz7
  clear hz7 hB6 s6 hx6 hk6
  go_wp2_with fail
  refine (put_any W0 g _ [t0, t1, t2, t3, numB t4] _ _ (hk7.alloc _) (hw7.kp ((Kp.refl _).alloc _)) ?hl (by unfold Room at *; simp only [numMessage, List.length_append, List.length_cons, List.length_nil] at *; omega)).mono ?_
  case hl => exact litInts [t0, t1, t2, t3, numB t4] _ rfl (by simp) _ rfl
  rintro e w8 ⟨rfl, hw8, hy8⟩
  have hz8 := (((Kp.refl w7).alloc _).wx hw7.lt).trans hy8
  clear hy8
  have hx8 := hx7.trans hz8
  have hk8 := hx8.to_kp hk hw
  have hB8 := hB7.wx hz8 s7
  have s8 := s7.wx hz8
  clear hz8 hB7 s7 hx7 hk7
  clear d12 d13 d14 d15 d16
  have d17 := hB8 17 _ rfl
  go_wp2_with fail
  refine (listEntry_any W0 g _ numEntry 119 [.pointer (some ⟨g, 0, none⟩)] [] _ t5 _ hk8 hw8 p7 (by unfold Room at *; simp only [numMessage, List.length_append, List.length_cons, List.length_nil] at *; omega) wEntry_real (fun w' l' A' c' x0 x1 x2 x3 x4 ms ht h1 _ h2 h3 => wEntry_any W0 g l' _ ⟨x0, x1, x2, x3, x4, ms⟩ w' h1 h2 ⟨_, rfl, ht⟩ h3)).mono ?_
  rintro e w9 ⟨rfl, hw9, hz9⟩
  have hx9 := hx8.trans hz9
  have hk9 := hx9.to_kp hk hw
  have hB9 := hB8.wx hz9 s8
  have s9 := s8.wx hz9
  clear hz9 hB8 s8 hx8 hk8
  go_wp2
  go_end0
  exact ⟨rfl, by simpa [numMessage] using hw9, hx9⟩
theorem wMessage_real : Real Try.prog 78 := ⟨_, Try.func78, by kernel_rfl, by kernel_rfl⟩
end Go.Proofs.Ytmeafoakbkjifaa
