
/-
The writer: lists of integers, needs, events, marks, spans, entries.
-/
import Derived.Test.YtmokpnkpfodppaaCodW2
namespace Go.Proofs.Ytmokpnkpfodppaa
set_option linter.unusedSimpArgs false
set_option linter.unusedVariables false
open Go.RowKit

/-- the cells of a block -/
def BoxAt (w : World) (h : Nat) (cs : List Value) : Prop := ∀ i u, cs[i]? = some u → w.cell? ⟨h, i, none⟩ = some u
theorem BoxAt.wx {g h : Nat} {w w' : World} {cs : List Value} (hb : BoxAt w h cs) (hx : Wx g w w') (hs : Safe w g h) : BoxAt w' h cs := fun i u hu => hx.cellS (p := ⟨h, i, none⟩) hs (hb i u hu)
theorem BoxAt.kp {h : Nat} {w w' : World} {cs : List Value} (hb : BoxAt w h cs) (hx : Kp w w') : BoxAt w' h cs := fun i u hu => hx.cellS (hb i u hu)
theorem box_new {base g : Nat} {w : World} {l : List Int} (hw : Wr base w g l) (cs : Array Value) (t : TypeId) : BoxAt (w.alloc (.cells cs t)) w.heap.size cs.toList ∧ Safe (w.alloc (.cells cs t)) g w.heap.size :=
  ⟨fun i u hu => alloc_cell w cs t i (by simpa using hu), hw.safe_new _⟩

set_option maxHeartbeats 400000 in
theorem wIntegers_any (W0 : World) (g : Nat) (l : List Int) (v : Value) (xs : List Int) (w : World) (hk : Kp W0 w) (hw : Wr W0.heap.size w g l) (hv : Ints W0 v xs) (hroom : Room l (numIs xs).length) :
    Writes W0 g l (numIs xs) 67 #[.pointer (some ⟨g, 0, none⟩), v] w := by
  go_enter Try.func67, Try.ntmps67
  go_wp2_with fail
  refine (listInt_any W0 g l numI 92 [.pointer (some ⟨g, 0, none⟩)] [] v xs _ hk hw hv hroom wInteger_real (fun w' l' x h1 _ h2 h3 => wInteger_any W0 g l' x w' h1 h2 h3)).mono ?_
  rintro e w1 ⟨rfl, hw1, hx1⟩
  go_wp2
  go_end0
  exact ⟨rfl, hw1, hx1⟩
theorem wIntegers_real : Real Try.prog 67 := ⟨_, Try.func67, by kernel_rfl, by kernel_rfl⟩


set_option maxHeartbeats 400000 in
theorem wRight_any (W0 : World) (g : Nat) (l : List Int) (a b c : Int) (w : World) (hk : Kp W0 w) (hw : Wr W0.heap.size w g l) (hroom : Room l 3) :
    Writes W0 g l [a, b, c] 100 #[.pointer (some ⟨g, 0, none⟩), .agg #[.int .i64 a, .int .i64 b, .int .i64 c]] w := by
  go_enter Try.func100, Try.ntmps100
  have hbx := box_new hw #[.int .i64 a, .int .i64 b, .int .i64 c] 78
  have hk1 := hk.alloc (.cells #[.int .i64 a, .int .i64 b, .int .i64 c] 78)
  have hw1 := hw.kp ((Kp.refl w).alloc (.cells #[.int .i64 a, .int .i64 b, .int .i64 c] 78))
  have hx1 := ((Kp.refl w).alloc (.cells #[.int .i64 a, .int .i64 b, .int .i64 c] 78)).wx hw.lt
  obtain ⟨hB1, s1⟩ := hbx
  have c0 := hB1 0 _ rfl
  have c1 := hB1 1 _ rfl
  have c2 := hB1 2 _ rfl
  go_wp2_with fail
  try rw [← World.size_alloc w (.cells #[.int .i64 a, .int .i64 b, .int .i64 c] 78)]
  generalize w.alloc (.cells #[.int .i64 a, .int .i64 b, .int .i64 c] 78) = w1 at *
  generalize w.heap.size = h at *
  refine (put_any W0 g _ [a, b, c] _ _ (hk1.alloc _) (hw1.kp ((Kp.refl _).alloc _)) ?hl (by unfold Room at *; simp only [numEvent, numNeed, numMark, numSpan, numAsk, numEntry, numMerged, List.length_append, List.length_cons, List.length_nil] at *; omega)).mono ?_
  case hl => exact litInts [a, b, c] _ rfl (by simp) _ rfl
  rintro e w2 ⟨rfl, hw2, hy2⟩
  have hz2 := (((Kp.refl w1).alloc _).wx hw1.lt).trans hy2
  have hx2 := hx1.trans hz2
  have hk2 := hx2.to_kp hk hw
  have hB2 := hB1.wx hz2 s1
  have s2 := s1.wx hz2
  clear hy2 hz2
  go_wp2
  go_end0
  exact ⟨rfl, hw2, hx2⟩
def needV (n : Need) : Value := .agg #[.int .i64 n.kind, .int .i64 n.index, .int .i64 n.element, .int .i64 n.amount]
set_option maxHeartbeats 400000 in
theorem wNeed_any (W0 : World) (g : Nat) (l : List Int) (n : Need) (w : World) (hk : Kp W0 w) (hw : Wr W0.heap.size w g l) (hroom : Room l (numNeed n).length) :
    Writes W0 g l (numNeed n) 93 #[.pointer (some ⟨g, 0, none⟩), needV n] w := by
  obtain ⟨a, b, c, d⟩ := n
  unfold needV
  dsimp only at *
  go_enter Try.func93, Try.ntmps93
  have hbx := box_new hw #[.int .i64 a, .int .i64 b, .int .i64 c, .int .i64 d] 80
  have hk1 := hk.alloc (.cells #[.int .i64 a, .int .i64 b, .int .i64 c, .int .i64 d] 80)
  have hw1 := hw.kp ((Kp.refl w).alloc (.cells #[.int .i64 a, .int .i64 b, .int .i64 c, .int .i64 d] 80))
  have hx1 := ((Kp.refl w).alloc (.cells #[.int .i64 a, .int .i64 b, .int .i64 c, .int .i64 d] 80)).wx hw.lt
  obtain ⟨hB1, s1⟩ := hbx
  have c0 := hB1 0 _ rfl
  have c1 := hB1 1 _ rfl
  have c2 := hB1 2 _ rfl
  go_wp2_with fail
  try rw [← World.size_alloc w (.cells #[.int .i64 a, .int .i64 b, .int .i64 c, .int .i64 d] 80)]
  generalize w.alloc (.cells #[.int .i64 a, .int .i64 b, .int .i64 c, .int .i64 d] 80) = w1 at *
  generalize w.heap.size = h at *
  refine (wRight_any W0 g l a b c _ hk1 hw1 (by unfold Room at *; simp only [numEvent, numNeed, numMark, numSpan, numAsk, numEntry, numMerged, List.length_append, List.length_cons, List.length_nil] at *; omega)).mono ?_
  rintro e w2 ⟨rfl, hw2, hz2⟩
  have hx2 := hx1.trans hz2
  have hk2 := hx2.to_kp hk hw
  have hB2 := hB1.wx hz2 s1
  have s2 := s1.wx hz2
  clear hz2
  have c3 := hB2 3 _ rfl
  go_wp2_with fail
  refine (put_any W0 g _ [d] _ _ (hk2.alloc _) (hw2.kp ((Kp.refl _).alloc _)) ?hl (by unfold Room at *; simp only [numEvent, numNeed, numMark, numSpan, numAsk, numEntry, numMerged, List.length_append, List.length_cons, List.length_nil] at *; omega)).mono ?_
  case hl => exact litInts [d] _ rfl (by simp) _ rfl
  rintro e w3 ⟨rfl, hw3, hy3⟩
  have hz3 := (((Kp.refl w2).alloc _).wx hw2.lt).trans hy3
  have hx3 := hx2.trans hz3
  have hk3 := hx3.to_kp hk hw
  have hB3 := hB2.wx hz3 s2
  have s3 := s2.wx hz3
  clear hy3 hz3
  go_wp2
  go_end0
  exact ⟨rfl, by simpa [numNeed] using hw3, hx3⟩
set_option maxHeartbeats 400000 in
theorem wSpan_any (W0 : World) (g : Nat) (l : List Int) (a b c : Int) (w : World) (hk : Kp W0 w) (hw : Wr W0.heap.size w g l) (hroom : Room l (numSpan ⟨a, b, c⟩).length) :
    Writes W0 g l (numSpan ⟨a, b, c⟩) 71 #[.pointer (some ⟨g, 0, none⟩), .agg #[.int .i64 a, .int .i64 b, .int .i64 c]] w := by
  go_enter Try.func71, Try.ntmps71
  have hbx := box_new hw #[.int .i64 a, .int .i64 b, .int .i64 c] 84
  have hk1 := hk.alloc (.cells #[.int .i64 a, .int .i64 b, .int .i64 c] 84)
  have hw1 := hw.kp ((Kp.refl w).alloc (.cells #[.int .i64 a, .int .i64 b, .int .i64 c] 84))
  have hx1 := ((Kp.refl w).alloc (.cells #[.int .i64 a, .int .i64 b, .int .i64 c] 84)).wx hw.lt
  obtain ⟨hB1, s1⟩ := hbx
  have c0 := hB1 0 _ rfl
  have c1 := hB1 1 _ rfl
  have c2 := hB1 2 _ rfl
  go_wp2_with fail
  try rw [← World.size_alloc w (.cells #[.int .i64 a, .int .i64 b, .int .i64 c] 84)]
  generalize w.alloc (.cells #[.int .i64 a, .int .i64 b, .int .i64 c] 84) = w1 at *
  generalize w.heap.size = h at *
  refine (put_any W0 g _ [a, b, c] _ _ (hk1.alloc _) (hw1.kp ((Kp.refl _).alloc _)) ?hl (by unfold Room at *; simp only [numEvent, numNeed, numMark, numSpan, numAsk, numEntry, numMerged, List.length_append, List.length_cons, List.length_nil] at *; omega)).mono ?_
  case hl => exact litInts [a, b, c] _ rfl (by simp) _ rfl
  rintro e w2 ⟨rfl, hw2, hy2⟩
  have hz2 := (((Kp.refl w1).alloc _).wx hw1.lt).trans hy2
  have hx2 := hx1.trans hz2
  have hk2 := hx2.to_kp hk hw
  have hB2 := hB1.wx hz2 s1
  have s2 := s1.wx hz2
  clear hy2 hz2
  go_wp2
  go_end0
  exact ⟨rfl, hw2, hx2⟩
theorem wSpan_real : Real Try.prog 71 := ⟨_, Try.func71, by kernel_rfl, by kernel_rfl⟩
/-- how an event lies as a value -/
def EventV (w : World) (val : Value) (e : Event) : Prop :=
  ∃ v, val = .agg #[.int .i64 e.replica, .int .i64 e.number, .int .i64 e.time, v, .int .i64 e.kind, .int .i64 e.action, .int .i64 e.give.kind, .int .i64 e.give.index, .int .i64 e.give.element, .int .i64 e.give.amount, .int .i64 e.to, .int .i64 e.place, .int .i64 e.serial] ∧ Ints w v e.past
set_option maxHeartbeats 1000000 in
theorem wEvent_any (W0 : World) (g : Nat) (l : List Int) (val : Value) (e : Event) (w : World) (hk : Kp W0 w) (hw : Wr W0.heap.size w g l) (hv : EventV W0 val e) (hroom : Room l (numEvent e).length) :
    Writes W0 g l (numEvent e) 69 #[.pointer (some ⟨g, 0, none⟩), val] w := by
  obtain ⟨v, rfl, hp⟩ := hv
  obtain ⟨A, c, rfl, hc, hm⟩ := hp.form
  obtain ⟨x0, x1, x2, past, x4, x5, ⟨y0, y1, y2, y3⟩, x7, x8, x9⟩ := e
  dsimp only at *
  go_enter Try.func69, Try.ntmps69
  have hbx := box_new hw #[.int .i64 x0, .int .i64 x1, .int .i64 x2, .slice A past.length c, .int .i64 x4, .int .i64 x5, .int .i64 y0, .int .i64 y1, .int .i64 y2, .int .i64 y3, .int .i64 x7, .int .i64 x8, .int .i64 x9] 82
  have hk1 := hk.alloc (.cells #[.int .i64 x0, .int .i64 x1, .int .i64 x2, .slice A past.length c, .int .i64 x4, .int .i64 x5, .int .i64 y0, .int .i64 y1, .int .i64 y2, .int .i64 y3, .int .i64 x7, .int .i64 x8, .int .i64 x9] 82)
  have hw1 := hw.kp ((Kp.refl w).alloc (.cells #[.int .i64 x0, .int .i64 x1, .int .i64 x2, .slice A past.length c, .int .i64 x4, .int .i64 x5, .int .i64 y0, .int .i64 y1, .int .i64 y2, .int .i64 y3, .int .i64 x7, .int .i64 x8, .int .i64 x9] 82))
  have hx1 := ((Kp.refl w).alloc (.cells #[.int .i64 x0, .int .i64 x1, .int .i64 x2, .slice A past.length c, .int .i64 x4, .int .i64 x5, .int .i64 y0, .int .i64 y1, .int .i64 y2, .int .i64 y3, .int .i64 x7, .int .i64 x8, .int .i64 x9] 82)).wx hw.lt
  obtain ⟨hB1, s1⟩ := hbx
  have c0 := hB1 0 _ rfl
  have c1 := hB1 1 _ rfl
  have c2 := hB1 2 _ rfl
  go_wp2_with fail
  try rw [← World.size_alloc w (.cells #[.int .i64 x0, .int .i64 x1, .int .i64 x2, .slice A past.length c, .int .i64 x4, .int .i64 x5, .int .i64 y0, .int .i64 y1, .int .i64 y2, .int .i64 y3, .int .i64 x7, .int .i64 x8, .int .i64 x9] 82)]
  generalize w.alloc (.cells #[.int .i64 x0, .int .i64 x1, .int .i64 x2, .slice A past.length c, .int .i64 x4, .int .i64 x5, .int .i64 y0, .int .i64 y1, .int .i64 y2, .int .i64 y3, .int .i64 x7, .int .i64 x8, .int .i64 x9] 82) = w1 at *
  generalize w.heap.size = h at *
  refine (put_any W0 g _ [x0, x1, x2] _ _ (hk1.alloc _) (hw1.kp ((Kp.refl _).alloc _)) ?hl (by unfold Room at *; simp only [numEvent, numNeed, numMark, numSpan, numAsk, numEntry, numMerged, List.length_append, List.length_cons, List.length_nil] at *; omega)).mono ?_
  case hl => exact litInts [x0, x1, x2] _ rfl (by simp) _ rfl
  rintro e w2 ⟨rfl, hw2, hy2⟩
  have hz2 := (((Kp.refl w1).alloc _).wx hw1.lt).trans hy2
  have hx2 := hx1.trans hz2
  have hk2 := hx2.to_kp hk hw
  have hB2 := hB1.wx hz2 s1
  have s2 := s1.wx hz2
  clear hy2 hz2
  have c3 := hB2 3 _ rfl
  go_wp2_with fail
  refine (wIntegers_any W0 g _ _ past _ hk2 hw2 hp (by unfold Room at *; simp only [numEvent, numNeed, numMark, numSpan, numAsk, numEntry, numMerged, List.length_append, List.length_cons, List.length_nil] at *; omega)).mono ?_
  rintro e w3 ⟨rfl, hw3, hz3⟩
  have hx3 := hx2.trans hz3
  have hk3 := hx3.to_kp hk hw
  have hB3 := hB2.wx hz3 s2
  have s3 := s2.wx hz3
  clear hz3
  have c4 := hB3 4 _ rfl
  have c5 := hB3 5 _ rfl
  go_wp2_with fail
  refine (put_any W0 g _ [x4, x5] _ _ (hk3.alloc _) (hw3.kp ((Kp.refl _).alloc _)) ?hl (by unfold Room at *; simp only [numEvent, numNeed, numMark, numSpan, numAsk, numEntry, numMerged, List.length_append, List.length_cons, List.length_nil] at *; omega)).mono ?_
  case hl => exact litInts [x4, x5] _ rfl (by simp) _ rfl
  rintro e w4 ⟨rfl, hw4, hy4⟩
  have hz4 := (((Kp.refl w3).alloc _).wx hw3.lt).trans hy4
  have hx4 := hx3.trans hz4
  have hk4 := hx4.to_kp hk hw
  have hB4 := hB3.wx hz4 s3
  have s4 := s3.wx hz4
  clear hy4 hz4
  have c6 := hB4 6 _ rfl
  have c7 := hB4 7 _ rfl
  have c8 := hB4 8 _ rfl
  have c9 := hB4 9 _ rfl
  go_wp2_with fail
  refine (wNeed_any W0 g _ ⟨y0, y1, y2, y3⟩ _ hk4 hw4 (by unfold Room at *; simp only [numEvent, numNeed, numMark, numSpan, numAsk, numEntry, numMerged, List.length_append, List.length_cons, List.length_nil] at *; omega)).mono ?_
  rintro e w5 ⟨rfl, hw5, hz5⟩
  have hx5 := hx4.trans hz5
  have hk5 := hx5.to_kp hk hw
  have hB5 := hB4.wx hz5 s4
  have s5 := s4.wx hz5
  clear hz5
  have c10 := hB5 10 _ rfl
  have c11 := hB5 11 _ rfl
  have c12 := hB5 12 _ rfl
  go_wp2_with fail
  refine (put_any W0 g _ [x7, x8, x9] _ _ (hk5.alloc _) (hw5.kp ((Kp.refl _).alloc _)) ?hl (by unfold Room at *; simp only [numEvent, numNeed, numMark, numSpan, numAsk, numEntry, numMerged, List.length_append, List.length_cons, List.length_nil] at *; omega)).mono ?_
  case hl => exact litInts [x7, x8, x9] _ rfl (by simp) _ rfl
  rintro e w6 ⟨rfl, hw6, hy6⟩
  have hz6 := (((Kp.refl w5).alloc _).wx hw5.lt).trans hy6
  have hx6 := hx5.trans hz6
  have hk6 := hx6.to_kp hk hw
  have hB6 := hB5.wx hz6 s5
  have s6 := s5.wx hz6
  clear hy6 hz6
  go_wp2
  go_end0
  exact ⟨rfl, by simpa [numEvent] using hw6, hx6⟩
theorem wEvent_real : Real Try.prog 69 := ⟨_, Try.func69, by kernel_rfl, by kernel_rfl⟩
end Go.Proofs.Ytmokpnkpfodppaa
