
/-
The writer: entries, requests, lists of marks and needs.
-/
import Derived.Test.YtmeafoakbkjifaaCodW3
namespace Go.Proofs.Ytmeafoakbkjifaa
set_option linter.unusedSimpArgs false
set_option linter.unusedVariables false
open Go.RowKit

def encMark (m : Mark) : List Value := [.int .i64 m.replica, .int .i64 m.number, .int .i64 m.time, .int .i64 m.value]
theorem encMark_len (r : Mark) : (encMark r).length = 4 := rfl
theorem encMark_one (r : Mark) : ∀ u ∈ encMark r, u.oneCell' = true := by simp [encMark, Value.oneCell']
abbrev Marks := Sl (Pl encMark) 4
def encNeed (n : Need) : List Value := [.int .i64 n.kind, .int .i64 n.index, .int .i64 n.element, .int .i64 n.amount]
theorem encNeed_len (r : Need) : (encNeed r).length = 4 := rfl
theorem encNeed_one (r : Need) : ∀ u ∈ encNeed r, u.oneCell' = true := by simp [encNeed, Value.oneCell']
abbrev Needs := Sl (Pl encNeed) 4
def encSpan (s : Span) : List Value := [.int .i64 s.replica, .int .i64 s.first, .int .i64 s.last]
theorem encSpan_len (r : Span) : (encSpan r).length = 3 := rfl
theorem encSpan_one (r : Span) : ∀ u ∈ encSpan r, u.oneCell' = true := by simp [encSpan, Value.oneCell']
abbrev Spans := Sl (Pl encSpan) 3
theorem Sl.mark {w : World} {A : Option Addr} {n c : Nat} {l : List Mark} (h : Marks w (.slice A n c) l) {k : Nat} (hk : k < l.length) :
    ∃ b o, A = some ⟨b, o, none⟩ ∧ b < w.heap.size ∧ ∀ j u, (encMark l[k])[j]? = some u → w.cell? ⟨b, o + k * 4 + j, none⟩ = some u := by
  obtain ⟨b, o, cs, hA, had, hcs, hc, hr⟩ := h.at_ hk
  unfold Pl at hr
  subst hr
  exact ⟨b, o, hA, had, hc⟩
theorem Sl.need {w : World} {A : Option Addr} {n c : Nat} {l : List Need} (h : Needs w (.slice A n c) l) {k : Nat} (hk : k < l.length) :
    ∃ b o, A = some ⟨b, o, none⟩ ∧ b < w.heap.size ∧ ∀ j u, (encNeed l[k])[j]? = some u → w.cell? ⟨b, o + k * 4 + j, none⟩ = some u := by
  obtain ⟨b, o, cs, hA, had, hcs, hc, hr⟩ := h.at_ hk
  unfold Pl at hr
  subst hr
  exact ⟨b, o, hA, had, hc⟩
theorem Sl.span {w : World} {A : Option Addr} {n c : Nat} {l : List Span} (h : Spans w (.slice A n c) l) {k : Nat} (hk : k < l.length) :
    ∃ b o, A = some ⟨b, o, none⟩ ∧ b < w.heap.size ∧ ∀ j u, (encSpan l[k])[j]? = some u → w.cell? ⟨b, o + k * 3 + j, none⟩ = some u := by
  obtain ⟨b, o, cs, hA, had, hcs, hc, hr⟩ := h.at_ hk
  unfold Pl at hr
  subst hr
  exact ⟨b, o, hA, had, hc⟩
set_option maxHeartbeats 1000000 in
theorem listMark_any (W0 : World) (g : Nat) (l : List Int) (f : Mark → List Int) (F : FuncId) (bound cap : List Value) (v : Value) (xs : List Mark) (w : World) (hk : Kp W0 w) (hw : Wr W0.heap.size w g l)
    (hS : Marks W0 v xs) (hroom : Room l (numL f xs).length) (hr : Real Try.prog F)
    (hf : ∀ (w' : World) (l' : List Int) (a b c d : Int),  Kp W0 w' → Wx g w w' → Wr W0.heap.size w' g l' → Room l' (f ⟨a, b, c, d⟩).length → Writes W0 g l' (f ⟨a, b, c, d⟩) F (bound ++ .agg #[.int .i64 a, .int .i64 b, .int .i64 c, .int .i64 d] :: cap).toArray w') :
    Writes W0 g l (numL f xs) 124 #[.pointer (some ⟨g, 0, none⟩), v, .func (.func F) bound.toArray cap.toArray] w := by
  have HC := hid hf
  clear hf
  have hcf := fun args w => hr.run args w
  have hgl := hw.lt
  obtain ⟨A, c, rfl, hc, hm⟩ := hS.form
  have hroom' := hroom
  unfold Room numL at hroom'
  rw [List.length_cons] at hroom'
  go_enter Try.func124, Try.ntmps124
  go_wp2_with fail
  refine (put_any W0 g l [(xs.length : Int)] _ _ (hk.alloc _) (hw.kp ((Kp.refl _).alloc _)) (litInts [(xs.length : Int)] _ rfl (by simp) _ rfl) (by unfold Room; simp; omega)).mono ?_
  rintro e w1 ⟨rfl, hw1, hx1⟩
  have hx1 := (((Kp.refl w).alloc _).wx hgl).trans hx1
  go_wp2
  go_loopw [15] (fun i wr => ∃ k : Nat, k ≤ xs.length ∧ i = .int .i64 k ∧ Wr W0.heap.size wr g ((l ++ [(xs.length : Int)]) ++ (xs.take k).flatMap f) ∧ Wx g w wr) (fun i _ => xs.length - (intOf i).toNat)
  case atStart => exact ⟨0, Nat.zero_le _, rfl, by simpa using hw1, hx1⟩
  case round =>
    clear hw1 hx1
    obtain ⟨k, hk2, rfl, hwr, hxr⟩ := hrel
    have hkr := hxr.to_kp hk hw
    by_cases hlt : k < xs.length
    · obtain ⟨b, o, rfl, hb, h0'⟩ := hS.mark hlt
      have h0 := hkr.cellS (h0' 0 _ rfl); have h1 := hkr.cellS (h0' 1 _ rfl); have h2 := hkr.cellS (h0' 2 _ rfl); have h3 := hkr.cellS (h0' 3 _ rfl); clear h0'; simp only [Nat.add_zero] at h0
      have HT := hid (take_snoc' xs k hlt)
      have HR : Hid (Room ((l ++ [(xs.length : Int)]) ++ (xs.take k).flatMap f) (f xs[k]).length) := hid (room_step f l xs k hlt hroom)
      clear hS
      generalize xs[k] = x at *
      obtain ⟨a, b, c, d⟩ := x
      try dsimp only at *
      go_wp2_with fail
      first | (refine (HC.out wr _ a b c d hkr hxr hwr HR.out).mono ?_) | (refine (HC.out (wr.alloc _) _ a b c d (hkr.alloc _) (hxr.trans (((Kp.refl wr).alloc _).wx hwr.lt)) (hwr.kp ((Kp.refl wr).alloc _)) HR.out).mono ?_)
      rintro e w2 ⟨rfl, hw2, hx2⟩
      go_wp2
      go_roundw
      case rel => exact ⟨k + 1, by omega, by go_num, by rw [HT.out]; simpa using hw2, by first | exact hxr.trans hx2 | exact (hxr.trans (((Kp.refl wr).alloc _).wx hwr.lt)).trans hx2⟩
      case measure => simp [intOf]; omega
    · have HF : Hid (xs.take k = xs) := hid (List.take_of_length_le (by omega))
      go_wp2
      go_end0
      exact ⟨rfl, by rw [HF.out] at hwr; simpa [numL] using hwr, hxr⟩
set_option maxHeartbeats 1000000 in
theorem listNeed_any (W0 : World) (g : Nat) (l : List Int) (f : Need → List Int) (F : FuncId) (bound cap : List Value) (v : Value) (xs : List Need) (w : World) (hk : Kp W0 w) (hw : Wr W0.heap.size w g l)
    (hS : Needs W0 v xs) (hroom : Room l (numL f xs).length) (hr : Real Try.prog F)
    (hf : ∀ (w' : World) (l' : List Int) (a b c d : Int),  Kp W0 w' → Wx g w w' → Wr W0.heap.size w' g l' → Room l' (f ⟨a, b, c, d⟩).length → Writes W0 g l' (f ⟨a, b, c, d⟩) F (bound ++ .agg #[.int .i64 a, .int .i64 b, .int .i64 c, .int .i64 d] :: cap).toArray w') :
    Writes W0 g l (numL f xs) 130 #[.pointer (some ⟨g, 0, none⟩), v, .func (.func F) bound.toArray cap.toArray] w := by
  have HC := hid hf
  clear hf
  have hcf := fun args w => hr.run args w
  have hgl := hw.lt
  obtain ⟨A, c, rfl, hc, hm⟩ := hS.form
  have hroom' := hroom
  unfold Room numL at hroom'
  rw [List.length_cons] at hroom'
  go_enter Try.func130, Try.ntmps130
  go_wp2_with fail
  refine (put_any W0 g l [(xs.length : Int)] _ _ (hk.alloc _) (hw.kp ((Kp.refl _).alloc _)) (litInts [(xs.length : Int)] _ rfl (by simp) _ rfl) (by unfold Room; simp; omega)).mono ?_
  rintro e w1 ⟨rfl, hw1, hx1⟩
  have hx1 := (((Kp.refl w).alloc _).wx hgl).trans hx1
  go_wp2
  go_loopw [15] (fun i wr => ∃ k : Nat, k ≤ xs.length ∧ i = .int .i64 k ∧ Wr W0.heap.size wr g ((l ++ [(xs.length : Int)]) ++ (xs.take k).flatMap f) ∧ Wx g w wr) (fun i _ => xs.length - (intOf i).toNat)
  case atStart => exact ⟨0, Nat.zero_le _, rfl, by simpa using hw1, hx1⟩
  case round =>
    clear hw1 hx1
    obtain ⟨k, hk2, rfl, hwr, hxr⟩ := hrel
    have hkr := hxr.to_kp hk hw
    by_cases hlt : k < xs.length
    · obtain ⟨b, o, rfl, hb, h0'⟩ := hS.need hlt
      have h0 := hkr.cellS (h0' 0 _ rfl); have h1 := hkr.cellS (h0' 1 _ rfl); have h2 := hkr.cellS (h0' 2 _ rfl); have h3 := hkr.cellS (h0' 3 _ rfl); clear h0'; simp only [Nat.add_zero] at h0
      have HT := hid (take_snoc' xs k hlt)
      have HR : Hid (Room ((l ++ [(xs.length : Int)]) ++ (xs.take k).flatMap f) (f xs[k]).length) := hid (room_step f l xs k hlt hroom)
      clear hS
      generalize xs[k] = x at *
      obtain ⟨a, b, c, d⟩ := x
      try dsimp only at *
      go_wp2_with fail
      first | (refine (HC.out wr _ a b c d hkr hxr hwr HR.out).mono ?_) | (refine (HC.out (wr.alloc _) _ a b c d (hkr.alloc _) (hxr.trans (((Kp.refl wr).alloc _).wx hwr.lt)) (hwr.kp ((Kp.refl wr).alloc _)) HR.out).mono ?_)
      rintro e w2 ⟨rfl, hw2, hx2⟩
      go_wp2
      go_roundw
      case rel => exact ⟨k + 1, by omega, by go_num, by rw [HT.out]; simpa using hw2, by first | exact hxr.trans hx2 | exact (hxr.trans (((Kp.refl wr).alloc _).wx hwr.lt)).trans hx2⟩
      case measure => simp [intOf]; omega
    · have HF : Hid (xs.take k = xs) := hid (List.take_of_length_le (by omega))
      go_wp2
      go_end0
      exact ⟨rfl, by rw [HF.out] at hwr; simpa [numL] using hwr, hxr⟩
set_option maxHeartbeats 1000000 in
theorem listSpan_any (W0 : World) (g : Nat) (l : List Int) (f : Span → List Int) (F : FuncId) (bound cap : List Value) (v : Value) (xs : List Span) (w : World) (hk : Kp W0 w) (hw : Wr W0.heap.size w g l)
    (hS : Spans W0 v xs) (hroom : Room l (numL f xs).length) (hr : Real Try.prog F)
    (hf : ∀ (w' : World) (l' : List Int) (a b c : Int),  Kp W0 w' → Wx g w w' → Wr W0.heap.size w' g l' → Room l' (f ⟨a, b, c⟩).length → Writes W0 g l' (f ⟨a, b, c⟩) F (bound ++ .agg #[.int .i64 a, .int .i64 b, .int .i64 c] :: cap).toArray w') :
    Writes W0 g l (numL f xs) 114 #[.pointer (some ⟨g, 0, none⟩), v, .func (.func F) bound.toArray cap.toArray] w := by
  have HC := hid hf
  clear hf
  have hcf := fun args w => hr.run args w
  have hgl := hw.lt
  obtain ⟨A, c, rfl, hc, hm⟩ := hS.form
  have hroom' := hroom
  unfold Room numL at hroom'
  rw [List.length_cons] at hroom'
  go_enter Try.func114, Try.ntmps114
  go_wp2_with fail
  refine (put_any W0 g l [(xs.length : Int)] _ _ (hk.alloc _) (hw.kp ((Kp.refl _).alloc _)) (litInts [(xs.length : Int)] _ rfl (by simp) _ rfl) (by unfold Room; simp; omega)).mono ?_
  rintro e w1 ⟨rfl, hw1, hx1⟩
  have hx1 := (((Kp.refl w).alloc _).wx hgl).trans hx1
  go_wp2
  go_loopw [15] (fun i wr => ∃ k : Nat, k ≤ xs.length ∧ i = .int .i64 k ∧ Wr W0.heap.size wr g ((l ++ [(xs.length : Int)]) ++ (xs.take k).flatMap f) ∧ Wx g w wr) (fun i _ => xs.length - (intOf i).toNat)
  case atStart => exact ⟨0, Nat.zero_le _, rfl, by simpa using hw1, hx1⟩
  case round =>
    clear hw1 hx1
    obtain ⟨k, hk2, rfl, hwr, hxr⟩ := hrel
    have hkr := hxr.to_kp hk hw
    by_cases hlt : k < xs.length
    · obtain ⟨b, o, rfl, hb, h0'⟩ := hS.span hlt
      have h0 := hkr.cellS (h0' 0 _ rfl); have h1 := hkr.cellS (h0' 1 _ rfl); have h2 := hkr.cellS (h0' 2 _ rfl); clear h0'; simp only [Nat.add_zero] at h0
      have HT := hid (take_snoc' xs k hlt)
      have HR : Hid (Room ((l ++ [(xs.length : Int)]) ++ (xs.take k).flatMap f) (f xs[k]).length) := hid (room_step f l xs k hlt hroom)
      clear hS
      generalize xs[k] = x at *
      obtain ⟨a, b, c⟩ := x
      try dsimp only at *
      go_wp2_with fail
      first | (refine (HC.out wr _ a b c hkr hxr hwr HR.out).mono ?_) | (refine (HC.out (wr.alloc _) _ a b c (hkr.alloc _) (hxr.trans (((Kp.refl wr).alloc _).wx hwr.lt)) (hwr.kp ((Kp.refl wr).alloc _)) HR.out).mono ?_)
      rintro e w2 ⟨rfl, hw2, hx2⟩
      go_wp2
      go_roundw
      case rel => exact ⟨k + 1, by omega, by go_num, by rw [HT.out]; simpa using hw2, by first | exact hxr.trans hx2 | exact (hxr.trans (((Kp.refl wr).alloc _).wx hwr.lt)).trans hx2⟩
      case measure => simp [intOf]; omega
    · have HF : Hid (xs.take k = xs) := hid (List.take_of_length_le (by omega))
      go_wp2
      go_end0
      exact ⟨rfl, by rw [HF.out] at hwr; simpa [numL] using hwr, hxr⟩
theorem wNeed_real : Real Try.prog 88 := ⟨_, Try.func88, by kernel_rfl, by kernel_rfl⟩
/-- how an entry lies as a value -/
def EntryV (w : World) (val : Value) (e : Entry) : Prop := ∃ v, val = .agg #[.int .i64 e.term, .int .i64 e.kind, .int .i64 e.replica, .int .i64 e.serial, .int .i64 e.action, v] ∧ Ints w v e.voters
set_option maxHeartbeats 1000000 in
theorem wEntry_any (W0 : World) (g : Nat) (l : List Int) (val : Value) (e : Entry) (w : World) (hk : Kp W0 w) (hw : Wr W0.heap.size w g l) (hv : EntryV W0 val e) (hroom : Room l (numEntry e).length) :
    Writes W0 g l (numEntry e) 119 #[.pointer (some ⟨g, 0, none⟩), val] w := by
  obtain ⟨v, rfl, hp⟩ := hv
  obtain ⟨A, c, rfl, hc, hm⟩ := hp.form
  obtain ⟨x0, x1, x2, x3, x4, past⟩ := e
  dsimp only at *
  go_enter Try.func119, Try.ntmps119
  have hbx := box_new hw #[.int .i64 x0, .int .i64 x1, .int .i64 x2, .int .i64 x3, .int .i64 x4, .slice A past.length c] 44
  have hk1 := hk.alloc (.cells #[.int .i64 x0, .int .i64 x1, .int .i64 x2, .int .i64 x3, .int .i64 x4, .slice A past.length c] 44)
  have hw1 := hw.kp ((Kp.refl w).alloc (.cells #[.int .i64 x0, .int .i64 x1, .int .i64 x2, .int .i64 x3, .int .i64 x4, .slice A past.length c] 44))
  have hx1 := ((Kp.refl w).alloc (.cells #[.int .i64 x0, .int .i64 x1, .int .i64 x2, .int .i64 x3, .int .i64 x4, .slice A past.length c] 44)).wx hw.lt
  obtain ⟨hB1, s1⟩ := hbx
  have c0 := hB1 0 _ rfl
  have c1 := hB1 1 _ rfl
  have c2 := hB1 2 _ rfl
  have c3 := hB1 3 _ rfl
  have c4 := hB1 4 _ rfl
  go_wp2_with fail
  try rw [← World.size_alloc w (.cells #[.int .i64 x0, .int .i64 x1, .int .i64 x2, .int .i64 x3, .int .i64 x4, .slice A past.length c] 44)]
  generalize w.alloc (.cells #[.int .i64 x0, .int .i64 x1, .int .i64 x2, .int .i64 x3, .int .i64 x4, .slice A past.length c] 44) = w1 at *
  generalize w.heap.size = h at *
  refine (put_any W0 g _ [x0, x1, x2, x3, x4] _ _ (hk1.alloc _) (hw1.kp ((Kp.refl _).alloc _)) ?hl (by unfold Room at *; simp only [numEvent, numNeed, numMark, numSpan, numAsk, numEntry, numMerged, List.length_append, List.length_cons, List.length_nil] at *; omega)).mono ?_
  case hl => exact litInts [x0, x1, x2, x3, x4] _ rfl (by simp) _ rfl
  rintro e w2 ⟨rfl, hw2, hy2⟩
  have hz2 := (((Kp.refl w1).alloc _).wx hw1.lt).trans hy2
  have hx2 := hx1.trans hz2
  have hk2 := hx2.to_kp hk hw
  have hB2 := hB1.wx hz2 s1
  have s2 := s1.wx hz2
  clear hy2 hz2
  have c5 := hB2 5 _ rfl
  go_wp2_with fail
  refine (wIntegers_any W0 g _ _ past _ hk2 hw2 hp (by unfold Room at *; simp only [numEvent, numNeed, numMark, numSpan, numAsk, numEntry, numMerged, List.length_append, List.length_cons, List.length_nil] at *; omega)).mono ?_
  rintro e w3 ⟨rfl, hw3, hz3⟩
  have hx3 := hx2.trans hz3
  have hk3 := hx3.to_kp hk hw
  have hB3 := hB2.wx hz3 s2
  have s3 := s2.wx hz3
  clear hz3
  go_wp2
  go_end0
  exact ⟨rfl, by simpa [numEntry] using hw3, hx3⟩
theorem wEntry_real : Real Try.prog 119 := ⟨_, Try.func119, by kernel_rfl, by kernel_rfl⟩
/-- how a request lies as a value -/
def AskV (w : World) (val : Value) (e : Ask) : Prop := ∃ v, val = .agg #[.int .i64 e.number, .int .i64 e.place, .int .i64 e.time, .int .i64 e.replica, .int .i64 e.serial, v] ∧ Needs w v e.needs
set_option maxHeartbeats 1000000 in
theorem wAsk_any (W0 : World) (g : Nat) (l : List Int) (val : Value) (e : Ask) (w : World) (hk : Kp W0 w) (hw : Wr W0.heap.size w g l) (hv : AskV W0 val e) (hroom : Room l (numAsk e).length) :
    Writes W0 g l (numAsk e) 116 #[.pointer (some ⟨g, 0, none⟩), val] w := by
  obtain ⟨v, rfl, hp⟩ := hv
  obtain ⟨A, c, rfl, hc, hm⟩ := hp.form
  obtain ⟨x0, x1, x2, x3, x4, past⟩ := e
  dsimp only at *
  go_enter Try.func116, Try.ntmps116
  have hbx := box_new hw #[.int .i64 x0, .int .i64 x1, .int .i64 x2, .int .i64 x3, .int .i64 x4, .slice A past.length c] 75
  have hk1 := hk.alloc (.cells #[.int .i64 x0, .int .i64 x1, .int .i64 x2, .int .i64 x3, .int .i64 x4, .slice A past.length c] 75)
  have hw1 := hw.kp ((Kp.refl w).alloc (.cells #[.int .i64 x0, .int .i64 x1, .int .i64 x2, .int .i64 x3, .int .i64 x4, .slice A past.length c] 75))
  have hx1 := ((Kp.refl w).alloc (.cells #[.int .i64 x0, .int .i64 x1, .int .i64 x2, .int .i64 x3, .int .i64 x4, .slice A past.length c] 75)).wx hw.lt
  obtain ⟨hB1, s1⟩ := hbx
  have c0 := hB1 0 _ rfl
  have c1 := hB1 1 _ rfl
  have c2 := hB1 2 _ rfl
  have c3 := hB1 3 _ rfl
  have c4 := hB1 4 _ rfl
  go_wp2_with fail
  try rw [← World.size_alloc w (.cells #[.int .i64 x0, .int .i64 x1, .int .i64 x2, .int .i64 x3, .int .i64 x4, .slice A past.length c] 75)]
  generalize w.alloc (.cells #[.int .i64 x0, .int .i64 x1, .int .i64 x2, .int .i64 x3, .int .i64 x4, .slice A past.length c] 75) = w1 at *
  generalize w.heap.size = h at *
  refine (put_any W0 g _ [x0, x1, x2, x3, x4] _ _ (hk1.alloc _) (hw1.kp ((Kp.refl _).alloc _)) ?hl (by unfold Room at *; simp only [numEvent, numNeed, numMark, numSpan, numAsk, numEntry, numMerged, List.length_append, List.length_cons, List.length_nil] at *; omega)).mono ?_
  case hl => exact litInts [x0, x1, x2, x3, x4] _ rfl (by simp) _ rfl
  rintro e w2 ⟨rfl, hw2, hy2⟩
  have hz2 := (((Kp.refl w1).alloc _).wx hw1.lt).trans hy2
  have hx2 := hx1.trans hz2
  have hk2 := hx2.to_kp hk hw
  have hB2 := hB1.wx hz2 s1
  have s2 := s1.wx hz2
  clear hy2 hz2
  have c5 := hB2 5 _ rfl
  go_wp2_with fail
  refine (listNeed_any W0 g _ numNeed 88 [.pointer (some ⟨g, 0, none⟩)] [] _ past _ hk2 hw2 hp (by unfold Room at *; simp only [numEvent, numNeed, numMark, numSpan, numAsk, numEntry, numMerged, List.length_append, List.length_cons, List.length_nil] at *; omega) wNeed_real (fun w' l' a b c d h1 _ h2 h3 => wNeed_any W0 g l' ⟨a, b, c, d⟩ w' h1 h2 h3)).mono ?_
  rintro e w3 ⟨rfl, hw3, hz3⟩
  have hx3 := hx2.trans hz3
  have hk3 := hx3.to_kp hk hw
  have hB3 := hB2.wx hz3 s2
  have s3 := s2.wx hz3
  clear hz3
  go_wp2
  go_end0
  exact ⟨rfl, by simpa [numAsk] using hw3, hx3⟩
end Go.Proofs.Ytmeafoakbkjifaa
