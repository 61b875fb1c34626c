/-
The writer: entries, requests, lists of marks and needs.
The writer: what is known of a convergent cell, lists of lists.
The writer: what is known of a convergent cell, and a base.
The writer: lists of what is known of convergent cells, and a base.
The writer: a base.
-/
import Derived.Test.YtmeafoakbkjifaaCodW3
import Derived.Deep.RegionWith
namespace Go.Proofs.Ytmeafoakbkjifaa
set_option linter.unusedSimpArgs false
set_option linter.unusedVariables false
open Go.RowKit

def encMark (m : Mark) : List Value := [.int .i64 m.replica, .int .i64 m.number, .int .i64 m.time, .int .i64 m.value]
theorem encMark_len (r : Mark) : (encMark r).length = 4 := rfl
theorem encMark_one (r : Mark) : ∀ u ∈ encMark r, u.oneCell' = true := by simp [encMark, Value.oneCell']
abbrev Marks := Sl (Pl encMark) 4
def encNeed (n : Need) : List Value := [.int .i64 n.kind, .int .i64 n.index, .int .i64 n.element, .int .i64 n.amount]
theorem encNeed_len (r : Need) : (encNeed r).length = 4 := rfl
theorem encNeed_one (r : Need) : ∀ u ∈ encNeed r, u.oneCell' = true := by simp [encNeed, Value.oneCell']
abbrev Needs := Sl (Pl encNeed) 4
def encSpan (s : Span) : List Value := [.int .i64 s.replica, .int .i64 s.first, .int .i64 s.last]
theorem encSpan_len (r : Span) : (encSpan r).length = 3 := rfl
theorem encSpan_one (r : Span) : ∀ u ∈ encSpan r, u.oneCell' = true := by simp [encSpan, Value.oneCell']
abbrev Spans := Sl (Pl encSpan) 3
theorem Sl.mark {w : World} {A : Option Addr} {n c : Nat} {l : List Mark} (h : Marks w (.slice A n c) l) {k : Nat} (hk : k < l.length) :
    ∃ b o, A = some ⟨b, o, none⟩ ∧ b < w.heap.size ∧ ∀ j u, (encMark l[k])[j]? = some u → w.cell? ⟨b, o + k * 4 + j, none⟩ = some u := by
  obtain ⟨b, o, cs, hA, had, hcs, hc, hr⟩ := h.at_ hk
  unfold Pl at hr
  subst hr
  exact ⟨b, o, hA, had, hc⟩
theorem Sl.need {w : World} {A : Option Addr} {n c : Nat} {l : List Need} (h : Needs w (.slice A n c) l) {k : Nat} (hk : k < l.length) :
    ∃ b o, A = some ⟨b, o, none⟩ ∧ b < w.heap.size ∧ ∀ j u, (encNeed l[k])[j]? = some u → w.cell? ⟨b, o + k * 4 + j, none⟩ = some u := by
  obtain ⟨b, o, cs, hA, had, hcs, hc, hr⟩ := h.at_ hk
  unfold Pl at hr
  subst hr
  exact ⟨b, o, hA, had, hc⟩
theorem Sl.span {w : World} {A : Option Addr} {n c : Nat} {l : List Span} (h : Spans w (.slice A n c) l) {k : Nat} (hk : k < l.length) :
    ∃ b o, A = some ⟨b, o, none⟩ ∧ b < w.heap.size ∧ ∀ j u, (encSpan l[k])[j]? = some u → w.cell? ⟨b, o + k * 3 + j, none⟩ = some u := by
  obtain ⟨b, o, cs, hA, had, hcs, hc, hr⟩ := h.at_ hk
  unfold Pl at hr
  subst hr
  exact ⟨b, o, hA, had, hc⟩
set_option maxHeartbeats 1000000 in
theorem listMark_any (W0 : World) (g : Nat) (l : List Int) (f : Mark → List Int) (F : FuncId) (bound cap : List Value) (v : Value) (xs : List Mark) (w : World) (hk : Kp W0 w) (hw : Wr W0.heap.size w g l)
    (hS : Marks W0 v xs) (hroom : Room l (numL f xs).length) (hr : Real Try.prog F)
    (hf : ∀ (w' : World) (l' : List Int) (a b c d : Int),  Kp W0 w' → Wx g w w' → Wr W0.heap.size w' g l' → Room l' (f ⟨a, b, c, d⟩).length → Writes W0 g l' (f ⟨a, b, c, d⟩) F (bound ++ .agg #[.int .i64 a, .int .i64 b, .int .i64 c, .int .i64 d] :: cap).toArray w') :
    Writes W0 g l (numL f xs) 124 #[.pointer (some ⟨g, 0, none⟩), v, .func (.func F) bound.toArray cap.toArray] w := by
  have HC := hid hf
  clear hf
  have hcf := fun args w => hr.run args w
  have hgl := hw.lt
  obtain ⟨A, c, rfl, hc, hm⟩ := hS.form
  have hroom' := hroom
  unfold Room numL at hroom'
  rw [List.length_cons] at hroom'
  go_enter Try.func124, Try.ntmps124
  go_wp2_with fail
  refine (put_any W0 g l [(xs.length : Int)] _ _ (hk.alloc _) (hw.kp ((Kp.refl _).alloc _)) (litInts [(xs.length : Int)] _ rfl (by simp) _ rfl) (by unfold Room; simp; omega)).mono ?_
  rintro e w1 ⟨rfl, hw1, hx1⟩
  have hx1 := (((Kp.refl w).alloc _).wx hgl).trans hx1
  go_wp2
  go_loopw [15] (fun i wr => ∃ k : Nat, k ≤ xs.length ∧ i = .int .i64 k ∧ Wr W0.heap.size wr g ((l ++ [(xs.length : Int)]) ++ (xs.take k).flatMap f) ∧ Wx g w wr) (fun i _ => xs.length - (intOf i).toNat)
  case atStart => exact ⟨0, Nat.zero_le _, rfl, by simpa using hw1, hx1⟩
  case round =>
    clear hw1 hx1
    obtain ⟨k, hk2, rfl, hwr, hxr⟩ := hrel
    have hkr := hxr.to_kp hk hw
    by_cases hlt : k < xs.length
    · obtain ⟨b, o, rfl, hb, h0'⟩ := hS.mark hlt
      have h0 := hkr.cellS (h0' 0 _ rfl); have h1 := hkr.cellS (h0' 1 _ rfl); have h2 := hkr.cellS (h0' 2 _ rfl); have h3 := hkr.cellS (h0' 3 _ rfl); clear h0'; simp only [Nat.add_zero] at h0
      have HT := hid (take_snoc' xs k hlt)
      have HR : Hid (Room ((l ++ [(xs.length : Int)]) ++ (xs.take k).flatMap f) (f xs[k]).length) := hid (room_step f l xs k hlt hroom)
      clear hS
      generalize xs[k] = x at *
      obtain ⟨a, b, c, d⟩ := x
      try dsimp only at *
      go_wp2_with fail
      first | (refine (HC.out wr _ a b c d hkr hxr hwr HR.out).mono ?_) | (refine (HC.out (wr.alloc _) _ a b c d (hkr.alloc _) (hxr.trans (((Kp.refl wr).alloc _).wx hwr.lt)) (hwr.kp ((Kp.refl wr).alloc _)) HR.out).mono ?_)
      rintro e w2 ⟨rfl, hw2, hx2⟩
      go_wp2
      go_roundw
      case rel => exact ⟨k + 1, by omega, by go_num, by rw [HT.out]; simpa using hw2, by first | exact hxr.trans hx2 | exact (hxr.trans (((Kp.refl wr).alloc _).wx hwr.lt)).trans hx2⟩
      case measure => simp [intOf]; omega
    · have HF : Hid (xs.take k = xs) := hid (List.take_of_length_le (by omega))
      go_wp2
      go_end0
      exact ⟨rfl, by rw [HF.out] at hwr; simpa [numL] using hwr, hxr⟩
set_option maxHeartbeats 1000000 in
theorem listNeed_any (W0 : World) (g : Nat) (l : List Int) (f : Need → List Int) (F : FuncId) (bound cap : List Value) (v : Value) (xs : List Need) (w : World) (hk : Kp W0 w) (hw : Wr W0.heap.size w g l)
    (hS : Needs W0 v xs) (hroom : Room l (numL f xs).length) (hr : Real Try.prog F)
    (hf : ∀ (w' : World) (l' : List Int) (a b c d : Int),  Kp W0 w' → Wx g w w' → Wr W0.heap.size w' g l' → Room l' (f ⟨a, b, c, d⟩).length → Writes W0 g l' (f ⟨a, b, c, d⟩) F (bound ++ .agg #[.int .i64 a, .int .i64 b, .int .i64 c, .int .i64 d] :: cap).toArray w') :
    Writes W0 g l (numL f xs) 130 #[.pointer (some ⟨g, 0, none⟩), v, .func (.func F) bound.toArray cap.toArray] w := by
  have HC := hid hf
  clear hf
  have hcf := fun args w => hr.run args w
  have hgl := hw.lt
  obtain ⟨A, c, rfl, hc, hm⟩ := hS.form
  have hroom' := hroom
  unfold Room numL at hroom'
  rw [List.length_cons] at hroom'
  go_enter Try.func130, Try.ntmps130
  go_wp2_with fail
  refine (put_any W0 g l [(xs.length : Int)] _ _ (hk.alloc _) (hw.kp ((Kp.refl _).alloc _)) (litInts [(xs.length : Int)] _ rfl (by simp) _ rfl) (by unfold Room; simp; omega)).mono ?_
  rintro e w1 ⟨rfl, hw1, hx1⟩
  have hx1 := (((Kp.refl w).alloc _).wx hgl).trans hx1
  go_wp2
  go_loopw [15] (fun i wr => ∃ k : Nat, k ≤ xs.length ∧ i = .int .i64 k ∧ Wr W0.heap.size wr g ((l ++ [(xs.length : Int)]) ++ (xs.take k).flatMap f) ∧ Wx g w wr) (fun i _ => xs.length - (intOf i).toNat)
  case atStart => exact ⟨0, Nat.zero_le _, rfl, by simpa using hw1, hx1⟩
  case round =>
    clear hw1 hx1
    obtain ⟨k, hk2, rfl, hwr, hxr⟩ := hrel
    have hkr := hxr.to_kp hk hw
    by_cases hlt : k < xs.length
    · obtain ⟨b, o, rfl, hb, h0'⟩ := hS.need hlt
      have h0 := hkr.cellS (h0' 0 _ rfl); have h1 := hkr.cellS (h0' 1 _ rfl); have h2 := hkr.cellS (h0' 2 _ rfl); have h3 := hkr.cellS (h0' 3 _ rfl); clear h0'; simp only [Nat.add_zero] at h0
      have HT := hid (take_snoc' xs k hlt)
      have HR : Hid (Room ((l ++ [(xs.length : Int)]) ++ (xs.take k).flatMap f) (f xs[k]).length) := hid (room_step f l xs k hlt hroom)
      clear hS
      generalize xs[k] = x at *
      obtain ⟨a, b, c, d⟩ := x
      try dsimp only at *
      go_wp2_with fail
      first | (refine (HC.out wr _ a b c d hkr hxr hwr HR.out).mono ?_) | (refine (HC.out (wr.alloc _) _ a b c d (hkr.alloc _) (hxr.trans (((Kp.refl wr).alloc _).wx hwr.lt)) (hwr.kp ((Kp.refl wr).alloc _)) HR.out).mono ?_)
      rintro e w2 ⟨rfl, hw2, hx2⟩
      go_wp2
      go_roundw
      case rel => exact ⟨k + 1, by omega, by go_num, by rw [HT.out]; simpa using hw2, by first | exact hxr.trans hx2 | exact (hxr.trans (((Kp.refl wr).alloc _).wx hwr.lt)).trans hx2⟩
      case measure => simp [intOf]; omega
    · have HF : Hid (xs.take k = xs) := hid (List.take_of_length_le (by omega))
      go_wp2
      go_end0
      exact ⟨rfl, by rw [HF.out] at hwr; simpa [numL] using hwr, hxr⟩
set_option maxHeartbeats 1000000 in
theorem listSpan_any (W0 : World) (g : Nat) (l : List Int) (f : Span → List Int) (F : FuncId) (bound cap : List Value) (v : Value) (xs : List Span) (w : World) (hk : Kp W0 w) (hw : Wr W0.heap.size w g l)
    (hS : Spans W0 v xs) (hroom : Room l (numL f xs).length) (hr : Real Try.prog F)
    (hf : ∀ (w' : World) (l' : List Int) (a b c : Int),  Kp W0 w' → Wx g w w' → Wr W0.heap.size w' g l' → Room l' (f ⟨a, b, c⟩).length → Writes W0 g l' (f ⟨a, b, c⟩) F (bound ++ .agg #[.int .i64 a, .int .i64 b, .int .i64 c] :: cap).toArray w') :
    Writes W0 g l (numL f xs) 114 #[.pointer (some ⟨g, 0, none⟩), v, .func (.func F) bound.toArray cap.toArray] w := by
  have HC := hid hf
  clear hf
  have hcf := fun args w => hr.run args w
  have hgl := hw.lt
  obtain ⟨A, c, rfl, hc, hm⟩ := hS.form
  have hroom' := hroom
  unfold Room numL at hroom'
  rw [List.length_cons] at hroom'
  go_enter Try.func114, Try.ntmps114
  go_wp2_with fail
  refine (put_any W0 g l [(xs.length : Int)] _ _ (hk.alloc _) (hw.kp ((Kp.refl _).alloc _)) (litInts [(xs.length : Int)] _ rfl (by simp) _ rfl) (by unfold Room; simp; omega)).mono ?_
  rintro e w1 ⟨rfl, hw1, hx1⟩
  have hx1 := (((Kp.refl w).alloc _).wx hgl).trans hx1
  go_wp2
  go_loopw [15] (fun i wr => ∃ k : Nat, k ≤ xs.length ∧ i = .int .i64 k ∧ Wr W0.heap.size wr g ((l ++ [(xs.length : Int)]) ++ (xs.take k).flatMap f) ∧ Wx g w wr) (fun i _ => xs.length - (intOf i).toNat)
  case atStart => exact ⟨0, Nat.zero_le _, rfl, by simpa using hw1, hx1⟩
  case round =>
    clear hw1 hx1
    obtain ⟨k, hk2, rfl, hwr, hxr⟩ := hrel
    have hkr := hxr.to_kp hk hw
    by_cases hlt : k < xs.length
    · obtain ⟨b, o, rfl, hb, h0'⟩ := hS.span hlt
      have h0 := hkr.cellS (h0' 0 _ rfl); have h1 := hkr.cellS (h0' 1 _ rfl); have h2 := hkr.cellS (h0' 2 _ rfl); clear h0'; simp only [Nat.add_zero] at h0
      have HT := hid (take_snoc' xs k hlt)
      have HR : Hid (Room ((l ++ [(xs.length : Int)]) ++ (xs.take k).flatMap f) (f xs[k]).length) := hid (room_step f l xs k hlt hroom)
      clear hS
      generalize xs[k] = x at *
      obtain ⟨a, b, c⟩ := x
      try dsimp only at *
      go_wp2_with fail
      first | (refine (HC.out wr _ a b c hkr hxr hwr HR.out).mono ?_) | (refine (HC.out (wr.alloc _) _ a b c (hkr.alloc _) (hxr.trans (((Kp.refl wr).alloc _).wx hwr.lt)) (hwr.kp ((Kp.refl wr).alloc _)) HR.out).mono ?_)
      rintro e w2 ⟨rfl, hw2, hx2⟩
      go_wp2
      go_roundw
      case rel => exact ⟨k + 1, by omega, by go_num, by rw [HT.out]; simpa using hw2, by first | exact hxr.trans hx2 | exact (hxr.trans (((Kp.refl wr).alloc _).wx hwr.lt)).trans hx2⟩
      case measure => simp [intOf]; omega
    · have HF : Hid (xs.take k = xs) := hid (List.take_of_length_le (by omega))
      go_wp2
      go_end0
      exact ⟨rfl, by rw [HF.out] at hwr; simpa [numL] using hwr, hxr⟩
theorem wNeed_real : Real Try.prog 88 := ⟨_, Try.func88, by kernel_rfl, by kernel_rfl⟩
/-- how an entry lies as a value -/
def EntryV (w : World) (val : Value) (e : Entry) : Prop := ∃ v, val = .agg #[.int .i64 e.term, .int .i64 e.kind, .int .i64 e.replica, .int .i64 e.serial, .int .i64 e.action, v] ∧ Ints w v e.voters
set_option maxHeartbeats 1000000 in
theorem wEntry_any (W0 : World) (g : Nat) (l : List Int) (val : Value) (e : Entry) (w : World) (hk : Kp W0 w) (hw : Wr W0.heap.size w g l) (hv : EntryV W0 val e) (hroom : Room l (numEntry e).length) :
    Writes W0 g l (numEntry e) 119 #[.pointer (some ⟨g, 0, none⟩), val] w := by
  obtain ⟨v, rfl, hp⟩ := hv
  obtain ⟨A, c, rfl, hc, hm⟩ := hp.form
  obtain ⟨x0, x1, x2, x3, x4, past⟩ := e
  dsimp only at *
  go_enter Try.func119, Try.ntmps119
  have hbx := box_new hw #[.int .i64 x0, .int .i64 x1, .int .i64 x2, .int .i64 x3, .int .i64 x4, .slice A past.length c] 44
  have hk1 := hk.alloc (.cells #[.int .i64 x0, .int .i64 x1, .int .i64 x2, .int .i64 x3, .int .i64 x4, .slice A past.length c] 44)
  have hw1 := hw.kp ((Kp.refl w).alloc (.cells #[.int .i64 x0, .int .i64 x1, .int .i64 x2, .int .i64 x3, .int .i64 x4, .slice A past.length c] 44))
  have hx1 := ((Kp.refl w).alloc (.cells #[.int .i64 x0, .int .i64 x1, .int .i64 x2, .int .i64 x3, .int .i64 x4, .slice A past.length c] 44)).wx hw.lt
  obtain ⟨hB1, s1⟩ := hbx
  have c0 := hB1 0 _ rfl
  have c1 := hB1 1 _ rfl
  have c2 := hB1 2 _ rfl
  have c3 := hB1 3 _ rfl
  have c4 := hB1 4 _ rfl
  go_wp2_with fail
  try rw [← World.size_alloc w (.cells #[.int .i64 x0, .int .i64 x1, .int .i64 x2, .int .i64 x3, .int .i64 x4, .slice A past.length c] 44)]
  generalize w.alloc (.cells #[.int .i64 x0, .int .i64 x1, .int .i64 x2, .int .i64 x3, .int .i64 x4, .slice A past.length c] 44) = w1 at *
  generalize w.heap.size = h at *
  refine (put_any W0 g _ [x0, x1, x2, x3, x4] _ _ (hk1.alloc _) (hw1.kp ((Kp.refl _).alloc _)) ?hl (by unfold Room at *; simp only [numEvent, numNeed, numMark, numSpan, numAsk, numEntry, numMerged, List.length_append, List.length_cons, List.length_nil] at *; omega)).mono ?_
  case hl => exact litInts [x0, x1, x2, x3, x4] _ rfl (by simp) _ rfl
  rintro e w2 ⟨rfl, hw2, hy2⟩
  have hz2 := (((Kp.refl w1).alloc _).wx hw1.lt).trans hy2
  have hx2 := hx1.trans hz2
  have hk2 := hx2.to_kp hk hw
  have hB2 := hB1.wx hz2 s1
  have s2 := s1.wx hz2
  clear hy2 hz2
  have c5 := hB2 5 _ rfl
  go_wp2_with fail
  refine (wIntegers_any W0 g _ _ past _ hk2 hw2 hp (by unfold Room at *; simp only [numEvent, numNeed, numMark, numSpan, numAsk, numEntry, numMerged, List.length_append, List.length_cons, List.length_nil] at *; omega)).mono ?_
  rintro e w3 ⟨rfl, hw3, hz3⟩
  have hx3 := hx2.trans hz3
  have hk3 := hx3.to_kp hk hw
  have hB3 := hB2.wx hz3 s2
  have s3 := s2.wx hz3
  clear hz3
  go_wp2
  go_end0
  exact ⟨rfl, by simpa [numEntry] using hw3, hx3⟩
theorem wEntry_real : Real Try.prog 119 := ⟨_, Try.func119, by kernel_rfl, by kernel_rfl⟩
/-- how a request lies as a value -/
def AskV (w : World) (val : Value) (e : Ask) : Prop := ∃ v, val = .agg #[.int .i64 e.number, .int .i64 e.place, .int .i64 e.time, .int .i64 e.replica, .int .i64 e.serial, v] ∧ Needs w v e.needs
set_option maxHeartbeats 1000000 in
theorem wAsk_any (W0 : World) (g : Nat) (l : List Int) (val : Value) (e : Ask) (w : World) (hk : Kp W0 w) (hw : Wr W0.heap.size w g l) (hv : AskV W0 val e) (hroom : Room l (numAsk e).length) :
    Writes W0 g l (numAsk e) 116 #[.pointer (some ⟨g, 0, none⟩), val] w := by
  obtain ⟨v, rfl, hp⟩ := hv
  obtain ⟨A, c, rfl, hc, hm⟩ := hp.form
  obtain ⟨x0, x1, x2, x3, x4, past⟩ := e
  dsimp only at *
  go_enter Try.func116, Try.ntmps116
  have hbx := box_new hw #[.int .i64 x0, .int .i64 x1, .int .i64 x2, .int .i64 x3, .int .i64 x4, .slice A past.length c] 75
  have hk1 := hk.alloc (.cells #[.int .i64 x0, .int .i64 x1, .int .i64 x2, .int .i64 x3, .int .i64 x4, .slice A past.length c] 75)
  have hw1 := hw.kp ((Kp.refl w).alloc (.cells #[.int .i64 x0, .int .i64 x1, .int .i64 x2, .int .i64 x3, .int .i64 x4, .slice A past.length c] 75))
  have hx1 := ((Kp.refl w).alloc (.cells #[.int .i64 x0, .int .i64 x1, .int .i64 x2, .int .i64 x3, .int .i64 x4, .slice A past.length c] 75)).wx hw.lt
  obtain ⟨hB1, s1⟩ := hbx
  have c0 := hB1 0 _ rfl
  have c1 := hB1 1 _ rfl
  have c2 := hB1 2 _ rfl
  have c3 := hB1 3 _ rfl
  have c4 := hB1 4 _ rfl
  go_wp2_with fail
  try rw [← World.size_alloc w (.cells #[.int .i64 x0, .int .i64 x1, .int .i64 x2, .int .i64 x3, .int .i64 x4, .slice A past.length c] 75)]
  generalize w.alloc (.cells #[.int .i64 x0, .int .i64 x1, .int .i64 x2, .int .i64 x3, .int .i64 x4, .slice A past.length c] 75) = w1 at *
  generalize w.heap.size = h at *
  refine (put_any W0 g _ [x0, x1, x2, x3, x4] _ _ (hk1.alloc _) (hw1.kp ((Kp.refl _).alloc _)) ?hl (by unfold Room at *; simp only [numEvent, numNeed, numMark, numSpan, numAsk, numEntry, numMerged, List.length_append, List.length_cons, List.length_nil] at *; omega)).mono ?_
  case hl => exact litInts [x0, x1, x2, x3, x4] _ rfl (by simp) _ rfl
  rintro e w2 ⟨rfl, hw2, hy2⟩
  have hz2 := (((Kp.refl w1).alloc _).wx hw1.lt).trans hy2
  have hx2 := hx1.trans hz2
  have hk2 := hx2.to_kp hk hw
  have hB2 := hB1.wx hz2 s1
  have s2 := s1.wx hz2
  clear hy2 hz2
  have c5 := hB2 5 _ rfl
  go_wp2_with fail
  refine (listNeed_any W0 g _ numNeed 88 [.pointer (some ⟨g, 0, none⟩)] [] _ past _ hk2 hw2 hp (by unfold Room at *; simp only [numEvent, numNeed, numMark, numSpan, numAsk, numEntry, numMerged, List.length_append, List.length_cons, List.length_nil] at *; omega) wNeed_real (fun w' l' a b c d h1 _ h2 h3 => wNeed_any W0 g l' ⟨a, b, c, d⟩ w' h1 h2 h3)).mono ?_
  rintro e w3 ⟨rfl, hw3, hz3⟩
  have hx3 := hx2.trans hz3
  have hk3 := hx3.to_kp hk hw
  have hB3 := hB2.wx hz3 s2
  have s3 := s2.wx hz3
  clear hz3
  go_wp2
  go_end0
  exact ⟨rfl, by simpa [numAsk] using hw3, hx3⟩
end Go.Proofs.Ytmeafoakbkjifaa
namespace Go.Proofs.Ytmeafoakbkjifaa
set_option linter.unusedSimpArgs false
set_option linter.unusedVariables false
open Go.RowKit

set_option maxHeartbeats 400000 in
theorem cTruth_any (b : Bool) (w : World) : Calls Try.prog 117 #[.bool b] w fun e w' => e = .returned (.int .i64 (numB b)) ∧ Kp w w' := by
  cases b <;>
  · go_enter Try.func117, Try.ntmps117
    go_wp2
    go_ret
    exact ⟨rfl, Kp.refl _⟩
/-- how what is known of a convergent cell lies -/
def rdMerged : Rd Merged := fun w cs m => ∃ v, cs = [.bool m.put, .bool m.drop, v] ∧ Marks w v m.marks
theorem rdMerged_stable : Stable rdMerged := fun _ _ _ _ hb ⟨v, h1, h2⟩ => ⟨v, h1, h2.keep (pl_stable _) hb⟩
abbrev Mergeds := Sl rdMerged 3
def rdInts : Rd (List Int) := fun w cs l => ∃ v, cs = [v] ∧ Ints w v l
theorem rdInts_stable : Stable rdInts := fun _ _ _ _ hb ⟨v, h1, h2⟩ => ⟨v, h1, h2.keep (pl_stable _) hb⟩
abbrev Intss := Sl rdInts 1
def rdIntss : Rd (List (List Int)) := fun w cs l => ∃ v, cs = [v] ∧ Intss w v l
theorem rdIntss_stable : Stable rdIntss := fun _ _ _ _ hb ⟨v, h1, h2⟩ => ⟨v, h1, h2.keep rdInts_stable hb⟩
abbrev Intsss := Sl rdIntss 1
theorem Sl.intss {w : World} {A : Option Addr} {n c : Nat} {l : List (List Int)} (h : Intss w (.slice A n c) l) {k : Nat} (hk : k < l.length) :
    ∃ b o A' c', A = some ⟨b, o, none⟩ ∧ b < w.heap.size ∧ w.cell? ⟨b, o + k, none⟩ = some (.slice A' l[k].length c') ∧ Ints w (.slice A' l[k].length c') l[k] := by
  obtain ⟨b, o, cs, hA, had, hcs, hc, v, rfl, ht⟩ := h.at_ hk
  obtain ⟨A', c', rfl, -, -⟩ := ht.form
  exact ⟨b, o, A', c', hA, had, by simpa using hc 0 _ rfl, ht⟩
theorem Sl.intsss {w : World} {A : Option Addr} {n c : Nat} {l : List (List (List Int))} (h : Intsss w (.slice A n c) l) {k : Nat} (hk : k < l.length) :
    ∃ b o A' c', A = some ⟨b, o, none⟩ ∧ b < w.heap.size ∧ w.cell? ⟨b, o + k, none⟩ = some (.slice A' l[k].length c') ∧ Intss w (.slice A' l[k].length c') l[k] := by
  obtain ⟨b, o, cs, hA, had, hcs, hc, v, rfl, ht⟩ := h.at_ hk
  obtain ⟨A', c', rfl, -, -⟩ := ht.form
  exact ⟨b, o, A', c', hA, had, by simpa using hc 0 _ rfl, ht⟩
set_option maxHeartbeats 1000000 in
theorem listInts_any (W0 : World) (g : Nat) (l : List Int) (f : (List Int) → List Int) (F : FuncId) (bound cap : List Value) (v : Value) (xs : List (List Int)) (w : World) (hk : Kp W0 w) (hw : Wr W0.heap.size w g l)
    (hS : Intss W0 v xs) (hroom : Room l (numL f xs).length) (hr : Real Try.prog F)
    (hf : ∀ (w' : World) (l' : List Int) (A' : Option Addr) (c' : Nat) (x : List Int), Ints W0 (.slice A' x.length c') x → Kp W0 w' → Wx g w w' → Wr W0.heap.size w' g l' → Room l' (f x).length → Writes W0 g l' (f x) F (bound ++ .slice A' x.length c' :: cap).toArray w') :
    Writes W0 g l (numL f xs) 91 #[.pointer (some ⟨g, 0, none⟩), v, .func (.func F) bound.toArray cap.toArray] w := by
  have HC := hid hf
  clear hf
  have hcf := fun args w => hr.run args w
  have hgl := hw.lt
  obtain ⟨A, c, rfl, hc, hm⟩ := hS.form
  have hroom' := hroom
  unfold Room numL at hroom'
  rw [List.length_cons] at hroom'
  go_enter Try.func91, Try.ntmps91
  go_wp2_with fail
  refine (put_any W0 g l [(xs.length : Int)] _ _ (hk.alloc _) (hw.kp ((Kp.refl _).alloc _)) (litInts [(xs.length : Int)] _ rfl (by simp) _ rfl) (by unfold Room; simp; omega)).mono ?_
  rintro e w1 ⟨rfl, hw1, hx1⟩
  have hx1 := (((Kp.refl w).alloc _).wx hgl).trans hx1
  go_wp2
  go_loopw [15] (fun i wr => ∃ k : Nat, k ≤ xs.length ∧ i = .int .i64 k ∧ Wr W0.heap.size wr g ((l ++ [(xs.length : Int)]) ++ (xs.take k).flatMap f) ∧ Wx g w wr) (fun i _ => xs.length - (intOf i).toNat)
  case atStart => exact ⟨0, Nat.zero_le _, rfl, by simpa using hw1, hx1⟩
  case round =>
    clear hw1 hx1
    obtain ⟨k, hk2, rfl, hwr, hxr⟩ := hrel
    have hkr := hxr.to_kp hk hw
    by_cases hlt : k < xs.length
    · obtain ⟨b, o, A', c', rfl, hb, h0', ht⟩ := hS.intss hlt
      have h0 := hkr.cellS h0'; clear h0'
      have HT := hid (take_snoc' xs k hlt)
      have HR : Hid (Room ((l ++ [(xs.length : Int)]) ++ (xs.take k).flatMap f) (f xs[k]).length) := hid (room_step f l xs k hlt hroom)
      clear hS
      generalize xs[k] = x at *
      obtain x := x
      try dsimp only at *
      go_wp2_with fail
      first | (refine (HC.out wr _ A' c' x ht hkr hxr hwr HR.out).mono ?_) | (refine (HC.out (wr.alloc _) _ A' c' x ht (hkr.alloc _) (hxr.trans (((Kp.refl wr).alloc _).wx hwr.lt)) (hwr.kp ((Kp.refl wr).alloc _)) HR.out).mono ?_)
      rintro e w2 ⟨rfl, hw2, hx2⟩
      go_wp2
      go_roundw
      case rel => exact ⟨k + 1, by omega, by go_num, by rw [HT.out]; simpa using hw2, by first | exact hxr.trans hx2 | exact (hxr.trans (((Kp.refl wr).alloc _).wx hwr.lt)).trans hx2⟩
      case measure => simp [intOf]; omega
    · have HF : Hid (xs.take k = xs) := hid (List.take_of_length_le (by omega))
      go_wp2
      go_end0
      exact ⟨rfl, by rw [HF.out] at hwr; simpa [numL] using hwr, hxr⟩
set_option maxHeartbeats 1000000 in
theorem listIntss_any (W0 : World) (g : Nat) (l : List Int) (f : (List (List Int)) → List Int) (F : FuncId) (bound cap : List Value) (v : Value) (xs : List (List (List Int))) (w : World) (hk : Kp W0 w) (hw : Wr W0.heap.size w g l)
    (hS : Intsss W0 v xs) (hroom : Room l (numL f xs).length) (hr : Real Try.prog F)
    (hf : ∀ (w' : World) (l' : List Int) (A' : Option Addr) (c' : Nat) (x : List (List Int)), Intss W0 (.slice A' x.length c') x → Kp W0 w' → Wx g w w' → Wr W0.heap.size w' g l' → Room l' (f x).length → Writes W0 g l' (f x) F (bound ++ .slice A' x.length c' :: cap).toArray w') :
    Writes W0 g l (numL f xs) 92 #[.pointer (some ⟨g, 0, none⟩), v, .func (.func F) bound.toArray cap.toArray] w := by
  have HC := hid hf
  clear hf
  have hcf := fun args w => hr.run args w
  have hgl := hw.lt
  obtain ⟨A, c, rfl, hc, hm⟩ := hS.form
  have hroom' := hroom
  unfold Room numL at hroom'
  rw [List.length_cons] at hroom'
  go_enter Try.func92, Try.ntmps92
  go_wp2_with fail
  refine (put_any W0 g l [(xs.length : Int)] _ _ (hk.alloc _) (hw.kp ((Kp.refl _).alloc _)) (litInts [(xs.length : Int)] _ rfl (by simp) _ rfl) (by unfold Room; simp; omega)).mono ?_
  rintro e w1 ⟨rfl, hw1, hx1⟩
  have hx1 := (((Kp.refl w).alloc _).wx hgl).trans hx1
  go_wp2
  go_loopw [15] (fun i wr => ∃ k : Nat, k ≤ xs.length ∧ i = .int .i64 k ∧ Wr W0.heap.size wr g ((l ++ [(xs.length : Int)]) ++ (xs.take k).flatMap f) ∧ Wx g w wr) (fun i _ => xs.length - (intOf i).toNat)
  case atStart => exact ⟨0, Nat.zero_le _, rfl, by simpa using hw1, hx1⟩
  case round =>
    clear hw1 hx1
    obtain ⟨k, hk2, rfl, hwr, hxr⟩ := hrel
    have hkr := hxr.to_kp hk hw
    by_cases hlt : k < xs.length
    · obtain ⟨b, o, A', c', rfl, hb, h0', ht⟩ := hS.intsss hlt
      have h0 := hkr.cellS h0'; clear h0'
      have HT := hid (take_snoc' xs k hlt)
      have HR : Hid (Room ((l ++ [(xs.length : Int)]) ++ (xs.take k).flatMap f) (f xs[k]).length) := hid (room_step f l xs k hlt hroom)
      clear hS
      generalize xs[k] = x at *
      obtain x := x
      try dsimp only at *
      go_wp2_with fail
      first | (refine (HC.out wr _ A' c' x ht hkr hxr hwr HR.out).mono ?_) | (refine (HC.out (wr.alloc _) _ A' c' x ht (hkr.alloc _) (hxr.trans (((Kp.refl wr).alloc _).wx hwr.lt)) (hwr.kp ((Kp.refl wr).alloc _)) HR.out).mono ?_)
      rintro e w2 ⟨rfl, hw2, hx2⟩
      go_wp2
      go_roundw
      case rel => exact ⟨k + 1, by omega, by go_num, by rw [HT.out]; simpa using hw2, by first | exact hxr.trans hx2 | exact (hxr.trans (((Kp.refl wr).alloc _).wx hwr.lt)).trans hx2⟩
      case measure => simp [intOf]; omega
    · have HF : Hid (xs.take k = xs) := hid (List.take_of_length_le (by omega))
      go_wp2
      go_end0
      exact ⟨rfl, by rw [HF.out] at hwr; simpa [numL] using hwr, hxr⟩
end Go.Proofs.Ytmeafoakbkjifaa
namespace Go.Proofs.Ytmeafoakbkjifaa
set_option linter.unusedSimpArgs false
set_option linter.unusedVariables false
open Go.RowKit

theorem cTruth_eq (b : Bool) (w : World) : Calls Try.prog 117 #[.bool b] w fun e w' => e = .returned (.int .i64 (numB b)) ∧ w' = w := by
  cases b <;>
  · go_enter Try.func117, Try.ntmps117
    go_wp2
    go_ret
    exact ⟨rfl, rfl⟩
set_option maxHeartbeats 1000000 in
theorem wMerged_any (W0 : World) (g : Nat) (l : List Int) (v : Value) (x : Merged) (w : World) (hk : Kp W0 w) (hw : Wr W0.heap.size w g l) (hp : Marks W0 v x.marks) (hroom : Room l (numMerged x).length) :
    Writes W0 g l (numMerged x) 90 #[.pointer (some ⟨g, 0, none⟩), .agg #[.bool x.put, .bool x.drop, v]] w := by
  obtain ⟨A, c, rfl, hc, hm⟩ := hp.form
  obtain ⟨x0, x1, past⟩ := x
  dsimp only at *
  go_enter Try.func90, Try.ntmps90
  have hbx := box_new hw #[.bool x0, .bool x1, .slice A past.length c] 98
  have hk1 := hk.alloc (.cells #[.bool x0, .bool x1, .slice A past.length c] 98)
  have hw1 := hw.kp ((Kp.refl w).alloc (.cells #[.bool x0, .bool x1, .slice A past.length c] 98))
  have hx1 := ((Kp.refl w).alloc (.cells #[.bool x0, .bool x1, .slice A past.length c] 98)).wx hw.lt
  obtain ⟨hB1, s1⟩ := hbx
  have c0 := hB1 0 _ rfl
  have c1 := hB1 1 _ rfl
  have l1 : (w.alloc (.cells #[.bool x0, .bool x1, .slice A past.length c] 98)).heap.size = w.heap.size + 1 := by simp
  have hkd := (hk1.alloc (.cells #[.int .i64 (numB x0), .int .i64 (numB x1)] 3)).drew
  have hpd := ((Kp.refl (w.alloc (.cells #[.bool x0, .bool x1, .slice A past.length c] 98))).alloc (.cells #[.int .i64 (numB x0), .int .i64 (numB x1)] 3)).drew
  have hld : Ints ((w.alloc (.cells #[.bool x0, .bool x1, .slice A past.length c] 98)).alloc (.cells #[.int .i64 (numB x0), .int .i64 (numB x1)] 3)).drew (.slice (some ⟨w.heap.size + 1, 0, none⟩) 2 2) [numB x0, numB x1] := by
    rw [← l1]
    exact (litInts [numB x0, numB x1] #[.int .i64 (numB x0), .int .i64 (numB x1)] rfl (by simp) 2 rfl).keep (pl_stable _) (Kp.refl _).drew
  have hpt := put_any W0 g l [numB x0, numB x1] _ _ hkd (hw1.kp hpd) hld (by unfold Room at *; simp only [numEvent, numNeed, numMark, numSpan, numAsk, numEntry, numMerged, List.length_append, List.length_cons, List.length_nil] at *; omega)
  go_wp2_with fail
  go_region_with (first | (go_at_call 117; refine (cTruth_eq _ _).mono ?_; rintro e w' ⟨rfl, rfl⟩) | (go_at_call 83; refine hpt.mono ?_; rintro e w3 ⟨rfl, hw3, hy3⟩))
  all_goals
    have hz3 := (hpd.wx hw1.lt).trans hy3
    have hx3 := hx1.trans hz3
    have hk3 := hx3.to_kp hk hw
    have hB3 := hB1.wx hz3 s1
    have s3 := s1.wx hz3
    clear hy3 hz3 c0 c1 l1 hkd hpd hld hpt hB1 s1 hx1 hw1 hk1
    generalize w.heap.size = h at *
    have c2 := hB3 2 _ rfl
    go_wp2_with fail
    refine (listMark_any W0 g _ numMark 125 [.pointer (some ⟨g, 0, none⟩)] [] _ past _ hk3 hw3 hp (by unfold Room at *; simp only [numEvent, numNeed, numMark, numSpan, numAsk, numEntry, numMerged, List.length_append, List.length_cons, List.length_nil] at *; omega) wMark_real (fun w' l' a b c d h1 _ h2 h3 => wMark_any W0 g l' a b c d w' h1 h2 h3)).mono ?_
    rintro e w4 ⟨rfl, hw4, hz4⟩
    have hx4 := hx3.trans hz4
    have hk4 := hx4.to_kp hk hw
    have hB4 := hB3.wx hz4 s3
    have s4 := s3.wx hz4
    clear hz4
    go_wp2
    go_end0
    exact ⟨rfl, by simpa [numMerged] using hw4, hx4⟩
theorem wMerged_real : Real Try.prog 90 := ⟨_, Try.func90, by kernel_rfl, by kernel_rfl⟩
end Go.Proofs.Ytmeafoakbkjifaa
namespace Go.Proofs.Ytmeafoakbkjifaa
set_option linter.unusedSimpArgs false
set_option linter.unusedVariables false
open Go.RowKit

theorem Sl.merged {w : World} {A : Option Addr} {n c : Nat} {l : List Merged} (h : Mergeds w (.slice A n c) l) {k : Nat} (hk : k < l.length) :
    ∃ b o A' c', A = some ⟨b, o, none⟩ ∧ b < w.heap.size ∧ w.cell? ⟨b, o + k * 3, none⟩ = some (.bool l[k].put) ∧ w.cell? ⟨b, o + k * 3 + 1, none⟩ = some (.bool l[k].drop) ∧ w.cell? ⟨b, o + k * 3 + 2, none⟩ = some (.slice A' l[k].marks.length c') ∧ Marks w (.slice A' l[k].marks.length c') l[k].marks := by
  obtain ⟨b, o, cs, hA, had, hcs, hc, v, rfl, ht⟩ := h.at_ hk
  obtain ⟨A', c', rfl, -, -⟩ := ht.form
  exact ⟨b, o, A', c', hA, had, hc 0 _ rfl, hc 1 _ rfl, hc 2 _ rfl, ht⟩
set_option maxHeartbeats 1000000 in
theorem listMerged_any (W0 : World) (g : Nat) (l : List Int) (f : Merged → List Int) (F : FuncId) (bound cap : List Value) (v : Value) (xs : List Merged) (w : World) (hk : Kp W0 w) (hw : Wr W0.heap.size w g l)
    (hS : Mergeds W0 v xs) (hroom : Room l (numL f xs).length) (hr : Real Try.prog F)
    (hf : ∀ (w' : World) (l' : List Int) (A' : Option Addr) (c' : Nat) (x0 x1 : Bool) (ms : List Mark), Marks W0 (.slice A' ms.length c') ms → Kp W0 w' → Wx g w w' → Wr W0.heap.size w' g l' → Room l' (f ⟨x0, x1, ms⟩).length → Writes W0 g l' (f ⟨x0, x1, ms⟩) F (bound ++ .agg #[.bool x0, .bool x1, .slice A' ms.length c'] :: cap).toArray w') :
    Writes W0 g l (numL f xs) 89 #[.pointer (some ⟨g, 0, none⟩), v, .func (.func F) bound.toArray cap.toArray] w := by
  have HC := hid hf
  clear hf
  have hcf := fun args w => hr.run args w
  have hgl := hw.lt
  obtain ⟨A, c, rfl, hc, hm⟩ := hS.form
  have hroom' := hroom
  unfold Room numL at hroom'
  rw [List.length_cons] at hroom'
  go_enter Try.func89, Try.ntmps89
  go_wp2_with fail
  refine (put_any W0 g l [(xs.length : Int)] _ _ (hk.alloc _) (hw.kp ((Kp.refl _).alloc _)) (litInts [(xs.length : Int)] _ rfl (by simp) _ rfl) (by unfold Room; simp; omega)).mono ?_
  rintro e w1 ⟨rfl, hw1, hx1⟩
  have hx1 := (((Kp.refl w).alloc _).wx hgl).trans hx1
  go_wp2
  go_loopw [15] (fun i wr => ∃ k : Nat, k ≤ xs.length ∧ i = .int .i64 k ∧ Wr W0.heap.size wr g ((l ++ [(xs.length : Int)]) ++ (xs.take k).flatMap f) ∧ Wx g w wr) (fun i _ => xs.length - (intOf i).toNat)
  case atStart => exact ⟨0, Nat.zero_le _, rfl, by simpa using hw1, hx1⟩
  case round =>
    clear hw1 hx1
    obtain ⟨k, hk2, rfl, hwr, hxr⟩ := hrel
    have hkr := hxr.to_kp hk hw
    by_cases hlt : k < xs.length
    · obtain ⟨b, o, A', c', rfl, hb, h0', h1', h2', ht⟩ := hS.merged hlt
      have h0 := hkr.cellS h0'; have h1 := hkr.cellS h1'; have h2 := hkr.cellS h2'; clear h0' h1' h2'
      have HT := hid (take_snoc' xs k hlt)
      have HR : Hid (Room ((l ++ [(xs.length : Int)]) ++ (xs.take k).flatMap f) (f xs[k]).length) := hid (room_step f l xs k hlt hroom)
      clear hS
      generalize xs[k] = x at *
      obtain ⟨x0, x1, ms⟩ := x
      try dsimp only at *
      go_wp2_with fail
      first | (refine (HC.out wr _ A' c' x0 x1 ms ht hkr hxr hwr HR.out).mono ?_) | (refine (HC.out (wr.alloc _) _ A' c' x0 x1 ms ht (hkr.alloc _) (hxr.trans (((Kp.refl wr).alloc _).wx hwr.lt)) (hwr.kp ((Kp.refl wr).alloc _)) HR.out).mono ?_)
      rintro e w2 ⟨rfl, hw2, hx2⟩
      go_wp2
      go_roundw
      case rel => exact ⟨k + 1, by omega, by go_num, by rw [HT.out]; simpa using hw2, by first | exact hxr.trans hx2 | exact (hxr.trans (((Kp.refl wr).alloc _).wx hwr.lt)).trans hx2⟩
      case measure => simp [intOf]; omega
    · have HF : Hid (xs.take k = xs) := hid (List.take_of_length_le (by omega))
      go_wp2
      go_end0
      exact ⟨rfl, by rw [HF.out] at hwr; simpa [numL] using hwr, hxr⟩

set_option maxHeartbeats 400000 in
/-- the closure of base: a list of lists of lists -/
theorem wBase1_any (W0 : World) (g b1 : Nat) (l : List Int) (v : Value) (xs : List (List Int)) (w : World) (hk : Kp W0 w) (hw : Wr W0.heap.size w g l) (hv : Intss W0 v xs) (hroom : Room l (numL numIs xs).length)
    (hc : w.cell? ⟨b1, 0, none⟩ = some (.pointer (some ⟨g, 0, none⟩))) :
    Writes W0 g l (numL numIs xs) 93 #[v, .pointer (some ⟨b1, 0, none⟩)] w := by
  have hb1 := block_lt_of_cell hc
  go_enter Try.func93, Try.ntmps93
  go_wp2_with fail
  refine (listInts_any W0 g l numIs 87 [.pointer (some ⟨g, 0, none⟩)] [] v xs _ hk hw hv hroom wIntegers_real (fun w' l' A' c' x ht h1 _ h2 h3 => wIntegers_any W0 g l' _ x w' h1 h2 ht h3)).mono ?_
  rintro e w1 ⟨rfl, hw1, hx1⟩
  go_wp2
  go_end0
  exact ⟨rfl, hw1, hx1⟩
theorem wBase1_real : Real Try.prog 93 := ⟨_, Try.func93, by kernel_rfl, by kernel_rfl⟩
end Go.Proofs.Ytmeafoakbkjifaa
namespace Go.Proofs.Ytmeafoakbkjifaa
set_option linter.unusedSimpArgs false
set_option linter.unusedVariables false
open Go.RowKit

/-- how a base lies as a value -/
def BaseV (w : World) (val : Value) (b : Base) : Prop :=
  ∃ v0 v2 v3 v4 v5 v6, val = .agg #[v0, .int .i64 b.time, v2, v3, v4, v5, v6] ∧ Ints w v0 b.clock ∧ Ints w v2 b.state ∧ Mergeds w v3 b.merged ∧ Intss w v4 b.rights ∧ Intsss w v5 b.shares ∧ Ints w v6 b.places
set_option maxHeartbeats 2000000 in
theorem wBase_any (W0 : World) (g : Nat) (l : List Int) (val : Value) (x : Base) (w : World) (hk : Kp W0 w) (hw : Wr W0.heap.size w g l) (hv : BaseV W0 val x) (hroom : Room l (numBase x).length) :
    Writes W0 g l (numBase x) 58 #[.pointer (some ⟨g, 0, none⟩), val] w := by
  obtain ⟨v0, v2, v3, v4, v5, v6, rfl, p0, p2, p3, p4, p5, p6⟩ := hv
  obtain ⟨A0, c0, rfl, hc0, hm0⟩ := p0.form
  obtain ⟨A2, c2, rfl, hc2, hm2⟩ := p2.form
  obtain ⟨A3, c3, rfl, hc3, hm3⟩ := p3.form
  obtain ⟨A4, c4, rfl, hc4, hm4⟩ := p4.form
  obtain ⟨A5, c5, rfl, hc5, hm5⟩ := p5.form
  obtain ⟨A6, c6, rfl, hc6, hm6⟩ := p6.form
  obtain ⟨x0, x1, x2, x3, x4, x5, x6⟩ := x
  dsimp only at *
  go_enter Try.func58, Try.ntmps58
  have q0 := box_new hw #[.pointer (some ⟨g, 0, none⟩)] 103
  obtain ⟨qB, qs⟩ := q0
  have hw0 := hw.kp ((Kp.refl w).alloc (.cells #[.pointer (some ⟨g, 0, none⟩)] 103))
  have hk0 := hk.alloc (.cells #[.pointer (some ⟨g, 0, none⟩)] 103)
  have hx0 := ((Kp.refl w).alloc (.cells #[.pointer (some ⟨g, 0, none⟩)] 103)).wx hw.lt
  have l0 : (w.alloc (.cells #[.pointer (some ⟨g, 0, none⟩)] 103)).heap.size = w.heap.size + 1 := by simp
  have q1 := box_new hw0 #[.slice A0 x0.length c0, .int .i64 x1, .slice A2 x2.length c2, .slice A3 x3.length c3, .slice A4 x4.length c4, .slice A5 x5.length c5, .slice A6 x6.length c6] 42
  obtain ⟨hB1, s1⟩ := q1
  have kx := (Kp.refl (w.alloc (.cells #[.pointer (some ⟨g, 0, none⟩)] 103))).alloc (.cells #[.slice A0 x0.length c0, .int .i64 x1, .slice A2 x2.length c2, .slice A3 x3.length c3, .slice A4 x4.length c4, .slice A5 x5.length c5, .slice A6 x6.length c6] 42)
  have hz1 := kx.wx hw0.lt
  have hw1 := hw0.kp kx
  have hk1 := hk0.trans kx
  have hx1 := hx0.trans hz1
  have qB1 := qB.wx hz1 qs
  have qs1 := qs.wx hz1
  rw [l0] at hB1 s1
  have d1 := qB1 0 _ rfl
  have c0' := hB1 0 _ rfl
  go_wp2_with fail
  generalize (w.alloc (.cells #[.pointer (some ⟨g, 0, none⟩)] 103)).alloc (.cells #[.slice A0 x0.length c0, .int .i64 x1, .slice A2 x2.length c2, .slice A3 x3.length c3, .slice A4 x4.length c4, .slice A5 x5.length c5, .slice A6 x6.length c6] 42) = w1 at *
  clear qB qs hw0 hk0 hx0 l0 kx hz1
  generalize w.heap.size = h at *
  refine (wIntegers_any W0 g _ _ x0 _ hk1 hw1 p0 (by unfold Room at *; simp only [numBase, List.length_append, List.length_cons, List.length_nil] at *; omega)).mono ?_
  rintro e w2 ⟨rfl, hw2, hz2⟩
  have hx2 := hx1.trans hz2
  have hk2 := hx2.to_kp hk hw
  have hB2 := hB1.wx hz2 s1
  have s2 := s1.wx hz2
  have qB2 := qB1.wx hz2 qs1
  have qs2 := qs1.wx hz2
  have d2 := qB2 0 _ rfl
  clear hz2
  have e1 := hB2 1 _ rfl
  go_wp2_with fail
  refine (put_any W0 g _ [x1] _ _ (hk2.alloc _) (hw2.kp ((Kp.refl _).alloc _)) ?hl (by unfold Room at *; simp only [numBase, List.length_append, List.length_cons, List.length_nil] at *; omega)).mono ?_
  case hl => exact litInts [x1] _ rfl (by simp) _ rfl
  rintro e w3 ⟨rfl, hw3, hy3⟩
  have hz3 := (((Kp.refl w2).alloc _).wx hw2.lt).trans hy3
  clear hy3
  have hx3 := hx2.trans hz3
  have hk3 := hx3.to_kp hk hw
  have hB3 := hB2.wx hz3 s2
  have s3 := s2.wx hz3
  have qB3 := qB2.wx hz3 qs2
  have qs3 := qs2.wx hz3
  have d3 := qB3 0 _ rfl
  clear hz3
  have e2 := hB3 2 _ rfl
  go_wp2_with fail
  refine (wIntegers_any W0 g _ _ x2 _ hk3 hw3 p2 (by unfold Room at *; simp only [numBase, List.length_append, List.length_cons, List.length_nil] at *; omega)).mono ?_
  rintro e w4 ⟨rfl, hw4, hz4⟩
  have hx4 := hx3.trans hz4
  have hk4 := hx4.to_kp hk hw
  have hB4 := hB3.wx hz4 s3
  have s4 := s3.wx hz4
  have qB4 := qB3.wx hz4 qs3
  have qs4 := qs3.wx hz4
  have d4 := qB4 0 _ rfl
  clear hz4
  have e3 := hB4 3 _ rfl
  go_wp2_with fail
  refine (listMerged_any W0 g _ numMerged 90 [.pointer (some ⟨g, 0, none⟩)] [] _ x3 _ hk4 hw4 p3 (by unfold Room at *; simp only [numBase, List.length_append, List.length_cons, List.length_nil] at *; omega) wMerged_real (fun w' l' A' c' y0 y1 ms ht h1 _ h2 h3 => wMerged_any W0 g l' _ ⟨y0, y1, ms⟩ w' h1 h2 ht h3)).mono ?_
  rintro e w5 ⟨rfl, hw5, hz5⟩
  have hx5 := hx4.trans hz5
  have hk5 := hx5.to_kp hk hw
  have hB5 := hB4.wx hz5 s4
  have s5 := s4.wx hz5
  have qB5 := qB4.wx hz5 qs4
  have qs5 := qs4.wx hz5
  have d5 := qB5 0 _ rfl
  clear hz5
  have e4 := hB5 4 _ rfl
  go_wp2_with fail
  refine (listInts_any W0 g _ numIs 87 [.pointer (some ⟨g, 0, none⟩)] [] _ x4 _ hk5 hw5 p4 (by unfold Room at *; simp only [numBase, List.length_append, List.length_cons, List.length_nil] at *; omega) wIntegers_real (fun w' l' A' c' x ht h1 _ h2 h3 => wIntegers_any W0 g l' _ x w' h1 h2 ht h3)).mono ?_
  rintro e w6 ⟨rfl, hw6, hz6⟩
  have hx6 := hx5.trans hz6
  have hk6 := hx6.to_kp hk hw
  have hB6 := hB5.wx hz6 s5
  have s6 := s5.wx hz6
  have qB6 := qB5.wx hz6 qs5
  have qs6 := qs5.wx hz6
  have d6 := qB6 0 _ rfl
  clear hz6
  have e5 := hB6 5 _ rfl
  go_wp2_with fail
  refine (listIntss_any W0 g _ (numL numIs) 93 [] [.pointer (some ⟨h, 0, none⟩)] _ x5 _ hk6 hw6 p5 (by unfold Room at *; simp only [numBase, List.length_append, List.length_cons, List.length_nil] at *; omega) wBase1_real (fun w' l' A' c' x ht h1 hx h2 h3 => wBase1_any W0 g h l' _ x w' h1 h2 ht h3 (hx.cellS (p := ⟨h, 0, none⟩) qs6 d6))).mono ?_
  rintro e w7 ⟨rfl, hw7, hz7⟩
  have hx7 := hx6.trans hz7
  have hk7 := hx7.to_kp hk hw
  have hB7 := hB6.wx hz7 s6
  have s7 := s6.wx hz7
  have qB7 := qB6.wx hz7 qs6
  have qs7 := qs6.wx hz7
  have d7 := qB7 0 _ rfl
  clear hz7
  have e6 := hB7 6 _ rfl
  go_wp2_with fail
  refine (wIntegers_any W0 g _ _ x6 _ hk7 hw7 p6 (by unfold Room at *; simp only [numBase, List.length_append, List.length_cons, List.length_nil] at *; omega)).mono ?_
  rintro e w8 ⟨rfl, hw8, hz8⟩
  have hx8 := hx7.trans hz8
  have hk8 := hx8.to_kp hk hw
  have hB8 := hB7.wx hz8 s7
  have s8 := s7.wx hz8
  have qB8 := qB7.wx hz8 qs7
  have qs8 := qs7.wx hz8
  have d8 := qB8 0 _ rfl
  clear hz8
  go_wp2
  go_end0
  exact ⟨rfl, by simpa [numBase] using hw8, hx8⟩
theorem wBase_real : Real Try.prog 58 := ⟨_, Try.func58, by kernel_rfl, by kernel_rfl⟩
end Go.Proofs.Ytmeafoakbkjifaa
