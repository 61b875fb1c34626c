/-
The writer: entries, requests, lists of marks and needs.
The writer: what is known of a convergent cell, lists of lists.
The writer: what is known of a convergent cell, and a base.
The writer: lists of what is known of convergent cells, and a base.
The writer: a base.
-/
import Derived.Test.YtmokpnkpfodppaaCodW3
import Derived.Deep.RegionWith
namespace Go.Proofs.Ytmokpnkpfodppaa
set_option linter.unusedSimpArgs false
set_option linter.unusedVariables false
open Go.RowKit

def encMark (m : Mark) : List Value := [.int .i64 m.replica, .int .i64 m.number, .int .i64 m.time, .int .i64 m.value]
theorem encMark_len (r : Mark) : (encMark r).length = 4 := rfl
theorem encMark_one (r : Mark) : ∀ u ∈ encMark r, u.oneCell' = true := by simp [encMark, Value.oneCell']
abbrev Marks := Sl (Pl encMark) 4
def encNeed (n : Need) : List Value := [.int .i64 n.kind, .int .i64 n.index, .int .i64 n.element, .int .i64 n.amount]
theorem encNeed_len (r : Need) : (encNeed r).length = 4 := rfl
theorem encNeed_one (r : Need) : ∀ u ∈ encNeed r, u.oneCell' = true := by simp [encNeed, Value.oneCell']
abbrev Needs := Sl (Pl encNeed) 4
def encSpan (s : Span) : List Value := [.int .i64 s.replica, .int .i64 s.first, .int .i64 s.last]
theorem encSpan_len (r : Span) : (encSpan r).length = 3 := rfl
theorem encSpan_one (r : Span) : ∀ u ∈ encSpan r, u.oneCell' = true := by simp [encSpan, Value.oneCell']
abbrev Spans := Sl (Pl encSpan) 3
theorem Sl.mark {w : World} {A : Option Addr} {n c : Nat} {l : List Mark} (h : Marks w (.slice A n c) l) {k : Nat} (hk : k < l.length) :
    ∃ b o, A = some ⟨b, o, none⟩ ∧ b < w.heap.size ∧ ∀ j u, (encMark l[k])[j]? = some u → w.cell? ⟨b, o + k * 4 + j, none⟩ = some u := by
  obtain ⟨b, o, cs, hA, had, hcs, hc, hr⟩ := h.at_ hk
  unfold Pl at hr
  subst hr
  exact ⟨b, o, hA, had, hc⟩
theorem Sl.need {w : World} {A : Option Addr} {n c : Nat} {l : List Need} (h : Needs w (.slice A n c) l) {k : Nat} (hk : k < l.length) :
    ∃ b o, A = some ⟨b, o, none⟩ ∧ b < w.heap.size ∧ ∀ j u, (encNeed l[k])[j]? = some u → w.cell? ⟨b, o + k * 4 + j, none⟩ = some u := by
  obtain ⟨b, o, cs, hA, had, hcs, hc, hr⟩ := h.at_ hk
  unfold Pl at hr
  subst hr
  exact ⟨b, o, hA, had, hc⟩
theorem Sl.span {w : World} {A : Option Addr} {n c : Nat} {l : List Span} (h : Spans w (.slice A n c) l) {k : Nat} (hk : k < l.length) :
    ∃ b o, A = some ⟨b, o, none⟩ ∧ b < w.heap.size ∧ ∀ j u, (encSpan l[k])[j]? = some u → w.cell? ⟨b, o + k * 3 + j, none⟩ = some u := by
  obtain ⟨b, o, cs, hA, had, hcs, hc, hr⟩ := h.at_ hk
  unfold Pl at hr
  subst hr
  exact ⟨b, o, hA, had, hc⟩
set_option maxHeartbeats 1000000 in
theorem listNeed_any (W0 : World) (g : Nat) (l : List Int) (f : Need → List Int) (F : FuncId) (bound cap : List Value) (v : Value) (xs : List Need) (w : World) (hk : Kp W0 w) (hw : Wr W0.heap.size w g l)
    (hS : Needs W0 v xs) (hroom : Room l (numL f xs).length) (hr : Real Try.prog F)
    (hf : ∀ (w' : World) (l' : List Int) (a b c d : Int),  Kp W0 w' → Wx g w w' → Wr W0.heap.size w' g l' → Room l' (f ⟨a, b, c, d⟩).length → Writes W0 g l' (f ⟨a, b, c, d⟩) F (bound ++ .agg #[.int .i64 a, .int .i64 b, .int .i64 c, .int .i64 d] :: cap).toArray w') :
    Writes W0 g l (numL f xs) 94 #[.pointer (some ⟨g, 0, none⟩), v, .func (.func F) bound.toArray cap.toArray] w := by
  have HC := hid hf
  clear hf
  have hcf := fun args w => hr.run args w
  have hgl := hw.lt
  obtain ⟨A, c, rfl, hc, hm⟩ := hS.form
  have hroom' := hroom
  unfold Room numL at hroom'
  rw [List.length_cons] at hroom'
  go_enter Try.func94, Try.ntmps94
  go_wp2_with fail
  refine (put_any W0 g l [(xs.length : Int)] _ _ (hk.alloc _) (hw.kp ((Kp.refl _).alloc _)) (litInts [(xs.length : Int)] _ rfl (by simp) _ rfl) (by unfold Room; simp; omega)).mono ?_
  rintro e w1 ⟨rfl, hw1, hx1⟩
  have hx1 := (((Kp.refl w).alloc _).wx hgl).trans hx1
  go_wp2
  go_loopw [15] (fun i wr => ∃ k : Nat, k ≤ xs.length ∧ i = .int .i64 k ∧ Wr W0.heap.size wr g ((l ++ [(xs.length : Int)]) ++ (xs.take k).flatMap f) ∧ Wx g w wr) (fun i _ => xs.length - (intOf i).toNat)
  case atStart => exact ⟨0, Nat.zero_le _, rfl, by simpa using hw1, hx1⟩
  case round =>
    clear hw1 hx1
    obtain ⟨k, hk2, rfl, hwr, hxr⟩ := hrel
    have hkr := hxr.to_kp hk hw
    by_cases hlt : k < xs.length
    · obtain ⟨b, o, rfl, hb, h0'⟩ := hS.need hlt
      have h0 := hkr.cellS (h0' 0 _ rfl); have h1 := hkr.cellS (h0' 1 _ rfl); have h2 := hkr.cellS (h0' 2 _ rfl); have h3 := hkr.cellS (h0' 3 _ rfl); clear h0'; simp only [Nat.add_zero] at h0
      have HT := hid (take_snoc' xs k hlt)
      have HR : Hid (Room ((l ++ [(xs.length : Int)]) ++ (xs.take k).flatMap f) (f xs[k]).length) := hid (room_step f l xs k hlt hroom)
      clear hS
      generalize xs[k] = x at *
      obtain ⟨a, b, c, d⟩ := x
      try dsimp only at *
      go_wp2_with fail
      first | (refine (HC.out wr _ a b c d hkr hxr hwr HR.out).mono ?_) | (refine (HC.out (wr.alloc _) _ a b c d (hkr.alloc _) (hxr.trans (((Kp.refl wr).alloc _).wx hwr.lt)) (hwr.kp ((Kp.refl wr).alloc _)) HR.out).mono ?_)
      rintro e w2 ⟨rfl, hw2, hx2⟩
      go_wp2
      go_roundw
      case rel => exact ⟨k + 1, by omega, by go_num, by rw [HT.out]; simpa using hw2, by first | exact hxr.trans hx2 | exact (hxr.trans (((Kp.refl wr).alloc _).wx hwr.lt)).trans hx2⟩
      case measure => simp [intOf]; omega
    · have HF : Hid (xs.take k = xs) := hid (List.take_of_length_le (by omega))
      go_wp2
      go_end0
      exact ⟨rfl, by rw [HF.out] at hwr; simpa [numL] using hwr, hxr⟩
set_option maxHeartbeats 1000000 in
theorem listSpan_any (W0 : World) (g : Nat) (l : List Int) (f : Span → List Int) (F : FuncId) (bound cap : List Value) (v : Value) (xs : List Span) (w : World) (hk : Kp W0 w) (hw : Wr W0.heap.size w g l)
    (hS : Spans W0 v xs) (hroom : Room l (numL f xs).length) (hr : Real Try.prog F)
    (hf : ∀ (w' : World) (l' : List Int) (a b c : Int),  Kp W0 w' → Wx g w w' → Wr W0.heap.size w' g l' → Room l' (f ⟨a, b, c⟩).length → Writes W0 g l' (f ⟨a, b, c⟩) F (bound ++ .agg #[.int .i64 a, .int .i64 b, .int .i64 c] :: cap).toArray w') :
    Writes W0 g l (numL f xs) 70 #[.pointer (some ⟨g, 0, none⟩), v, .func (.func F) bound.toArray cap.toArray] w := by
  have HC := hid hf
  clear hf
  have hcf := fun args w => hr.run args w
  have hgl := hw.lt
  obtain ⟨A, c, rfl, hc, hm⟩ := hS.form
  have hroom' := hroom
  unfold Room numL at hroom'
  rw [List.length_cons] at hroom'
  go_enter Try.func70, Try.ntmps70
  go_wp2_with fail
  refine (put_any W0 g l [(xs.length : Int)] _ _ (hk.alloc _) (hw.kp ((Kp.refl _).alloc _)) (litInts [(xs.length : Int)] _ rfl (by simp) _ rfl) (by unfold Room; simp; omega)).mono ?_
  rintro e w1 ⟨rfl, hw1, hx1⟩
  have hx1 := (((Kp.refl w).alloc _).wx hgl).trans hx1
  go_wp2
  go_loopw [15] (fun i wr => ∃ k : Nat, k ≤ xs.length ∧ i = .int .i64 k ∧ Wr W0.heap.size wr g ((l ++ [(xs.length : Int)]) ++ (xs.take k).flatMap f) ∧ Wx g w wr) (fun i _ => xs.length - (intOf i).toNat)
  case atStart => exact ⟨0, Nat.zero_le _, rfl, by simpa using hw1, hx1⟩
  case round =>
    clear hw1 hx1
    obtain ⟨k, hk2, rfl, hwr, hxr⟩ := hrel
    have hkr := hxr.to_kp hk hw
    by_cases hlt : k < xs.length
    · obtain ⟨b, o, rfl, hb, h0'⟩ := hS.span hlt
      have h0 := hkr.cellS (h0' 0 _ rfl); have h1 := hkr.cellS (h0' 1 _ rfl); have h2 := hkr.cellS (h0' 2 _ rfl); clear h0'; simp only [Nat.add_zero] at h0
      have HT := hid (take_snoc' xs k hlt)
      have HR : Hid (Room ((l ++ [(xs.length : Int)]) ++ (xs.take k).flatMap f) (f xs[k]).length) := hid (room_step f l xs k hlt hroom)
      clear hS
      generalize xs[k] = x at *
      obtain ⟨a, b, c⟩ := x
      try dsimp only at *
      go_wp2_with fail
      first | (refine (HC.out wr _ a b c hkr hxr hwr HR.out).mono ?_) | (refine (HC.out (wr.alloc _) _ a b c (hkr.alloc _) (hxr.trans (((Kp.refl wr).alloc _).wx hwr.lt)) (hwr.kp ((Kp.refl wr).alloc _)) HR.out).mono ?_)
      rintro e w2 ⟨rfl, hw2, hx2⟩
      go_wp2
      go_roundw
      case rel => exact ⟨k + 1, by omega, by go_num, by rw [HT.out]; simpa using hw2, by first | exact hxr.trans hx2 | exact (hxr.trans (((Kp.refl wr).alloc _).wx hwr.lt)).trans hx2⟩
      case measure => simp [intOf]; omega
    · have HF : Hid (xs.take k = xs) := hid (List.take_of_length_le (by omega))
      go_wp2
      go_end0
      exact ⟨rfl, by rw [HF.out] at hwr; simpa [numL] using hwr, hxr⟩
theorem wNeed_real : Real Try.prog 93 := ⟨_, Try.func93, by kernel_rfl, by kernel_rfl⟩
/-- how an entry lies as a value -/
def EntryV (w : World) (val : Value) (e : Entry) : Prop := ∃ v, val = .agg #[.int .i64 e.term, .int .i64 e.kind, .int .i64 e.replica, .int .i64 e.serial, .int .i64 e.action, v] ∧ Ints w v e.voters
set_option maxHeartbeats 1000000 in
theorem wEntry_any (W0 : World) (g : Nat) (l : List Int) (val : Value) (e : Entry) (w : World) (hk : Kp W0 w) (hw : Wr W0.heap.size w g l) (hv : EntryV W0 val e) (hroom : Room l (numEntry e).length) :
    Writes W0 g l (numEntry e) 75 #[.pointer (some ⟨g, 0, none⟩), val] w := by
  obtain ⟨v, rfl, hp⟩ := hv
  obtain ⟨A, c, rfl, hc, hm⟩ := hp.form
  obtain ⟨x0, x1, x2, x3, x4, past⟩ := e
  dsimp only at *
  go_enter Try.func75, Try.ntmps75
  have hbx := box_new hw #[.int .i64 x0, .int .i64 x1, .int .i64 x2, .int .i64 x3, .int .i64 x4, .slice A past.length c] 89
  have hk1 := hk.alloc (.cells #[.int .i64 x0, .int .i64 x1, .int .i64 x2, .int .i64 x3, .int .i64 x4, .slice A past.length c] 89)
  have hw1 := hw.kp ((Kp.refl w).alloc (.cells #[.int .i64 x0, .int .i64 x1, .int .i64 x2, .int .i64 x3, .int .i64 x4, .slice A past.length c] 89))
  have hx1 := ((Kp.refl w).alloc (.cells #[.int .i64 x0, .int .i64 x1, .int .i64 x2, .int .i64 x3, .int .i64 x4, .slice A past.length c] 89)).wx hw.lt
  obtain ⟨hB1, s1⟩ := hbx
  have c0 := hB1 0 _ rfl
  have c1 := hB1 1 _ rfl
  have c2 := hB1 2 _ rfl
  have c3 := hB1 3 _ rfl
  have c4 := hB1 4 _ rfl
  go_wp2_with fail
  try rw [← World.size_alloc w (.cells #[.int .i64 x0, .int .i64 x1, .int .i64 x2, .int .i64 x3, .int .i64 x4, .slice A past.length c] 89)]
  generalize w.alloc (.cells #[.int .i64 x0, .int .i64 x1, .int .i64 x2, .int .i64 x3, .int .i64 x4, .slice A past.length c] 89) = w1 at *
  generalize w.heap.size = h at *
  refine (put_any W0 g _ [x0, x1, x2, x3, x4] _ _ (hk1.alloc _) (hw1.kp ((Kp.refl _).alloc _)) ?hl (by unfold Room at *; simp only [numEvent, numNeed, numMark, numSpan, numAsk, numEntry, numMerged, List.length_append, List.length_cons, List.length_nil] at *; omega)).mono ?_
  case hl => exact litInts [x0, x1, x2, x3, x4] _ rfl (by simp) _ rfl
  rintro e w2 ⟨rfl, hw2, hy2⟩
  have hz2 := (((Kp.refl w1).alloc _).wx hw1.lt).trans hy2
  have hx2 := hx1.trans hz2
  have hk2 := hx2.to_kp hk hw
  have hB2 := hB1.wx hz2 s1
  have s2 := s1.wx hz2
  clear hy2 hz2
  have c5 := hB2 5 _ rfl
  go_wp2_with fail
  refine (wIntegers_any W0 g _ _ past _ hk2 hw2 hp (by unfold Room at *; simp only [numEvent, numNeed, numMark, numSpan, numAsk, numEntry, numMerged, List.length_append, List.length_cons, List.length_nil] at *; omega)).mono ?_
  rintro e w3 ⟨rfl, hw3, hz3⟩
  have hx3 := hx2.trans hz3
  have hk3 := hx3.to_kp hk hw
  have hB3 := hB2.wx hz3 s2
  have s3 := s2.wx hz3
  clear hz3
  go_wp2
  go_end0
  exact ⟨rfl, by simpa [numEntry] using hw3, hx3⟩
theorem wEntry_real : Real Try.prog 75 := ⟨_, Try.func75, by kernel_rfl, by kernel_rfl⟩
/-- how a request lies as a value -/
def AskV (w : World) (val : Value) (e : Ask) : Prop := ∃ v, val = .agg #[.int .i64 e.number, .int .i64 e.place, .int .i64 e.time, .int .i64 e.replica, .int .i64 e.serial, v] ∧ Needs w v e.needs
set_option maxHeartbeats 1000000 in
theorem wAsk_any (W0 : World) (g : Nat) (l : List Int) (val : Value) (e : Ask) (w : World) (hk : Kp W0 w) (hw : Wr W0.heap.size w g l) (hv : AskV W0 val e) (hroom : Room l (numAsk e).length) :
    Writes W0 g l (numAsk e) 72 #[.pointer (some ⟨g, 0, none⟩), val] w := by
  obtain ⟨v, rfl, hp⟩ := hv
  obtain ⟨A, c, rfl, hc, hm⟩ := hp.form
  obtain ⟨x0, x1, x2, x3, x4, past⟩ := e
  dsimp only at *
  go_enter Try.func72, Try.ntmps72
  have hbx := box_new hw #[.int .i64 x0, .int .i64 x1, .int .i64 x2, .int .i64 x3, .int .i64 x4, .slice A past.length c] 31
  have hk1 := hk.alloc (.cells #[.int .i64 x0, .int .i64 x1, .int .i64 x2, .int .i64 x3, .int .i64 x4, .slice A past.length c] 31)
  have hw1 := hw.kp ((Kp.refl w).alloc (.cells #[.int .i64 x0, .int .i64 x1, .int .i64 x2, .int .i64 x3, .int .i64 x4, .slice A past.length c] 31))
  have hx1 := ((Kp.refl w).alloc (.cells #[.int .i64 x0, .int .i64 x1, .int .i64 x2, .int .i64 x3, .int .i64 x4, .slice A past.length c] 31)).wx hw.lt
  obtain ⟨hB1, s1⟩ := hbx
  have c0 := hB1 0 _ rfl
  have c1 := hB1 1 _ rfl
  have c2 := hB1 2 _ rfl
  have c3 := hB1 3 _ rfl
  have c4 := hB1 4 _ rfl
  go_wp2_with fail
  try rw [← World.size_alloc w (.cells #[.int .i64 x0, .int .i64 x1, .int .i64 x2, .int .i64 x3, .int .i64 x4, .slice A past.length c] 31)]
  generalize w.alloc (.cells #[.int .i64 x0, .int .i64 x1, .int .i64 x2, .int .i64 x3, .int .i64 x4, .slice A past.length c] 31) = w1 at *
  generalize w.heap.size = h at *
  refine (put_any W0 g _ [x0, x1, x2, x3, x4] _ _ (hk1.alloc _) (hw1.kp ((Kp.refl _).alloc _)) ?hl (by unfold Room at *; simp only [numEvent, numNeed, numMark, numSpan, numAsk, numEntry, numMerged, List.length_append, List.length_cons, List.length_nil] at *; omega)).mono ?_
  case hl => exact litInts [x0, x1, x2, x3, x4] _ rfl (by simp) _ rfl
  rintro e w2 ⟨rfl, hw2, hy2⟩
  have hz2 := (((Kp.refl w1).alloc _).wx hw1.lt).trans hy2
  have hx2 := hx1.trans hz2
  have hk2 := hx2.to_kp hk hw
  have hB2 := hB1.wx hz2 s1
  have s2 := s1.wx hz2
  clear hy2 hz2
  have c5 := hB2 5 _ rfl
  go_wp2_with fail
  refine (listNeed_any W0 g _ numNeed 93 [.pointer (some ⟨g, 0, none⟩)] [] _ past _ hk2 hw2 hp (by unfold Room at *; simp only [numEvent, numNeed, numMark, numSpan, numAsk, numEntry, numMerged, List.length_append, List.length_cons, List.length_nil] at *; omega) wNeed_real (fun w' l' a b c d h1 _ h2 h3 => wNeed_any W0 g l' ⟨a, b, c, d⟩ w' h1 h2 h3)).mono ?_
  rintro e w3 ⟨rfl, hw3, hz3⟩
  have hx3 := hx2.trans hz3
  have hk3 := hx3.to_kp hk hw
  have hB3 := hB2.wx hz3 s2
  have s3 := s2.wx hz3
  clear hz3
  go_wp2
  go_end0
  exact ⟨rfl, by simpa [numAsk] using hw3, hx3⟩
end Go.Proofs.Ytmokpnkpfodppaa
namespace Go.Proofs.Ytmokpnkpfodppaa
set_option linter.unusedSimpArgs false
set_option linter.unusedVariables false
open Go.RowKit

set_option maxHeartbeats 400000 in
theorem cTruth_any (b : Bool) (w : World) : Calls Try.prog 73 #[.bool b] w fun e w' => e = .returned (.int .i64 (numB b)) ∧ Kp w w' := by
  cases b <;>
  · go_enter Try.func73, Try.ntmps73
    go_wp2
    go_ret
    exact ⟨rfl, Kp.refl _⟩
/-- how what is known of a convergent cell lies -/
def rdMerged : Rd Merged := fun w cs m => ∃ v, cs = [.bool m.put, .bool m.drop, v] ∧ Marks w v m.marks
theorem rdMerged_stable : Stable rdMerged := fun _ _ _ _ hb ⟨v, h1, h2⟩ => ⟨v, h1, h2.keep (pl_stable _) hb⟩
abbrev Mergeds := Sl rdMerged 3
def rdInts : Rd (List Int) := fun w cs l => ∃ v, cs = [v] ∧ Ints w v l
theorem rdInts_stable : Stable rdInts := fun _ _ _ _ hb ⟨v, h1, h2⟩ => ⟨v, h1, h2.keep (pl_stable _) hb⟩
abbrev Intss := Sl rdInts 1
def rdIntss : Rd (List (List Int)) := fun w cs l => ∃ v, cs = [v] ∧ Intss w v l
theorem rdIntss_stable : Stable rdIntss := fun _ _ _ _ hb ⟨v, h1, h2⟩ => ⟨v, h1, h2.keep rdInts_stable hb⟩
abbrev Intsss := Sl rdIntss 1
theorem Sl.intss {w : World} {A : Option Addr} {n c : Nat} {l : List (List Int)} (h : Intss w (.slice A n c) l) {k : Nat} (hk : k < l.length) :
    ∃ b o A' c', A = some ⟨b, o, none⟩ ∧ b < w.heap.size ∧ w.cell? ⟨b, o + k, none⟩ = some (.slice A' l[k].length c') ∧ Ints w (.slice A' l[k].length c') l[k] := by
  obtain ⟨b, o, cs, hA, had, hcs, hc, v, rfl, ht⟩ := h.at_ hk
  obtain ⟨A', c', rfl, -, -⟩ := ht.form
  exact ⟨b, o, A', c', hA, had, by simpa using hc 0 _ rfl, ht⟩
theorem Sl.intsss {w : World} {A : Option Addr} {n c : Nat} {l : List (List (List Int))} (h : Intsss w (.slice A n c) l) {k : Nat} (hk : k < l.length) :
    ∃ b o A' c', A = some ⟨b, o, none⟩ ∧ b < w.heap.size ∧ w.cell? ⟨b, o + k, none⟩ = some (.slice A' l[k].length c') ∧ Intss w (.slice A' l[k].length c') l[k] := by
  obtain ⟨b, o, cs, hA, had, hcs, hc, v, rfl, ht⟩ := h.at_ hk
  obtain ⟨A', c', rfl, -, -⟩ := ht.form
  exact ⟨b, o, A', c', hA, had, by simpa using hc 0 _ rfl, ht⟩
end Go.Proofs.Ytmokpnkpfodppaa
namespace Go.Proofs.Ytmokpnkpfodppaa
set_option linter.unusedSimpArgs false
set_option linter.unusedVariables false
open Go.RowKit

theorem cTruth_eq (b : Bool) (w : World) : Calls Try.prog 73 #[.bool b] w fun e w' => e = .returned (.int .i64 (numB b)) ∧ w' = w := by
  cases b <;>
  · go_enter Try.func73, Try.ntmps73
    go_wp2
    go_ret
    exact ⟨rfl, rfl⟩
end Go.Proofs.Ytmokpnkpfodppaa
namespace Go.Proofs.Ytmokpnkpfodppaa
set_option linter.unusedSimpArgs false
set_option linter.unusedVariables false
open Go.RowKit

theorem Sl.merged {w : World} {A : Option Addr} {n c : Nat} {l : List Merged} (h : Mergeds w (.slice A n c) l) {k : Nat} (hk : k < l.length) :
    ∃ b o A' c', A = some ⟨b, o, none⟩ ∧ b < w.heap.size ∧ w.cell? ⟨b, o + k * 3, none⟩ = some (.bool l[k].put) ∧ w.cell? ⟨b, o + k * 3 + 1, none⟩ = some (.bool l[k].drop) ∧ w.cell? ⟨b, o + k * 3 + 2, none⟩ = some (.slice A' l[k].marks.length c') ∧ Marks w (.slice A' l[k].marks.length c') l[k].marks := by
  obtain ⟨b, o, cs, hA, had, hcs, hc, v, rfl, ht⟩ := h.at_ hk
  obtain ⟨A', c', rfl, -, -⟩ := ht.form
  exact ⟨b, o, A', c', hA, had, hc 0 _ rfl, hc 1 _ rfl, hc 2 _ rfl, ht⟩
end Go.Proofs.Ytmokpnkpfodppaa
namespace Go.Proofs.Ytmokpnkpfodppaa
set_option linter.unusedSimpArgs false
set_option linter.unusedVariables false
open Go.RowKit

/-- how a base lies as a value -/
def BaseV (w : World) (val : Value) (b : Base) : Prop :=
  ∃ v0 v2 v3 v4 v5 v6, val = .agg #[v0, .int .i64 b.time, v2, v3, v4, v5, v6] ∧ Ints w v0 b.clock ∧ Ints w v2 b.state ∧ Mergeds w v3 b.merged ∧ Intss w v4 b.rights ∧ Intsss w v5 b.shares ∧ Ints w v6 b.places
end Go.Proofs.Ytmokpnkpfodppaa
