
/-
The writer: lists of events and entries.
-/
import Derived.Test.YtmeafoakbkjifaaCodW8
namespace Go.Proofs.Ytmeafoakbkjifaa
set_option linter.unusedSimpArgs false
set_option linter.unusedVariables false
open Go.RowKit

def rdEvent : Rd Event := fun w cs e => ∃ v, cs = [.int .i64 e.replica, .int .i64 e.number, .int .i64 e.time, v, .int .i64 e.kind, .int .i64 e.action, .int .i64 e.give.kind, .int .i64 e.give.index, .int .i64 e.give.element, .int .i64 e.give.amount, .int .i64 e.to, .int .i64 e.place, .int .i64 e.serial] ∧ Ints w v e.past
theorem rdEvent_stable : Stable rdEvent := fun _ _ _ _ hb ⟨v, h1, h2⟩ => ⟨v, h1, h2.keep (pl_stable _) hb⟩
abbrev Events := Sl rdEvent 13
def rdEntry : Rd Entry := fun w cs e => ∃ v, cs = [.int .i64 e.term, .int .i64 e.kind, .int .i64 e.replica, .int .i64 e.serial, .int .i64 e.action, v] ∧ Ints w v e.voters
theorem rdEntry_stable : Stable rdEntry := fun _ _ _ _ hb ⟨v, h1, h2⟩ => ⟨v, h1, h2.keep (pl_stable _) hb⟩
abbrev Entries := Sl rdEntry 6
theorem Sl.event {w : World} {A : Option Addr} {n c : Nat} {l : List Event} (h : Events w (.slice A n c) l) {k : Nat} (hk : k < l.length) :
    ∃ b o A' c', A = some ⟨b, o, none⟩ ∧ b < w.heap.size ∧ (∀ j u, ([.int .i64 l[k].replica, .int .i64 l[k].number, .int .i64 l[k].time, .slice A' l[k].past.length c', .int .i64 l[k].kind, .int .i64 l[k].action, .int .i64 l[k].give.kind, .int .i64 l[k].give.index, .int .i64 l[k].give.element, .int .i64 l[k].give.amount, .int .i64 l[k].to, .int .i64 l[k].place, .int .i64 l[k].serial] : List Value)[j]? = some u → w.cell? ⟨b, o + k * 13 + j, none⟩ = some u) ∧ Ints w (.slice A' l[k].past.length c') l[k].past := by
  obtain ⟨b, o, cs, hA, had, hcs, hc, v, rfl, ht⟩ := h.at_ hk
  obtain ⟨A', c', rfl, -, -⟩ := ht.form
  exact ⟨b, o, A', c', hA, had, hc, ht⟩
theorem Sl.entry {w : World} {A : Option Addr} {n c : Nat} {l : List Entry} (h : Entries w (.slice A n c) l) {k : Nat} (hk : k < l.length) :
    ∃ b o A' c', A = some ⟨b, o, none⟩ ∧ b < w.heap.size ∧ (∀ j u, ([.int .i64 l[k].term, .int .i64 l[k].kind, .int .i64 l[k].replica, .int .i64 l[k].serial, .int .i64 l[k].action, .slice A' l[k].voters.length c'] : List Value)[j]? = some u → w.cell? ⟨b, o + k * 6 + j, none⟩ = some u) ∧ Ints w (.slice A' l[k].voters.length c') l[k].voters := by
  obtain ⟨b, o, cs, hA, had, hcs, hc, v, rfl, ht⟩ := h.at_ hk
  obtain ⟨A', c', rfl, -, -⟩ := ht.form
  exact ⟨b, o, A', c', hA, had, hc, ht⟩
set_option maxHeartbeats 1000000 in
theorem listEntry_any (W0 : World) (g : Nat) (l : List Int) (f : Entry → List Int) (F : FuncId) (bound cap : List Value) (v : Value) (xs : List Entry) (w : World) (hk : Kp W0 w) (hw : Wr W0.heap.size w g l)
    (hS : Entries W0 v xs) (hroom : Room l (numL f xs).length) (hr : Real Try.prog F)
    (hf : ∀ (w' : World) (l' : List Int) (A' : Option Addr) (c' : Nat) (x0 x1 x2 x3 x4 : Int) (ms : List Int), Ints W0 (.slice A' ms.length c') ms → Kp W0 w' → Wx g w w' → Wr W0.heap.size w' g l' → Room l' (f ⟨x0, x1, x2, x3, x4, ms⟩).length → Writes W0 g l' (f ⟨x0, x1, x2, x3, x4, ms⟩) F (bound ++ .agg #[.int .i64 x0, .int .i64 x1, .int .i64 x2, .int .i64 x3, .int .i64 x4, .slice A' ms.length c'] :: cap).toArray w') :
    Writes W0 g l (numL f xs) 118 #[.pointer (some ⟨g, 0, none⟩), v, .func (.func F) bound.toArray cap.toArray] w := by
  have HC := hid hf
  clear hf
  have hcf := fun args w => hr.run args w
  have hgl := hw.lt
  obtain ⟨A, c, rfl, hc, hm⟩ := hS.form
  have hroom' := hroom
  unfold Room numL at hroom'
  rw [List.length_cons] at hroom'
  go_enter Try.func118, Try.ntmps118
  go_wp2_with fail
  refine (put_any W0 g l [(xs.length : Int)] _ _ (hk.alloc _) (hw.kp ((Kp.refl _).alloc _)) (litInts [(xs.length : Int)] _ rfl (by simp) _ rfl) (by unfold Room; simp; omega)).mono ?_
  rintro e w1 ⟨rfl, hw1, hx1⟩
  have hx1 := (((Kp.refl w).alloc _).wx hgl).trans hx1
  go_wp2
  go_loopw [15] (fun i wr => ∃ k : Nat, k ≤ xs.length ∧ i = .int .i64 k ∧ Wr W0.heap.size wr g ((l ++ [(xs.length : Int)]) ++ (xs.take k).flatMap f) ∧ Wx g w wr) (fun i _ => xs.length - (intOf i).toNat)
  case atStart => exact ⟨0, Nat.zero_le _, rfl, by simpa using hw1, hx1⟩
  case round =>
    clear hw1 hx1
    obtain ⟨k, hk2, rfl, hwr, hxr⟩ := hrel
    have hkr := hxr.to_kp hk hw
    by_cases hlt : k < xs.length
    · obtain ⟨b, o, A', c', rfl, hb, hq, ht⟩ := hS.entry hlt
      have h0 := hkr.cellS (hq 0 _ rfl); have h1 := hkr.cellS (hq 1 _ rfl); have h2 := hkr.cellS (hq 2 _ rfl); have h3 := hkr.cellS (hq 3 _ rfl); have h4 := hkr.cellS (hq 4 _ rfl); have h5 := hkr.cellS (hq 5 _ rfl); clear hq; simp only [Nat.add_zero] at h0
      have HT := hid (take_snoc' xs k hlt)
      have HR : Hid (Room ((l ++ [(xs.length : Int)]) ++ (xs.take k).flatMap f) (f xs[k]).length) := hid (room_step f l xs k hlt hroom)
      clear hS
      generalize xs[k] = x at *
      obtain ⟨x0, x1, x2, x3, x4, ms⟩ := x
      try dsimp only at *
      go_wp2_with fail
      first | (refine (HC.out wr _ A' c' x0 x1 x2 x3 x4 ms ht hkr hxr hwr HR.out).mono ?_) | (refine (HC.out (wr.alloc _) _ A' c' x0 x1 x2 x3 x4 ms ht (hkr.alloc _) (hxr.trans (((Kp.refl wr).alloc _).wx hwr.lt)) (hwr.kp ((Kp.refl wr).alloc _)) HR.out).mono ?_)
      rintro e w2 ⟨rfl, hw2, hx2⟩
      go_wp2
      go_roundw
      case rel => exact ⟨k + 1, by omega, by go_num, by rw [HT.out]; simpa using hw2, by first | exact hxr.trans hx2 | exact (hxr.trans (((Kp.refl wr).alloc _).wx hwr.lt)).trans hx2⟩
      case measure => simp [intOf]; omega
    · have HF : Hid (xs.take k = xs) := hid (List.take_of_length_le (by omega))
      go_wp2
      go_end0
      exact ⟨rfl, by rw [HF.out] at hwr; simpa [numL] using hwr, hxr⟩
set_option maxHeartbeats 1000000 in
theorem listEvent_any (W0 : World) (g : Nat) (l : List Int) (f : Event → List Int) (F : FuncId) (bound cap : List Value) (v : Value) (xs : List Event) (w : World) (hk : Kp W0 w) (hw : Wr W0.heap.size w g l)
    (hS : Events W0 v xs) (hroom : Room l (numL f xs).length) (hr : Real Try.prog F)
    (hf : ∀ (w' : World) (l' : List Int) (A' : Option Addr) (c' : Nat) (x0 x1 x2 : Int) (ms : List Int) (x4 x5 y0 y1 y2 y3 x7 x8 x9 : Int), Ints W0 (.slice A' ms.length c') ms → Kp W0 w' → Wx g w w' → Wr W0.heap.size w' g l' → Room l' (f ⟨x0, x1, x2, ms, x4, x5, ⟨y0, y1, y2, y3⟩, x7, x8, x9⟩).length → Writes W0 g l' (f ⟨x0, x1, x2, ms, x4, x5, ⟨y0, y1, y2, y3⟩, x7, x8, x9⟩) F (bound ++ .agg #[.int .i64 x0, .int .i64 x1, .int .i64 x2, .slice A' ms.length c', .int .i64 x4, .int .i64 x5, .int .i64 y0, .int .i64 y1, .int .i64 y2, .int .i64 y3, .int .i64 x7, .int .i64 x8, .int .i64 x9] :: cap).toArray w') :
    Writes W0 g l (numL f xs) 113 #[.pointer (some ⟨g, 0, none⟩), v, .func (.func F) bound.toArray cap.toArray] w := by
  have HC := hid hf
  clear hf
  have hcf := fun args w => hr.run args w
  have hgl := hw.lt
  obtain ⟨A, c, rfl, hc, hm⟩ := hS.form
  have hroom' := hroom
  unfold Room numL at hroom'
  rw [List.length_cons] at hroom'
  go_enter Try.func113, Try.ntmps113
  go_wp2_with fail
  refine (put_any W0 g l [(xs.length : Int)] _ _ (hk.alloc _) (hw.kp ((Kp.refl _).alloc _)) (litInts [(xs.length : Int)] _ rfl (by simp) _ rfl) (by unfold Room; simp; omega)).mono ?_
  rintro e w1 ⟨rfl, hw1, hx1⟩
  have hx1 := (((Kp.refl w).alloc _).wx hgl).trans hx1
  go_wp2
  go_loopw [15] (fun i wr => ∃ k : Nat, k ≤ xs.length ∧ i = .int .i64 k ∧ Wr W0.heap.size wr g ((l ++ [(xs.length : Int)]) ++ (xs.take k).flatMap f) ∧ Wx g w wr) (fun i _ => xs.length - (intOf i).toNat)
  case atStart => exact ⟨0, Nat.zero_le _, rfl, by simpa using hw1, hx1⟩
  case round =>
    clear hw1 hx1
    obtain ⟨k, hk2, rfl, hwr, hxr⟩ := hrel
    have hkr := hxr.to_kp hk hw
    by_cases hlt : k < xs.length
    · obtain ⟨b, o, A', c', rfl, hb, hq, ht⟩ := hS.event hlt
      have h0 := hkr.cellS (hq 0 _ rfl); have h1 := hkr.cellS (hq 1 _ rfl); have h2 := hkr.cellS (hq 2 _ rfl); have h3 := hkr.cellS (hq 3 _ rfl); have h4 := hkr.cellS (hq 4 _ rfl); have h5 := hkr.cellS (hq 5 _ rfl); have h6 := hkr.cellS (hq 6 _ rfl); have h7 := hkr.cellS (hq 7 _ rfl); have h8 := hkr.cellS (hq 8 _ rfl); have h9 := hkr.cellS (hq 9 _ rfl); have h10 := hkr.cellS (hq 10 _ rfl); have h11 := hkr.cellS (hq 11 _ rfl); have h12 := hkr.cellS (hq 12 _ rfl); clear hq; simp only [Nat.add_zero] at h0
      have HT := hid (take_snoc' xs k hlt)
      have HR : Hid (Room ((l ++ [(xs.length : Int)]) ++ (xs.take k).flatMap f) (f xs[k]).length) := hid (room_step f l xs k hlt hroom)
      clear hS
      generalize xs[k] = x at *
      obtain ⟨x0, x1, x2, ms, x4, x5, ⟨y0, y1, y2, y3⟩, x7, x8, x9⟩ := x
      try dsimp only at *
      go_wp2_with fail
      first | (refine (HC.out wr _ A' c' x0 x1 x2 ms x4 x5 y0 y1 y2 y3 x7 x8 x9 ht hkr hxr hwr HR.out).mono ?_) | (refine (HC.out (wr.alloc _) _ A' c' x0 x1 x2 ms x4 x5 y0 y1 y2 y3 x7 x8 x9 ht (hkr.alloc _) (hxr.trans (((Kp.refl wr).alloc _).wx hwr.lt)) (hwr.kp ((Kp.refl wr).alloc _)) HR.out).mono ?_)
      rintro e w2 ⟨rfl, hw2, hx2⟩
      go_wp2
      go_roundw
      case rel => exact ⟨k + 1, by omega, by go_num, by rw [HT.out]; simpa using hw2, by first | exact hxr.trans hx2 | exact (hxr.trans (((Kp.refl wr).alloc _).wx hwr.lt)).trans hx2⟩
      case measure => simp [intOf]; omega
    · have HF : Hid (xs.take k = xs) := hid (List.take_of_length_le (by omega))
      go_wp2
      go_end0
      exact ⟨rfl, by rw [HF.out] at hwr; simpa [numL] using hwr, hxr⟩
end Go.Proofs.Ytmeafoakbkjifaa
