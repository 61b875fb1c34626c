/-
The writer: lists of events and entries.
A region whose order is open, with a copy of an argument first: it may come up as late as the forced end; it is taken first, then reads and calls that make memory only, then the end.
The writer: a message.
-/
import Derived.Test.YtmokpnkpfodppaaWA
import Derived.Test.YtmokpnkpfodppaaLib
namespace Go.Proofs.Ytmokpnkpfodppaa
set_option linter.unusedSimpArgs false
set_option linter.unusedVariables false
open Go.RowKit

def rdEvent : Rd Event := fun w cs e => ∃ v, cs = [.int .i64 e.replica, .int .i64 e.number, .int .i64 e.time, v, .int .i64 e.kind, .int .i64 e.action, .int .i64 e.give.kind, .int .i64 e.give.index, .int .i64 e.give.element, .int .i64 e.give.amount, .int .i64 e.to, .int .i64 e.place, .int .i64 e.serial] ∧ Ints w v e.past
theorem rdEvent_stable : Stable rdEvent := fun _ _ _ _ hb ⟨v, h1, h2⟩ => ⟨v, h1, h2.keep (pl_stable _) hb⟩
abbrev Events := Sl rdEvent 13
def rdEntry : Rd Entry := fun w cs e => ∃ v, cs = [.int .i64 e.term, .int .i64 e.kind, .int .i64 e.replica, .int .i64 e.serial, .int .i64 e.action, v] ∧ Ints w v e.voters
theorem rdEntry_stable : Stable rdEntry := fun _ _ _ _ hb ⟨v, h1, h2⟩ => ⟨v, h1, h2.keep (pl_stable _) hb⟩
abbrev Entries := Sl rdEntry 6
theorem Sl.event {w : World} {A : Option Addr} {n c : Nat} {l : List Event} (h : Events w (.slice A n c) l) {k : Nat} (hk : k < l.length) :
    ∃ b o A' c', A = some ⟨b, o, none⟩ ∧ b < w.heap.size ∧ (∀ j u, ([.int .i64 l[k].replica, .int .i64 l[k].number, .int .i64 l[k].time, .slice A' l[k].past.length c', .int .i64 l[k].kind, .int .i64 l[k].action, .int .i64 l[k].give.kind, .int .i64 l[k].give.index, .int .i64 l[k].give.element, .int .i64 l[k].give.amount, .int .i64 l[k].to, .int .i64 l[k].place, .int .i64 l[k].serial] : List Value)[j]? = some u → w.cell? ⟨b, o + k * 13 + j, none⟩ = some u) ∧ Ints w (.slice A' l[k].past.length c') l[k].past := by
  obtain ⟨b, o, cs, hA, had, hcs, hc, v, rfl, ht⟩ := h.at_ hk
  obtain ⟨A', c', rfl, -, -⟩ := ht.form
  exact ⟨b, o, A', c', hA, had, hc, ht⟩
theorem Sl.entry {w : World} {A : Option Addr} {n c : Nat} {l : List Entry} (h : Entries w (.slice A n c) l) {k : Nat} (hk : k < l.length) :
    ∃ b o A' c', A = some ⟨b, o, none⟩ ∧ b < w.heap.size ∧ (∀ j u, ([.int .i64 l[k].term, .int .i64 l[k].kind, .int .i64 l[k].replica, .int .i64 l[k].serial, .int .i64 l[k].action, .slice A' l[k].voters.length c'] : List Value)[j]? = some u → w.cell? ⟨b, o + k * 6 + j, none⟩ = some u) ∧ Ints w (.slice A' l[k].voters.length c') l[k].voters := by
  obtain ⟨b, o, cs, hA, had, hcs, hc, v, rfl, ht⟩ := h.at_ hk
  obtain ⟨A', c', rfl, -, -⟩ := ht.form
  exact ⟨b, o, A', c', hA, had, hc, ht⟩
set_option maxHeartbeats 1000000 in
theorem listEntry_any (W0 : World) (g : Nat) (l : List Int) (f : Entry → List Int) (F : FuncId) (bound cap : List Value) (v : Value) (xs : List Entry) (w : World) (hk : Kp W0 w) (hw : Wr W0.heap.size w g l)
    (hS : Entries W0 v xs) (hroom : Room l (numL f xs).length) (hr : Real Try.prog F)
    (hf : ∀ (w' : World) (l' : List Int) (A' : Option Addr) (c' : Nat) (x0 x1 x2 x3 x4 : Int) (ms : List Int), Ints W0 (.slice A' ms.length c') ms → Kp W0 w' → Wx g w w' → Wr W0.heap.size w' g l' → Room l' (f ⟨x0, x1, x2, x3, x4, ms⟩).length → Writes W0 g l' (f ⟨x0, x1, x2, x3, x4, ms⟩) F (bound ++ .agg #[.int .i64 x0, .int .i64 x1, .int .i64 x2, .int .i64 x3, .int .i64 x4, .slice A' ms.length c'] :: cap).toArray w') :
    Writes W0 g l (numL f xs) 74 #[.pointer (some ⟨g, 0, none⟩), v, .func (.func F) bound.toArray cap.toArray] w := by
  have HC := hid hf
  clear hf
  have hcf := fun args w => hr.run args w
  have hgl := hw.lt
  obtain ⟨A, c, rfl, hc, hm⟩ := hS.form
  have hroom' := hroom
  unfold Room numL at hroom'
  rw [List.length_cons] at hroom'
  go_enter Try.func74, Try.ntmps74
  go_wp2_with fail
  refine (put_any W0 g l [(xs.length : Int)] _ _ (hk.alloc _) (hw.kp ((Kp.refl _).alloc _)) (litInts [(xs.length : Int)] _ rfl (by simp) _ rfl) (by unfold Room; simp; omega)).mono ?_
  rintro e w1 ⟨rfl, hw1, hx1⟩
  have hx1 := (((Kp.refl w).alloc _).wx hgl).trans hx1
  go_wp2
  go_loopw [15] (fun i wr => ∃ k : Nat, k ≤ xs.length ∧ i = .int .i64 k ∧ Wr W0.heap.size wr g ((l ++ [(xs.length : Int)]) ++ (xs.take k).flatMap f) ∧ Wx g w wr) (fun i _ => xs.length - (intOf i).toNat)
  case atStart => exact ⟨0, Nat.zero_le _, rfl, by simpa using hw1, hx1⟩
  case round =>
    clear hw1 hx1
    obtain ⟨k, hk2, rfl, hwr, hxr⟩ := hrel
    have hkr := hxr.to_kp hk hw
    by_cases hlt : k < xs.length
    · obtain ⟨b, o, A', c', rfl, hb, hq, ht⟩ := hS.entry hlt
      have h0 := hkr.cellS (hq 0 _ rfl); have h1 := hkr.cellS (hq 1 _ rfl); have h2 := hkr.cellS (hq 2 _ rfl); have h3 := hkr.cellS (hq 3 _ rfl); have h4 := hkr.cellS (hq 4 _ rfl); have h5 := hkr.cellS (hq 5 _ rfl); clear hq; simp only [Nat.add_zero] at h0
      have HT := hid (take_snoc' xs k hlt)
      have HR : Hid (Room ((l ++ [(xs.length : Int)]) ++ (xs.take k).flatMap f) (f xs[k]).length) := hid (room_step f l xs k hlt hroom)
      clear hS
      generalize xs[k] = x at *
      obtain ⟨x0, x1, x2, x3, x4, ms⟩ := x
      try dsimp only at *
      go_wp2_with fail
      first | (refine (HC.out wr _ A' c' x0 x1 x2 x3 x4 ms ht hkr hxr hwr HR.out).mono ?_) | (refine (HC.out (wr.alloc _) _ A' c' x0 x1 x2 x3 x4 ms ht (hkr.alloc _) (hxr.trans (((Kp.refl wr).alloc _).wx hwr.lt)) (hwr.kp ((Kp.refl wr).alloc _)) HR.out).mono ?_)
      rintro e w2 ⟨rfl, hw2, hx2⟩
      go_wp2
      go_roundw
      case rel => exact ⟨k + 1, by omega, by go_num, by rw [HT.out]; simpa using hw2, by first | exact hxr.trans hx2 | exact (hxr.trans (((Kp.refl wr).alloc _).wx hwr.lt)).trans hx2⟩
      case measure => simp [intOf]; omega
    · have HF : Hid (xs.take k = xs) := hid (List.take_of_length_le (by omega))
      go_wp2
      go_end0
      exact ⟨rfl, by rw [HF.out] at hwr; simpa [numL] using hwr, hxr⟩
set_option maxHeartbeats 1000000 in
theorem listEvent_any (W0 : World) (g : Nat) (l : List Int) (f : Event → List Int) (F : FuncId) (bound cap : List Value) (v : Value) (xs : List Event) (w : World) (hk : Kp W0 w) (hw : Wr W0.heap.size w g l)
    (hS : Events W0 v xs) (hroom : Room l (numL f xs).length) (hr : Real Try.prog F)
    (hf : ∀ (w' : World) (l' : List Int) (A' : Option Addr) (c' : Nat) (x0 x1 x2 : Int) (ms : List Int) (x4 x5 y0 y1 y2 y3 x7 x8 x9 : Int), Ints W0 (.slice A' ms.length c') ms → Kp W0 w' → Wx g w w' → Wr W0.heap.size w' g l' → Room l' (f ⟨x0, x1, x2, ms, x4, x5, ⟨y0, y1, y2, y3⟩, x7, x8, x9⟩).length → Writes W0 g l' (f ⟨x0, x1, x2, ms, x4, x5, ⟨y0, y1, y2, y3⟩, x7, x8, x9⟩) F (bound ++ .agg #[.int .i64 x0, .int .i64 x1, .int .i64 x2, .slice A' ms.length c', .int .i64 x4, .int .i64 x5, .int .i64 y0, .int .i64 y1, .int .i64 y2, .int .i64 y3, .int .i64 x7, .int .i64 x8, .int .i64 x9] :: cap).toArray w') :
    Writes W0 g l (numL f xs) 68 #[.pointer (some ⟨g, 0, none⟩), v, .func (.func F) bound.toArray cap.toArray] w := by
  have HC := hid hf
  clear hf
  have hcf := fun args w => hr.run args w
  have hgl := hw.lt
  obtain ⟨A, c, rfl, hc, hm⟩ := hS.form
  have hroom' := hroom
  unfold Room numL at hroom'
  rw [List.length_cons] at hroom'
  go_enter Try.func68, Try.ntmps68
  go_wp2_with fail
  refine (put_any W0 g l [(xs.length : Int)] _ _ (hk.alloc _) (hw.kp ((Kp.refl _).alloc _)) (litInts [(xs.length : Int)] _ rfl (by simp) _ rfl) (by unfold Room; simp; omega)).mono ?_
  rintro e w1 ⟨rfl, hw1, hx1⟩
  have hx1 := (((Kp.refl w).alloc _).wx hgl).trans hx1
  go_wp2
  go_loopw [15] (fun i wr => ∃ k : Nat, k ≤ xs.length ∧ i = .int .i64 k ∧ Wr W0.heap.size wr g ((l ++ [(xs.length : Int)]) ++ (xs.take k).flatMap f) ∧ Wx g w wr) (fun i _ => xs.length - (intOf i).toNat)
  case atStart => exact ⟨0, Nat.zero_le _, rfl, by simpa using hw1, hx1⟩
  case round =>
    clear hw1 hx1
    obtain ⟨k, hk2, rfl, hwr, hxr⟩ := hrel
    have hkr := hxr.to_kp hk hw
    by_cases hlt : k < xs.length
    · obtain ⟨b, o, A', c', rfl, hb, hq, ht⟩ := hS.event hlt
      have h0 := hkr.cellS (hq 0 _ rfl); have h1 := hkr.cellS (hq 1 _ rfl); have h2 := hkr.cellS (hq 2 _ rfl); have h3 := hkr.cellS (hq 3 _ rfl); have h4 := hkr.cellS (hq 4 _ rfl); have h5 := hkr.cellS (hq 5 _ rfl); have h6 := hkr.cellS (hq 6 _ rfl); have h7 := hkr.cellS (hq 7 _ rfl); have h8 := hkr.cellS (hq 8 _ rfl); have h9 := hkr.cellS (hq 9 _ rfl); have h10 := hkr.cellS (hq 10 _ rfl); have h11 := hkr.cellS (hq 11 _ rfl); have h12 := hkr.cellS (hq 12 _ rfl); clear hq; simp only [Nat.add_zero] at h0
      have HT := hid (take_snoc' xs k hlt)
      have HR : Hid (Room ((l ++ [(xs.length : Int)]) ++ (xs.take k).flatMap f) (f xs[k]).length) := hid (room_step f l xs k hlt hroom)
      clear hS
      generalize xs[k] = x at *
      obtain ⟨x0, x1, x2, ms, x4, x5, ⟨y0, y1, y2, y3⟩, x7, x8, x9⟩ := x
      try dsimp only at *
      go_wp2_with fail
      first | (refine (HC.out wr _ A' c' x0 x1 x2 ms x4 x5 y0 y1 y2 y3 x7 x8 x9 ht hkr hxr hwr HR.out).mono ?_) | (refine (HC.out (wr.alloc _) _ A' c' x0 x1 x2 ms x4 x5 y0 y1 y2 y3 x7 x8 x9 ht (hkr.alloc _) (hxr.trans (((Kp.refl wr).alloc _).wx hwr.lt)) (hwr.kp ((Kp.refl wr).alloc _)) HR.out).mono ?_)
      rintro e w2 ⟨rfl, hw2, hx2⟩
      go_wp2
      go_roundw
      case rel => exact ⟨k + 1, by omega, by go_num, by rw [HT.out]; simpa using hw2, by first | exact hxr.trans hx2 | exact (hxr.trans (((Kp.refl wr).alloc _).wx hwr.lt)).trans hx2⟩
      case measure => simp [intOf]; omega
    · have HF : Hid (xs.take k = xs) := hid (List.take_of_length_le (by omega))
      go_wp2
      go_end0
      exact ⟨rfl, by rw [HF.out] at hwr; simpa [numL] using hwr, hxr⟩
end Go.Proofs.Ytmokpnkpfodppaa
namespace Go.Proofs.Ytmokpnkpfodppaa
set_option linter.unusedSimpArgs false
set_option linter.unusedVariables false
open Go.RowKit

section
variable {P : Program} {ops : Array Oper} {md : Region.Mode} {C : World → Prop}
theorem wpAnyLQ_firstS {n i : Nat} {oi : Oper} {v : Value} {L : Array Bool → Act → Prop} (hi : ops[i]? = some oi) (hsel : ∀ (j : Nat) (o : Oper) cs b, ops[j]? = some o → o.op ≠ .select cs b)
    (S : Array Bool → Prop) (hset : ∀ listed j, S listed → j ∈ Region.ready md ops listed → j < n → S (listed.setIfInBounds j true)) (hwait : ∀ listed j, S listed → j < n → listed.getD j true = false → ∀ t, n ≤ t → t ∉ Region.ready md ops listed) (hin : i < n)
    (hdone : ∀ listed a, L listed a → ∀ j ∈ Region.ready md ops listed, n ≤ j) :
    ∀ (f : Nat) (listed : Array Bool) (a : Act), S listed →
      (∀ j oj, ops[j]? = some oj → j ≠ i → listed.getD j true = false → (∀ e ∈ oj.after, Region.binds md e = true → e.on ≠ i) → oi.apart ops oj = true) →
      i ∈ Region.ready md ops listed → YieldsIn P ops C oi v a →
      wpAnyLQ P md ops C n L f (listed.setIfInBounds i true) (a.put oi.dst v) → wpAnyLQ P md ops C n L (f + 1) listed a := by
  intro f
  induction f with
  | zero =>
    intro listed a inv _ hr hy H
    have hun := (mem_ready.1 hr).1
    refine ⟨fun h => (by rw [h] at hr; cases hr), fun j hj => ?_⟩
    have hjn : j < n := by
      rcases Nat.lt_or_ge j n with h | h
      · exact h
      · exact absurd hj (hwait listed i inv hin hun j h)
    refine ⟨hjn, ?_⟩
    by_cases hji : j = i
    · subst hji; exact hy.qOp hi H
    · have := hdone _ _ H j (ready_mono hj hji)
      omega
  | succ f ih =>
    intro listed a inv hfree hr hy H
    have hun := (mem_ready.1 hr).1
    refine ⟨fun h => (by rw [h] at hr; cases hr), fun j hj => ?_⟩
    have hjn : j < n := by
      rcases Nat.lt_or_ge j n with h | h
      · exact h
      · exact absurd hj (hwait listed i inv hin hun j h)
    refine ⟨hjn, ?_⟩
    by_cases hji : j = i
    · subst hji; exact hy.qOp hi H
    · have h1 := (H.2 j (ready_mono hj hji)).2
      obtain ⟨hjun, oj, hoj, hall⟩ := mem_ready.1 hj
      have hnot : ∀ e ∈ oj.after, Region.binds md e = true → e.on ≠ i := fun e he hb heq => by
        have h1 := hall e he hb
        rw [heq, getD_both hun] at h1
        cases h1
      have h2 := qOp_put hoj (hfree j oj hoj hji hjun hnot) (fun cs b => hsel i oi cs b hi) (fun cs b => hsel j oj cs b hoj) hy h1
      have hfree' : ∀ k ok, ops[k]? = some ok → k ≠ i → (listed.setIfInBounds j true).getD k true = false →
          (∀ e ∈ ok.after, Region.binds md e = true → e.on ≠ i) → oi.apart ops ok = true := fun k ok hk hki hun hno => by
        refine hfree k ok hk hki ?_ hno
        by_cases hjk : j = k
        · subst hjk; exact hjun
        · rw [getD_set_ne true hjk] at hun; exact hun
      refine qOp_mono (fun a' h3 => ih (listed.setIfInBounds j true) a' (hset _ _ inv hj hjn) hfree' (ready_mono hr (Ne.symm hji)) h3.1 ?_) h2
      rw [Array.setIfInBounds_comm _ _ hji]
      exact h3.2
theorem wpAnyLQ_lexS {n g : Nat} {Lq : Act → Prop} (hsel : Region.noSelect ops = true) (S : Array Bool → Prop) (hset : ∀ listed j, S listed → j ∈ Region.ready md ops listed → j < n → S (listed.setIfInBounds j true)) (hwait : ∀ listed j, S listed → j < n → listed.getD j true = false → ∀ t, n ≤ t → t ∉ Region.ready md ops listed) :
    ∀ (l : List Oper) (k : Nat) (listed : Array Bool) (a : Act), (∀ j, j < l.length → l[j]? = ops[k + j]?) → k + l.length = n → S listed →
    Region.lexHead md ops g l.length k listed = true → wpQuiet P ops C Lq l a →
    wpAnyLQ P md ops C n (fun listed' a' => Region.seqB md ops g n listed' = true ∧ Lq a') l.length listed a
  | [], k, listed, a, _, hk, _, hB, h => by
    have : k = n := by simpa using hk
    subst this
    exact ⟨by simpa [Region.lexHead] using hB, h⟩
  | o :: l, k, listed, a, hl, hk, inv, hB, h => by
    have h0 : ops[k]? = some o := by simpa using (hl 0 (by simp)).symm
    simp only [List.length_cons, Region.lexHead, Bool.and_eq_true] at hB
    obtain ⟨⟨hr, hf⟩, hB'⟩ := hB
    have hkn : k < n := by simp only [List.length_cons] at hk; omega
    have hr' : k ∈ Region.ready md ops listed := by simpa using hr
    have hst : qOp P ops C k (wpQuiet P ops C Lq l) a := by unfold qOp; simp only [h0]; exact h
    obtain ⟨v, hy, hK⟩ := yieldsIn_of_qOp h0 hst
    exact wpAnyLQ_firstS h0 (Region.noSelect_spec hsel) S hset hwait hkn (fun listed' a' hL => seqB_ready hL.1) l.length listed a inv (Region.free_spec h0 hf) hr' hy
      (wpAnyLQ_lexS hsel S hset hwait l (k + 1) _ _ (fun j hj => by have := hl (j + 1) (by simp; omega); simpa [Nat.add_assoc, Nat.add_comm 1 j] using this) (by simp only [List.length_cons] at hk; omega) (hset _ _ inv hr' hkn) hB' hK)
/-- each operation before place n but the first stands before a later one, up to n -/
def sinkB1 (md : Region.Mode) (ops : Array Oper) (n : Nat) : Bool :=
  (List.range n).all fun i => decide (i = 0) || (List.range (n + 1)).any fun j => decide (i < j) && Region.waitsFor md ops j i
theorem tail_waits1 {n : Nat} {listed : Array Bool} (hs : sinkB1 md ops n = true) (hc : Region.chainB md ops n = true) (hn : n < ops.size) (inv : HeadInv md ops n listed) (h00 : listed.getD 0 false = true) :
    ∀ (d i : Nat), n - i = d → i < n → listed.getD i true = false → ∀ t, n ≤ t → t ∉ Region.ready md ops listed := by
  intro d
  induction d using Nat.strongRecOn with
  | _ d ih =>
    intro i hd hi hun t ht hr
    obtain ⟨_, ot, hot, hall⟩ := mem_ready.1 hr
    have htlt : t < ops.size := (Array.getElem?_eq_some_iff.1 hot).1
    by_cases htn : t = n
    · subst htn
      have h1 := List.all_eq_true.1 hs i (List.mem_range.2 hi)
      simp only [Bool.or_eq_true, decide_eq_true_eq] at h1
      rcases h1 with h1 | h1
      · subst h1
        have := getD_both hun
        rw [h00] at this
        cases this
      obtain ⟨j, hj, hj2⟩ := List.any_eq_true.1 h1
      simp only [Bool.and_eq_true, decide_eq_true_eq] at hj2
      obtain ⟨oj, hoj, e, he, hb, hon⟩ := Region.waitsFor_spec hj2.2
      have hjle : j ≤ t := by have := List.mem_range.1 hj; omega
      by_cases hjt : j = t
      · subst hjt
        have : oj = ot := Option.some.inj (hoj.symm.trans hot)
        subst this
        have h2 := hall e he hb
        rw [hon, getD_both hun] at h2
        cases h2
      · cases hl : listed.getD j false with
        | true =>
          have h2 := inv.closed j oj hoj hl e he hb
          rw [hon, getD_both hun] at h2
          cases h2
        | false =>
          have hjs : j < listed.size := by rw [inv.size]; omega
          exact ih (t - j) (by omega) j rfl (by omega) (getD_in hjs hl) t (Nat.le_refl _) hr
    · have h1 := List.all_eq_true.1 hc t (List.mem_range.2 htlt)
      simp only [Bool.or_eq_true, decide_eq_true_eq] at h1
      rcases h1 with h1 | h1
      · omega
      · obtain ⟨o', ho', e, he, hb, hon⟩ := Region.waitsFor_spec h1
        have : o' = ot := Option.some.inj (ho'.symm.trans hot)
        subst this
        have h2 := hall e he hb
        rw [hon, getD_both (inv.tail (t - 1) (by omega) (by omega))] at h2
        cases h2
def lexTail1B (md : Region.Mode) (ops : Array Oper) (n : Nat) : Bool :=
  Region.noSelect ops && decide (n < ops.size) && decide (1 ≤ n) && sinkB1 md ops n && Region.chainB md ops n && (Region.ready md ops (Array.replicate ops.size false)).contains 0 && Region.free md ops (Array.replicate ops.size false) 0
    && Region.lexHead md ops (ops.size - n) (n - 1) 1 ((Array.replicate ops.size false).setIfInBounds 0 true)
theorem wp_region_kw_tail1 {id : Nat} {Q : Exit → Act → World → Prop} {a : Act} {w : World} {o : Oper} {l : List Oper} {v : Value} (n : Nat) (hm : P.follows .mixedOrders = true) (hB : lexTail1B .any (o :: l).toArray n = true)
    (hQ : ∀ c a w, Q (.panic c) (a.put o.dst v) w → Q (.panic c) a w) (hy : Yields P (o :: l).toArray o v a)
    (h : wpQuiet P (o :: l).toArray (fun w' => ∃ u, w' = Kw w u) (fun a' => ∀ w', (∃ u, w' = Kw w u) → wpList P (o :: l).toArray Q ((o :: l).drop n) a' w') (l.take (n - 1)) (a.put o.dst v)) : (Code.region id (o :: l).toArray true).wp P Q a w := by
  simp only [lexTail1B, Bool.and_eq_true, decide_eq_true_eq] at hB
  obtain ⟨⟨⟨⟨⟨⟨⟨hsel, hn⟩, hn1⟩, hs⟩, hc⟩, hr0⟩, hf0⟩, hlex⟩ := hB
  have hn' : n < (o :: l).length := by simpa using hn
  have hn2 : n < l.length + 1 := by simpa using hn
  have htl : (l.take (n - 1)).length = n - 1 := by simp; omega
  have hdl : ((o :: l).drop n).length = (o :: l).toArray.size - n := by simp
  have inv0 : HeadInv .any (o :: l).toArray n (Array.replicate (o :: l).toArray.size false) :=
    ⟨by simp, fun j oj _ hl => (by rw [getD_replicate_false] at hl; cases hl), fun t _ ht => getD_in (by simpa using ht) (getD_replicate_false _ _)⟩
  have hr0' : 0 ∈ Region.ready .any (o :: l).toArray (Array.replicate (o :: l).toArray.size false) := by simpa using hr0
  have inv1 := inv0.set hr0' (by omega)
  have h1 : ((Array.replicate (o :: l).toArray.size false).setIfInBounds 0 true).getD 0 false = true := by simp
  have H := wpAnyLQ_lexS (md := .any) (g := (o :: l).toArray.size - n) hsel (fun listed => HeadInv .any (o :: l).toArray n listed ∧ listed.getD 0 false = true)
    (fun listed j hS hj hjn => ⟨hS.1.set hj hjn, getD_set_true hS.2⟩) (fun listed j hS hj hun => tail_waits1 hs hc hn hS.1 hS.2 _ j rfl hj hun) (l.take (n - 1)) 1 _ (a.put o.dst v) (fun j hj => by
    have hj' : j < n - 1 := by rw [htl] at hj; exact hj
    rw [List.getElem?_take_of_lt hj', Nat.add_comm 1 j]
    simp) (by rw [htl]; omega) ⟨inv1, h1⟩ (by rw [htl]; exact hlex) h
  refine wp_region_any hm ?_
  have := wpAnyQ_of_head (Q' := Q) (g := (o :: l).toArray.size - n) (fun listed a' w' hw' hL => by
    have := wpAny_of_seq (md := .any) (Q' := Q) ((o :: l).drop n) n listed a' w' (fun j => by simp [List.getElem?_drop]) (by rw [hdl]; exact hL.1) (hL.2 w' hw')
    rwa [hdl] at this) _ _ _ _ (kw_of (Kp.refl w).drew) H
  rw [htl, show n - 1 + ((o :: l).toArray.size - n) = l.length by simp; omega] at this
  exact wpAny_take (i := 0) (oi := o) rfl hsel hf0 hr0 hQ hy this
end
end Go.Proofs.Ytmokpnkpfodppaa
namespace Go.Proofs.Ytmokpnkpfodppaa
set_option linter.unusedSimpArgs false
set_option linter.unusedVariables false
open Go.RowKit

/-- how a message lies as a value -/
def MessageV (w : World) (val : Value) (m : Message) : Prop :=
  ∃ v3 v4 v5 v6 v7, val = .agg #[.int .i64 m.kind, .int .i64 m.sender, .int .i64 m.to, v3, v4, v5, .int .i64 m.ask.number, .int .i64 m.ask.place, .int .i64 m.ask.time, .int .i64 m.ask.replica, .int .i64 m.ask.serial, v6, .int .i64 m.term, .int .i64 m.index, .int .i64 m.logTerm, .int .i64 m.commit, .bool m.granted, v7] ∧
    Ints w v3 m.clock ∧ Events w v4 m.events ∧ Spans w v5 m.spans ∧ Needs w v6 m.ask.needs ∧ Entries w v7 m.entries
set_option maxHeartbeats 4000000 in
theorem wMessage_any (W0 : World) (g : Nat) (l : List Int) (val : Value) (x : Message) (w : World) (hk : Kp W0 w) (hw : Wr W0.heap.size w g l) (hv : MessageV W0 val x) (hroom : Room l (numMessage x).length) :
    Writes W0 g l (numMessage x) 58 #[.pointer (some ⟨g, 0, none⟩), val] w := by
  obtain ⟨v3, v4, v5, v6, v7, rfl, p3, p4, p5, p6, p7⟩ := hv
  obtain ⟨A3, c3, rfl, hc3, hm3⟩ := p3.form
  obtain ⟨A4, c4, rfl, hc4, hm4⟩ := p4.form
  obtain ⟨A5, c5, rfl, hc5, hm5⟩ := p5.form
  obtain ⟨A6, c6, rfl, hc6, hm6⟩ := p6.form
  obtain ⟨A7, c7, rfl, hc7, hm7⟩ := p7.form
  obtain ⟨m0, m1, m2, m3, m4, m5, ⟨a0, a1, a2, a3, a4, a5⟩, t0, t1, t2, t3, t4, t5⟩ := x
  dsimp only at *
  go_enter Try.func58, Try.ntmps58
  have hbx := box_new hw #[.int .i64 m0, .int .i64 m1, .int .i64 m2, .slice A3 m3.length c3, .slice A4 m4.length c4, .slice A5 m5.length c5, .int .i64 a0, .int .i64 a1, .int .i64 a2, .int .i64 a3, .int .i64 a4, .slice A6 a5.length c6, .int .i64 t0, .int .i64 t1, .int .i64 t2, .int .i64 t3, .bool t4, .slice A7 t5.length c7] 34
  have hk1 := hk.alloc (.cells #[.int .i64 m0, .int .i64 m1, .int .i64 m2, .slice A3 m3.length c3, .slice A4 m4.length c4, .slice A5 m5.length c5, .int .i64 a0, .int .i64 a1, .int .i64 a2, .int .i64 a3, .int .i64 a4, .slice A6 a5.length c6, .int .i64 t0, .int .i64 t1, .int .i64 t2, .int .i64 t3, .bool t4, .slice A7 t5.length c7] 34)
  have hw1 := hw.kp ((Kp.refl w).alloc (.cells #[.int .i64 m0, .int .i64 m1, .int .i64 m2, .slice A3 m3.length c3, .slice A4 m4.length c4, .slice A5 m5.length c5, .int .i64 a0, .int .i64 a1, .int .i64 a2, .int .i64 a3, .int .i64 a4, .slice A6 a5.length c6, .int .i64 t0, .int .i64 t1, .int .i64 t2, .int .i64 t3, .bool t4, .slice A7 t5.length c7] 34))
  have hx1 := ((Kp.refl w).alloc (.cells #[.int .i64 m0, .int .i64 m1, .int .i64 m2, .slice A3 m3.length c3, .slice A4 m4.length c4, .slice A5 m5.length c5, .int .i64 a0, .int .i64 a1, .int .i64 a2, .int .i64 a3, .int .i64 a4, .slice A6 a5.length c6, .int .i64 t0, .int .i64 t1, .int .i64 t2, .int .i64 t3, .bool t4, .slice A7 t5.length c7] 34)).wx hw.lt
  obtain ⟨hB1, s1⟩ := hbx
  have d0 := hB1 0 _ rfl
  have d1 := hB1 1 _ rfl
  have d2 := hB1 2 _ rfl
  go_wp2_with fail
  try rw [← World.size_alloc w (.cells #[.int .i64 m0, .int .i64 m1, .int .i64 m2, .slice A3 m3.length c3, .slice A4 m4.length c4, .slice A5 m5.length c5, .int .i64 a0, .int .i64 a1, .int .i64 a2, .int .i64 a3, .int .i64 a4, .slice A6 a5.length c6, .int .i64 t0, .int .i64 t1, .int .i64 t2, .int .i64 t3, .bool t4, .slice A7 t5.length c7] 34)]
  generalize w.alloc (.cells #[.int .i64 m0, .int .i64 m1, .int .i64 m2, .slice A3 m3.length c3, .slice A4 m4.length c4, .slice A5 m5.length c5, .int .i64 a0, .int .i64 a1, .int .i64 a2, .int .i64 a3, .int .i64 a4, .slice A6 a5.length c6, .int .i64 t0, .int .i64 t1, .int .i64 t2, .int .i64 t3, .bool t4, .slice A7 t5.length c7] 34) = w1 at *
  generalize w.heap.size = h at *
  refine (put_any W0 g _ [m0, m1, m2] _ _ (hk1.alloc _) (hw1.kp ((Kp.refl _).alloc _)) ?hl (by unfold Room at *; simp only [numMessage, List.length_append, List.length_cons, List.length_nil] at *; omega)).mono ?_
  case hl => exact litInts [m0, m1, m2] _ rfl (by simp) _ rfl
  rintro e w2 ⟨rfl, hw2, hy2⟩
  have hz2 := (((Kp.refl w1).alloc _).wx hw1.lt).trans hy2
  clear hy2
  have hx2 := hx1.trans hz2
  have hk2 := hx2.to_kp hk hw
  have hB2 := hB1.wx hz2 s1
  have s2 := s1.wx hz2
  clear hz2 hB1 s1 hx1 hk1
  clear d0 d1 d2
  have d3 := hB2 3 _ rfl
  go_wp2_with fail
  refine (wIntegers_any W0 g _ _ m3 _ hk2 hw2 p3 (by unfold Room at *; simp only [numMessage, List.length_append, List.length_cons, List.length_nil] at *; omega)).mono ?_
  rintro e w3 ⟨rfl, hw3, hz3⟩
  have hx3 := hx2.trans hz3
  have hk3 := hx3.to_kp hk hw
  have hB3 := hB2.wx hz3 s2
  have s3 := s2.wx hz3
  clear hz3 hB2 s2 hx2 hk2
  clear d3
  have d4 := hB3 4 _ rfl
  go_wp2_with fail
  refine (listEvent_any W0 g _ numEvent 69 [.pointer (some ⟨g, 0, none⟩)] [] _ m4 _ hk3 hw3 p4 (by unfold Room at *; simp only [numMessage, List.length_append, List.length_cons, List.length_nil] at *; omega) wEvent_real (fun w' l' A' c' x0 x1 x2 ms x4 x5 y0 y1 y2 y3 x7 x8 x9 ht h1 _ h2 h3 => wEvent_any W0 g l' _ ⟨x0, x1, x2, ms, x4, x5, ⟨y0, y1, y2, y3⟩, x7, x8, x9⟩ w' h1 h2 ⟨_, rfl, ht⟩ h3)).mono ?_
  rintro e w4 ⟨rfl, hw4, hz4⟩
  have hx4 := hx3.trans hz4
  have hk4 := hx4.to_kp hk hw
  have hB4 := hB3.wx hz4 s3
  have s4 := s3.wx hz4
  clear hz4 hB3 s3 hx3 hk3
  clear d4
  have d5 := hB4 5 _ rfl
  go_wp2_with fail
  refine (listSpan_any W0 g _ numSpan 71 [.pointer (some ⟨g, 0, none⟩)] [] _ m5 _ hk4 hw4 p5 (by unfold Room at *; simp only [numMessage, List.length_append, List.length_cons, List.length_nil] at *; omega) wSpan_real (fun w' l' x0 x1 x2 h1 _ h2 h3 => wSpan_any W0 g l' x0 x1 x2 w' h1 h2 h3)).mono ?_
  rintro e w5 ⟨rfl, hw5, hz5⟩
  have hx5 := hx4.trans hz5
  have hk5 := hx5.to_kp hk hw
  have hB5 := hB4.wx hz5 s4
  have s5 := s4.wx hz5
  clear hz5 hB4 s4 hx4 hk4
  clear d5
  have d6 := hB5 6 _ rfl
  have d7 := hB5 7 _ rfl
  have d8 := hB5 8 _ rfl
  have d9 := hB5 9 _ rfl
  have d10 := hB5 10 _ rfl
  have d11 := hB5 11 _ rfl
  go_wp2_with fail
  refine (wAsk_any W0 g _ _ ⟨a0, a1, a2, a3, a4, a5⟩ _ hk5 hw5 ⟨_, rfl, p6⟩ (by unfold Room at *; simp only [numMessage, List.length_append, List.length_cons, List.length_nil] at *; omega)).mono ?_
  rintro e w6 ⟨rfl, hw6, hz6⟩
  have hx6 := hx5.trans hz6
  have hk6 := hx6.to_kp hk hw
  have hB6 := hB5.wx hz6 s5
  have s6 := s5.wx hz6
  clear hz6 hB5 s5 hx5 hk5
  clear d6 d7 d8 d9 d10 d11
  have d12 := hB6 12 _ rfl
  have d13 := hB6 13 _ rfl
  have d14 := hB6 14 _ rfl
  have d15 := hB6 15 _ rfl
  have d16 := hB6 16 _ rfl
  have hlt := s6.1
  go_wp2_with fail
  refine wp_region_kw_tail1 (v := ?_) 12 (by kernel_rfl) (by kernel_rfl) (fun _ _ _ h => h) (Or.inl ⟨by rfl, ?_⟩) ?_
  rotate_left
  · intro w; go_simp; rfl
  simp only [List.take_succ_cons, List.take_zero, List.drop_succ_cons, List.drop_zero, Nat.add_one_sub_one, Act.put, List.setIfInBounds_toArray, List.set_cons_succ, List.set_cons_zero]
  repeat (go_big_quiet_step (((go_at_call 73; refine quiet_kw (cTruth_any _ _)))))
  refine wpQuiet_nil ?_
  intro _ hw'
  obtain ⟨u, hw''⟩ := hw'
  subst hw''
  have kq := kw_kp w6 u
  generalize Kw w6 u = w7 at *
  have hw7 := hw6.kp kq
  have hz7 := kq.wx hw6.lt
  have hx7 := hx6.trans hz7
  have hk7 := hx7.to_kp hk hw
  have hB7 := hB6.wx hz7 s6
  have s7 := s6.wx hz7
  clear hz7 hB6 s6 hx6 hk6
  go_wp2_with fail
  refine (put_any W0 g _ [t0, t1, t2, t3, numB t4] _ _ (hk7.alloc _) (hw7.kp ((Kp.refl _).alloc _)) ?hl (by unfold Room at *; simp only [numMessage, List.length_append, List.length_cons, List.length_nil] at *; omega)).mono ?_
  case hl => exact litInts [t0, t1, t2, t3, numB t4] _ rfl (by simp) _ rfl
  rintro e w8 ⟨rfl, hw8, hy8⟩
  have hz8 := (((Kp.refl w7).alloc _).wx hw7.lt).trans hy8
  clear hy8
  have hx8 := hx7.trans hz8
  have hk8 := hx8.to_kp hk hw
  have hB8 := hB7.wx hz8 s7
  have s8 := s7.wx hz8
  clear hz8 hB7 s7 hx7 hk7
  clear d12 d13 d14 d15 d16
  have d17 := hB8 17 _ rfl
  go_wp2_with fail
  refine (listEntry_any W0 g _ numEntry 75 [.pointer (some ⟨g, 0, none⟩)] [] _ t5 _ hk8 hw8 p7 (by unfold Room at *; simp only [numMessage, List.length_append, List.length_cons, List.length_nil] at *; omega) wEntry_real (fun w' l' A' c' x0 x1 x2 x3 x4 ms ht h1 _ h2 h3 => wEntry_any W0 g l' _ ⟨x0, x1, x2, x3, x4, ms⟩ w' h1 h2 ⟨_, rfl, ht⟩ h3)).mono ?_
  rintro e w9 ⟨rfl, hw9, hz9⟩
  have hx9 := hx8.trans hz9
  have hk9 := hx9.to_kp hk hw
  have hB9 := hB8.wx hz9 s8
  have s9 := s8.wx hz9
  clear hz9 hB8 s8 hx8 hk8
  go_wp2
  go_end0
  exact ⟨rfl, by simpa [numMessage] using hw9, hx9⟩
theorem wMessage_real : Real Try.prog 58 := ⟨_, Try.func58, by kernel_rfl, by kernel_rfl⟩
end Go.Proofs.Ytmokpnkpfodppaa
