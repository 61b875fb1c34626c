
/-
The writer: what is known of a convergent cell, lists of lists.
-/
import Derived.Test.YtmeafoakbkjifaaCodW4
namespace Go.Proofs.Ytmeafoakbkjifaa
set_option linter.unusedSimpArgs false
set_option linter.unusedVariables false
open Go.RowKit

set_option maxHeartbeats 400000 in
theorem cTruth_any (b : Bool) (w : World) : Calls Try.prog 117 #[.bool b] w fun e w' => e = .returned (.int .i64 (numB b)) ∧ Kp w w' := by
  cases b <;>
  · go_enter Try.func117, Try.ntmps117
    go_wp2
    go_ret
    exact ⟨rfl, Kp.refl _⟩
/-- how what is known of a convergent cell lies -/
def rdMerged : Rd Merged := fun w cs m => ∃ v, cs = [.bool m.put, .bool m.drop, v] ∧ Marks w v m.marks
theorem rdMerged_stable : Stable rdMerged := fun _ _ _ _ hb ⟨v, h1, h2⟩ => ⟨v, h1, h2.keep (pl_stable _) hb⟩
abbrev Mergeds := Sl rdMerged 3
def rdInts : Rd (List Int) := fun w cs l => ∃ v, cs = [v] ∧ Ints w v l
theorem rdInts_stable : Stable rdInts := fun _ _ _ _ hb ⟨v, h1, h2⟩ => ⟨v, h1, h2.keep (pl_stable _) hb⟩
abbrev Intss := Sl rdInts 1
def rdIntss : Rd (List (List Int)) := fun w cs l => ∃ v, cs = [v] ∧ Intss w v l
theorem rdIntss_stable : Stable rdIntss := fun _ _ _ _ hb ⟨v, h1, h2⟩ => ⟨v, h1, h2.keep rdInts_stable hb⟩
abbrev Intsss := Sl rdIntss 1
theorem Sl.intss {w : World} {A : Option Addr} {n c : Nat} {l : List (List Int)} (h : Intss w (.slice A n c) l) {k : Nat} (hk : k < l.length) :
    ∃ b o A' c', A = some ⟨b, o, none⟩ ∧ b < w.heap.size ∧ w.cell? ⟨b, o + k, none⟩ = some (.slice A' l[k].length c') ∧ Ints w (.slice A' l[k].length c') l[k] := by
  obtain ⟨b, o, cs, hA, had, hcs, hc, v, rfl, ht⟩ := h.at_ hk
  obtain ⟨A', c', rfl, -, -⟩ := ht.form
  exact ⟨b, o, A', c', hA, had, by simpa using hc 0 _ rfl, ht⟩
theorem Sl.intsss {w : World} {A : Option Addr} {n c : Nat} {l : List (List (List Int))} (h : Intsss w (.slice A n c) l) {k : Nat} (hk : k < l.length) :
    ∃ b o A' c', A = some ⟨b, o, none⟩ ∧ b < w.heap.size ∧ w.cell? ⟨b, o + k, none⟩ = some (.slice A' l[k].length c') ∧ Intss w (.slice A' l[k].length c') l[k] := by
  obtain ⟨b, o, cs, hA, had, hcs, hc, v, rfl, ht⟩ := h.at_ hk
  obtain ⟨A', c', rfl, -, -⟩ := ht.form
  exact ⟨b, o, A', c', hA, had, by simpa using hc 0 _ rfl, ht⟩
set_option maxHeartbeats 1000000 in
theorem listInts_any (W0 : World) (g : Nat) (l : List Int) (f : (List Int) → List Int) (F : FuncId) (bound cap : List Value) (v : Value) (xs : List (List Int)) (w : World) (hk : Kp W0 w) (hw : Wr W0.heap.size w g l)
    (hS : Intss W0 v xs) (hroom : Room l (numL f xs).length) (hr : Real Try.prog F)
    (hf : ∀ (w' : World) (l' : List Int) (A' : Option Addr) (c' : Nat) (x : List Int), Ints W0 (.slice A' x.length c') x → Kp W0 w' → Wx g w w' → Wr W0.heap.size w' g l' → Room l' (f x).length → Writes W0 g l' (f x) F (bound ++ .slice A' x.length c' :: cap).toArray w') :
    Writes W0 g l (numL f xs) 91 #[.pointer (some ⟨g, 0, none⟩), v, .func (.func F) bound.toArray cap.toArray] w := by
  have HC := hid hf
  clear hf
  have hcf := fun args w => hr.run args w
  have hgl := hw.lt
  obtain ⟨A, c, rfl, hc, hm⟩ := hS.form
  have hroom' := hroom
  unfold Room numL at hroom'
  rw [List.length_cons] at hroom'
  go_enter Try.func91, Try.ntmps91
  go_wp2_with fail
  refine (put_any W0 g l [(xs.length : Int)] _ _ (hk.alloc _) (hw.kp ((Kp.refl _).alloc _)) (litInts [(xs.length : Int)] _ rfl (by simp) _ rfl) (by unfold Room; simp; omega)).mono ?_
  rintro e w1 ⟨rfl, hw1, hx1⟩
  have hx1 := (((Kp.refl w).alloc _).wx hgl).trans hx1
  go_wp2
  go_loopw [15] (fun i wr => ∃ k : Nat, k ≤ xs.length ∧ i = .int .i64 k ∧ Wr W0.heap.size wr g ((l ++ [(xs.length : Int)]) ++ (xs.take k).flatMap f) ∧ Wx g w wr) (fun i _ => xs.length - (intOf i).toNat)
  case atStart => exact ⟨0, Nat.zero_le _, rfl, by simpa using hw1, hx1⟩
  case round =>
    clear hw1 hx1
    obtain ⟨k, hk2, rfl, hwr, hxr⟩ := hrel
    have hkr := hxr.to_kp hk hw
    by_cases hlt : k < xs.length
    · obtain ⟨b, o, A', c', rfl, hb, h0', ht⟩ := hS.intss hlt
      have h0 := hkr.cellS h0'; clear h0'
      have HT := hid (take_snoc' xs k hlt)
      have HR : Hid (Room ((l ++ [(xs.length : Int)]) ++ (xs.take k).flatMap f) (f xs[k]).length) := hid (room_step f l xs k hlt hroom)
      clear hS
      generalize xs[k] = x at *
      obtain x := x
      try dsimp only at *
      go_wp2_with fail
      first | (refine (HC.out wr _ A' c' x ht hkr hxr hwr HR.out).mono ?_) | (refine (HC.out (wr.alloc _) _ A' c' x ht (hkr.alloc _) (hxr.trans (((Kp.refl wr).alloc _).wx hwr.lt)) (hwr.kp ((Kp.refl wr).alloc _)) HR.out).mono ?_)
      rintro e w2 ⟨rfl, hw2, hx2⟩
      go_wp2
      go_roundw
      case rel => exact ⟨k + 1, by omega, by go_num, by rw [HT.out]; simpa using hw2, by first | exact hxr.trans hx2 | exact (hxr.trans (((Kp.refl wr).alloc _).wx hwr.lt)).trans hx2⟩
      case measure => simp [intOf]; omega
    · have HF : Hid (xs.take k = xs) := hid (List.take_of_length_le (by omega))
      go_wp2
      go_end0
      exact ⟨rfl, by rw [HF.out] at hwr; simpa [numL] using hwr, hxr⟩
set_option maxHeartbeats 1000000 in
theorem listIntss_any (W0 : World) (g : Nat) (l : List Int) (f : (List (List Int)) → List Int) (F : FuncId) (bound cap : List Value) (v : Value) (xs : List (List (List Int))) (w : World) (hk : Kp W0 w) (hw : Wr W0.heap.size w g l)
    (hS : Intsss W0 v xs) (hroom : Room l (numL f xs).length) (hr : Real Try.prog F)
    (hf : ∀ (w' : World) (l' : List Int) (A' : Option Addr) (c' : Nat) (x : List (List Int)), Intss W0 (.slice A' x.length c') x → Kp W0 w' → Wx g w w' → Wr W0.heap.size w' g l' → Room l' (f x).length → Writes W0 g l' (f x) F (bound ++ .slice A' x.length c' :: cap).toArray w') :
    Writes W0 g l (numL f xs) 92 #[.pointer (some ⟨g, 0, none⟩), v, .func (.func F) bound.toArray cap.toArray] w := by
  have HC := hid hf
  clear hf
  have hcf := fun args w => hr.run args w
  have hgl := hw.lt
  obtain ⟨A, c, rfl, hc, hm⟩ := hS.form
  have hroom' := hroom
  unfold Room numL at hroom'
  rw [List.length_cons] at hroom'
  go_enter Try.func92, Try.ntmps92
  go_wp2_with fail
  refine (put_any W0 g l [(xs.length : Int)] _ _ (hk.alloc _) (hw.kp ((Kp.refl _).alloc _)) (litInts [(xs.length : Int)] _ rfl (by simp) _ rfl) (by unfold Room; simp; omega)).mono ?_
  rintro e w1 ⟨rfl, hw1, hx1⟩
  have hx1 := (((Kp.refl w).alloc _).wx hgl).trans hx1
  go_wp2
  go_loopw [15] (fun i wr => ∃ k : Nat, k ≤ xs.length ∧ i = .int .i64 k ∧ Wr W0.heap.size wr g ((l ++ [(xs.length : Int)]) ++ (xs.take k).flatMap f) ∧ Wx g w wr) (fun i _ => xs.length - (intOf i).toNat)
  case atStart => exact ⟨0, Nat.zero_le _, rfl, by simpa using hw1, hx1⟩
  case round =>
    clear hw1 hx1
    obtain ⟨k, hk2, rfl, hwr, hxr⟩ := hrel
    have hkr := hxr.to_kp hk hw
    by_cases hlt : k < xs.length
    · obtain ⟨b, o, A', c', rfl, hb, h0', ht⟩ := hS.intsss hlt
      have h0 := hkr.cellS h0'; clear h0'
      have HT := hid (take_snoc' xs k hlt)
      have HR : Hid (Room ((l ++ [(xs.length : Int)]) ++ (xs.take k).flatMap f) (f xs[k]).length) := hid (room_step f l xs k hlt hroom)
      clear hS
      generalize xs[k] = x at *
      obtain x := x
      try dsimp only at *
      go_wp2_with fail
      first | (refine (HC.out wr _ A' c' x ht hkr hxr hwr HR.out).mono ?_) | (refine (HC.out (wr.alloc _) _ A' c' x ht (hkr.alloc _) (hxr.trans (((Kp.refl wr).alloc _).wx hwr.lt)) (hwr.kp ((Kp.refl wr).alloc _)) HR.out).mono ?_)
      rintro e w2 ⟨rfl, hw2, hx2⟩
      go_wp2
      go_roundw
      case rel => exact ⟨k + 1, by omega, by go_num, by rw [HT.out]; simpa using hw2, by first | exact hxr.trans hx2 | exact (hxr.trans (((Kp.refl wr).alloc _).wx hwr.lt)).trans hx2⟩
      case measure => simp [intOf]; omega
    · have HF : Hid (xs.take k = xs) := hid (List.take_of_length_le (by omega))
      go_wp2
      go_end0
      exact ⟨rfl, by rw [HF.out] at hwr; simpa [numL] using hwr, hxr⟩
end Go.Proofs.Ytmeafoakbkjifaa
