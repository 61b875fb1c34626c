
/-
The writer: lists of what is known of convergent cells, and a base.
-/
import Derived.Test.YtmeafoakbkjifaaCodW6
namespace Go.Proofs.Ytmeafoakbkjifaa
set_option linter.unusedSimpArgs false
set_option linter.unusedVariables false
open Go.RowKit

theorem Sl.merged {w : World} {A : Option Addr} {n c : Nat} {l : List Merged} (h : Mergeds w (.slice A n c) l) {k : Nat} (hk : k < l.length) :
    ∃ b o A' c', A = some ⟨b, o, none⟩ ∧ b < w.heap.size ∧ w.cell? ⟨b, o + k * 3, none⟩ = some (.bool l[k].put) ∧ w.cell? ⟨b, o + k * 3 + 1, none⟩ = some (.bool l[k].drop) ∧ w.cell? ⟨b, o + k * 3 + 2, none⟩ = some (.slice A' l[k].marks.length c') ∧ Marks w (.slice A' l[k].marks.length c') l[k].marks := by
  obtain ⟨b, o, cs, hA, had, hcs, hc, v, rfl, ht⟩ := h.at_ hk
  obtain ⟨A', c', rfl, -, -⟩ := ht.form
  exact ⟨b, o, A', c', hA, had, hc 0 _ rfl, hc 1 _ rfl, hc 2 _ rfl, ht⟩
set_option maxHeartbeats 1000000 in
theorem listMerged_any (W0 : World) (g : Nat) (l : List Int) (f : Merged → List Int) (F : FuncId) (bound cap : List Value) (v : Value) (xs : List Merged) (w : World) (hk : Kp W0 w) (hw : Wr W0.heap.size w g l)
    (hS : Mergeds W0 v xs) (hroom : Room l (numL f xs).length) (hr : Real Try.prog F)
    (hf : ∀ (w' : World) (l' : List Int) (A' : Option Addr) (c' : Nat) (x0 x1 : Bool) (ms : List Mark), Marks W0 (.slice A' ms.length c') ms → Kp W0 w' → Wx g w w' → Wr W0.heap.size w' g l' → Room l' (f ⟨x0, x1, ms⟩).length → Writes W0 g l' (f ⟨x0, x1, ms⟩) F (bound ++ .agg #[.bool x0, .bool x1, .slice A' ms.length c'] :: cap).toArray w') :
    Writes W0 g l (numL f xs) 89 #[.pointer (some ⟨g, 0, none⟩), v, .func (.func F) bound.toArray cap.toArray] w := by
  have HC := hid hf
  clear hf
  have hcf := fun args w => hr.run args w
  have hgl := hw.lt
  obtain ⟨A, c, rfl, hc, hm⟩ := hS.form
  have hroom' := hroom
  unfold Room numL at hroom'
  rw [List.length_cons] at hroom'
  go_enter Try.func89, Try.ntmps89
  go_wp2_with fail
  refine (put_any W0 g l [(xs.length : Int)] _ _ (hk.alloc _) (hw.kp ((Kp.refl _).alloc _)) (litInts [(xs.length : Int)] _ rfl (by simp) _ rfl) (by unfold Room; simp; omega)).mono ?_
  rintro e w1 ⟨rfl, hw1, hx1⟩
  have hx1 := (((Kp.refl w).alloc _).wx hgl).trans hx1
  go_wp2
  go_loopw [15] (fun i wr => ∃ k : Nat, k ≤ xs.length ∧ i = .int .i64 k ∧ Wr W0.heap.size wr g ((l ++ [(xs.length : Int)]) ++ (xs.take k).flatMap f) ∧ Wx g w wr) (fun i _ => xs.length - (intOf i).toNat)
  case atStart => exact ⟨0, Nat.zero_le _, rfl, by simpa using hw1, hx1⟩
  case round =>
    clear hw1 hx1
    obtain ⟨k, hk2, rfl, hwr, hxr⟩ := hrel
    have hkr := hxr.to_kp hk hw
    by_cases hlt : k < xs.length
    · obtain ⟨b, o, A', c', rfl, hb, h0', h1', h2', ht⟩ := hS.merged hlt
      have h0 := hkr.cellS h0'; have h1 := hkr.cellS h1'; have h2 := hkr.cellS h2'; clear h0' h1' h2'
      have HT := hid (take_snoc' xs k hlt)
      have HR : Hid (Room ((l ++ [(xs.length : Int)]) ++ (xs.take k).flatMap f) (f xs[k]).length) := hid (room_step f l xs k hlt hroom)
      clear hS
      generalize xs[k] = x at *
      obtain ⟨x0, x1, ms⟩ := x
      try dsimp only at *
      go_wp2_with fail
      first | (refine (HC.out wr _ A' c' x0 x1 ms ht hkr hxr hwr HR.out).mono ?_) | (refine (HC.out (wr.alloc _) _ A' c' x0 x1 ms ht (hkr.alloc _) (hxr.trans (((Kp.refl wr).alloc _).wx hwr.lt)) (hwr.kp ((Kp.refl wr).alloc _)) HR.out).mono ?_)
      rintro e w2 ⟨rfl, hw2, hx2⟩
      go_wp2
      go_roundw
      case rel => exact ⟨k + 1, by omega, by go_num, by rw [HT.out]; simpa using hw2, by first | exact hxr.trans hx2 | exact (hxr.trans (((Kp.refl wr).alloc _).wx hwr.lt)).trans hx2⟩
      case measure => simp [intOf]; omega
    · have HF : Hid (xs.take k = xs) := hid (List.take_of_length_le (by omega))
      go_wp2
      go_end0
      exact ⟨rfl, by rw [HF.out] at hwr; simpa [numL] using hwr, hxr⟩

set_option maxHeartbeats 400000 in
/-- the closure of base: a list of lists of lists -/
theorem wBase1_any (W0 : World) (g b1 : Nat) (l : List Int) (v : Value) (xs : List (List Int)) (w : World) (hk : Kp W0 w) (hw : Wr W0.heap.size w g l) (hv : Intss W0 v xs) (hroom : Room l (numL numIs xs).length)
    (hc : w.cell? ⟨b1, 0, none⟩ = some (.pointer (some ⟨g, 0, none⟩))) :
    Writes W0 g l (numL numIs xs) 93 #[v, .pointer (some ⟨b1, 0, none⟩)] w := by
  have hb1 := block_lt_of_cell hc
  go_enter Try.func93, Try.ntmps93
  go_wp2_with fail
  refine (listInts_any W0 g l numIs 87 [.pointer (some ⟨g, 0, none⟩)] [] v xs _ hk hw hv hroom wIntegers_real (fun w' l' A' c' x ht h1 _ h2 h3 => wIntegers_any W0 g l' _ x w' h1 h2 ht h3)).mono ?_
  rintro e w1 ⟨rfl, hw1, hx1⟩
  go_wp2
  go_end0
  exact ⟨rfl, hw1, hx1⟩
theorem wBase1_real : Real Try.prog 93 := ⟨_, Try.func93, by kernel_rfl, by kernel_rfl⟩
end Go.Proofs.Ytmeafoakbkjifaa
