
/-
The writer: numbers, lists of numbers, rights, needs.
-/
import Derived.Test.YtmokpnkpfodppaaCodW1
import Derived.Test.YtmokpnkpfodppaaCod1
namespace Go.Proofs.Ytmokpnkpfodppaa
set_option linter.unusedSimpArgs false
set_option linter.unusedVariables false
open Go.RowKit

/-- a fresh slice of numbers -/
theorem litInts {w : World} (l : List Int) (cs : Array Value) (h : cs.toList = flat encInt l) (hl : l.length ≤ 1000) (n : Nat) (hn : n = l.length) : Ints (w.alloc (.cells cs 3)) (.slice (some ⟨w.heap.size, 0, none⟩) n n) l := by
  subst hn
  have hs : cs.size = l.length * 1 := by
    have := flat_length encInt_len l
    rw [← h] at this
    simpa using this
  exact (Own.lit (base := w.heap.size) encInt w cs l (Nat.le_refl _) (by omega) hs h).sl encInt_len

/-- the writer at g writes the numbers m: what a call does -/
abbrev Writes (W0 : World) (g : Nat) (l m : List Int) (F : FuncId) (args : Array Value) (w : World) : Prop :=
  Calls Try.prog F args w fun e w' => e = .returned (.tuple #[]) ∧ Wr W0.heap.size w' g (l ++ m) ∧ Wx g w w'

set_option maxHeartbeats 400000 in
theorem wInteger_any (W0 : World) (g : Nat) (l : List Int) (n : Int) (w : World) (hk : Kp W0 w) (hw : Wr W0.heap.size w g l) (hroom : Room l (numI n).length) :
    Writes W0 g l (numI n) 92 #[.pointer (some ⟨g, 0, none⟩), .int .i64 n] w := by
  have hgl := hw.lt
  go_enter Try.func92, Try.ntmps92
  go_wp2_with fail
  refine (put_any W0 g l [n] _ _ (hk.alloc _) (hw.kp ((Kp.refl _).alloc _)) (litInts [n] _ rfl (by simp) _ rfl) hroom).mono ?_
  rintro e w1 ⟨rfl, hw1, hx1⟩
  go_wp2
  go_end0
  exact ⟨rfl, hw1, (((Kp.refl _).alloc _).wx hgl).trans hx1⟩
theorem wInteger_real : Real Try.prog 92 := ⟨_, Try.func92, by kernel_rfl, by kernel_rfl⟩

set_option maxHeartbeats 1000000 in
theorem listInt_any (W0 : World) (g : Nat) (l : List Int) (f : Int → List Int) (F : FuncId) (bound cap : List Value) (v : Value) (xs : List Int) (w : World) (hk : Kp W0 w) (hw : Wr W0.heap.size w g l)
    (hS : Ints W0 v xs) (hroom : Room l (numL f xs).length) (hr : Real Try.prog F)
    (hf : ∀ (w' : World) (l' : List Int) (x : Int),  Kp W0 w' → Wx g w w' → Wr W0.heap.size w' g l' → Room l' (f x).length → Writes W0 g l' (f x) F (bound ++ (Value.int .i64 x) :: cap).toArray w') :
    Writes W0 g l (numL f xs) 91 #[.pointer (some ⟨g, 0, none⟩), v, .func (.func F) bound.toArray cap.toArray] w := by
  have HC := hid hf
  clear hf
  have hcf := fun args w => hr.run args w
  have hgl := hw.lt
  obtain ⟨A, c, rfl, hc, hm⟩ := hS.form
  have hroom' := hroom
  unfold Room numL at hroom'
  rw [List.length_cons] at hroom'
  go_enter Try.func91, Try.ntmps91
  go_wp2_with fail
  refine (put_any W0 g l [(xs.length : Int)] _ _ (hk.alloc _) (hw.kp ((Kp.refl _).alloc _)) (litInts [(xs.length : Int)] _ rfl (by simp) _ rfl) (by unfold Room; simp; omega)).mono ?_
  rintro e w1 ⟨rfl, hw1, hx1⟩
  have hx1 := (((Kp.refl w).alloc _).wx hgl).trans hx1
  go_wp2
  go_loopw [15] (fun i wr => ∃ k : Nat, k ≤ xs.length ∧ i = .int .i64 k ∧ Wr W0.heap.size wr g ((l ++ [(xs.length : Int)]) ++ (xs.take k).flatMap f) ∧ Wx g w wr) (fun i _ => xs.length - (intOf i).toNat)
  case atStart => exact ⟨0, Nat.zero_le _, rfl, by simpa using hw1, hx1⟩
  case round =>
    clear hw1 hx1
    obtain ⟨k, hk2, rfl, hwr, hxr⟩ := hrel
    have hkr := hxr.to_kp hk hw
    by_cases hlt : k < xs.length
    · obtain ⟨b, o, rfl, hb, h1'⟩ := hS.ints hlt
      have h1 := hkr.cellS h1'; clear h1'
      have HT := hid (take_snoc' xs k hlt)
      have HR : Hid (Room ((l ++ [(xs.length : Int)]) ++ (xs.take k).flatMap f) (f xs[k]).length) := hid (room_step f l xs k hlt hroom)
      clear hS
      generalize xs[k] = x at *
      obtain x := x
      try dsimp only at *
      go_wp2_with fail
      first | (refine (HC.out wr _ x hkr hxr hwr HR.out).mono ?_) | (refine (HC.out (wr.alloc _) _ x (hkr.alloc _) (hxr.trans (((Kp.refl wr).alloc _).wx hwr.lt)) (hwr.kp ((Kp.refl wr).alloc _)) HR.out).mono ?_)
      rintro e w2 ⟨rfl, hw2, hx2⟩
      go_wp2
      go_roundw
      case rel => exact ⟨k + 1, by omega, by go_num, by rw [HT.out]; simpa using hw2, by first | exact hxr.trans hx2 | exact (hxr.trans (((Kp.refl wr).alloc _).wx hwr.lt)).trans hx2⟩
      case measure => simp [intOf]; omega
    · have HF : Hid (xs.take k = xs) := hid (List.take_of_length_le (by omega))
      go_wp2
      go_end0
      exact ⟨rfl, by rw [HF.out] at hwr; simpa [numL] using hwr, hxr⟩
end Go.Proofs.Ytmokpnkpfodppaa
