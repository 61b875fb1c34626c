
/-
The writer: lists of records.
-/
import Derived.Test.YtmeafoakbkjifaaCodW12
namespace Go.Proofs.Ytmeafoakbkjifaa
set_option linter.unusedSimpArgs false
set_option linter.unusedVariables false
open Go.RowKit

theorem Kp.setCells {a : World} {b : Nat} (hb : a.heap.size ≤ b) : ∀ (vs : List Value) (o : Nat) (w : World), Kp a w → Kp a (w.setCells b o vs)
  | [], _, _, h => h
  | v :: r, o, w, h => by
    rw [World.setCells]
    exact Kp.setCells hb r (o + 1) _ (h.set hb v)
theorem there_new (w : World) (Z : Array Value) (t : TypeId) (n : Nat) (h : Z.size = n) : (w.alloc (.cells Z t)).there w.heap.size 0 n := fun j hj => by
  subst h
  rw [Nat.zero_add]
  exact ⟨by rw [alloc_cell w Z t j (Array.getElem?_eq_getElem hj)]; rfl, alloc_frozen w Z t j⟩
theorem rdRecord_one {w : World} {cs : List Value} {r : Record} (h : rdRecord w cs r) : cs.length = 30 ∧ ∀ u ∈ cs, u.oneCell' = true := by
  obtain ⟨v0, v1, v2, v3, v4, v5, v6, v7, rfl, p0, p1, p2, p3, p4, p5, p6, p7⟩ := h
  obtain ⟨A0, c0, rfl, -, -⟩ := p0.form
  obtain ⟨A1, c1, rfl, -, -⟩ := p1.form
  obtain ⟨A2, c2, rfl, -, -⟩ := p2.form
  obtain ⟨A3, c3, rfl, -, -⟩ := p3.form
  obtain ⟨A4, c4, rfl, -, -⟩ := p4.form
  obtain ⟨A5, c5, rfl, -, -⟩ := p5.form
  obtain ⟨A6, c6, rfl, -, -⟩ := p6.form
  obtain ⟨A7, c7, rfl, -, -⟩ := p7.form
  refine ⟨rfl, ?_⟩
  simp [Value.oneCell']
set_option maxHeartbeats 1000000 in
theorem listRecord_any (W0 : World) (g : Nat) (l : List Int) (f : Record → List Int) (F : FuncId) (bound cap : List Value) (v : Value) (xs : List Record) (w : World) (hk : Kp W0 w) (hw : Wr W0.heap.size w g l)
    (hS : Records W0 v xs) (hroom : Room l (numL f xs).length) (hr : Real Try.prog F)
    (hf : ∀ (w' : World) (l' : List Int) (val : Value) (x : Record), RecordV W0 val x → Kp W0 w' → Wx g w w' → Wr W0.heap.size w' g l' → Room l' (f x).length → Writes W0 g l' (f x) F (bound ++ val :: cap).toArray w') :
    Writes W0 g l (numL f xs) 64 #[.pointer (some ⟨g, 0, none⟩), v, .func (.func F) bound.toArray cap.toArray] w := by
  have HC := hid hf
  clear hf
  have hcf := fun args w => hr.run args w
  have hgl := hw.lt
  obtain ⟨A, c, rfl, hc, hm⟩ := hS.form
  have hroom' := hroom
  unfold Room numL at hroom'
  rw [List.length_cons] at hroom'
  go_enter Try.func64, Try.ntmps64
  go_wp2_with fail
  refine (put_any W0 g l [(xs.length : Int)] _ _ (hk.alloc _) (hw.kp ((Kp.refl _).alloc _)) (litInts [(xs.length : Int)] _ rfl (by simp) _ rfl) (by unfold Room; simp; omega)).mono ?_
  rintro e w1 ⟨rfl, hw1, hx1⟩
  have hx1 := (((Kp.refl w).alloc _).wx hgl).trans hx1
  go_wp2
  go_loopw [15] (fun i wr => ∃ k : Nat, k ≤ xs.length ∧ i = .int .i64 k ∧ Wr W0.heap.size wr g ((l ++ [(xs.length : Int)]) ++ (xs.take k).flatMap f) ∧ Wx g w wr) (fun i _ => xs.length - (intOf i).toNat)
  case atStart => exact ⟨0, Nat.zero_le _, rfl, by simpa using hw1, hx1⟩
  case round =>
    clear hw1 hx1
    obtain ⟨k, hk2, rfl, hwr, hxr⟩ := hrel
    have hkr := hxr.to_kp hk hw
    by_cases hlt : k < xs.length
    · obtain ⟨b, o, cs, rfl, hb, hcs, hq, hrd⟩ := hS.at_ hlt
      have hrv := RecordV.of hrd
      have h1c := (rdRecord_one hrd).2
      have hrg : wr.rangeAt b (o + k * 30) cs := fun j u hu => hkr.cellS (hq j u hu)
      have hth : ∀ Z : Array Value, Z.size = 30 → (wr.alloc (.cells Z 46)).there wr.heap.size 0 cs.toArray.size := fun Z hZ => there_new wr Z _ _ (by rw [hZ]; simpa using hcs.symm)
      have HT := hid (take_snoc' xs k hlt)
      have HR : Hid (Room ((l ++ [(xs.length : Int)]) ++ (xs.take k).flatMap f) (f xs[k]).length) := hid (room_step f l xs k hlt hroom)
      clear hS hrd hq
      generalize xs[k] = x at *
      have HH := hid hrg
      have HI := hid hth
      clear hrg hth
      go_wp2_with (first | (refine wpList_load_mid rfl 46 (.tmp 17) rfl b (o + k * 30) rfl cs _ HH.out Try.underlying46 rfl (by rw [hcs]; kernel_rfl) ?_) | (refine wpList_store_mid rfl 46 (.tmp 7) (.tmp 18) rfl wr.heap.size 0 cs.toArray rfl rfl (HI.out _ rfl) (by rw [List.size_toArray, hcs]; kernel_rfl) (all_oneCell_toArray h1c) ?_) | (refine wpList_load_mid rfl 46 (.tmp 7) rfl wr.heap.size 0 rfl cs _ (World.rangeAt_setCells_same _ _ _ _ (by simpa using HI.out _ rfl)) Try.underlying46 rfl (by rw [hcs]; kernel_rfl) ?_))
      have kq := fun Z => Kp.setCells (a := wr) (Nat.le_refl wr.heap.size) cs 0 _ ((Kp.refl wr).alloc (.cells Z 46))
      refine (HC.out _ _ _ x hrv (hkr.trans (kq _)) (hxr.trans ((kq _).wx hwr.lt)) (hwr.kp (kq _)) HR.out).mono ?_
      rintro e w2 ⟨rfl, hw2, hx2⟩
      go_wp2
      go_roundw
      case rel => exact ⟨k + 1, by omega, by go_num, by rw [HT.out]; simpa using hw2, (hxr.trans ((kq _).wx hwr.lt)).trans hx2⟩
      case measure => simp [intOf]; omega
    · have HF : Hid (xs.take k = xs) := hid (List.take_of_length_le (by omega))
      go_wp2
      go_end0
      exact ⟨rfl, by rw [HF.out] at hwr; simpa [numL] using hwr, hxr⟩
end Go.Proofs.Ytmeafoakbkjifaa
