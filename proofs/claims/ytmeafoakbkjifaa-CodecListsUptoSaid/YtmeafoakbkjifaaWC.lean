/-
The writer: lists of records.
The writer: which records are well-formed.
-/
import Derived.Test.YtmeafoakbkjifaaCodW12
namespace Go.Proofs.Ytmeafoakbkjifaa
set_option linter.unusedSimpArgs false
set_option linter.unusedVariables false
open Go.RowKit

theorem Kp.setCells {a : World} {b : Nat} (hb : a.heap.size ≤ b) : ∀ (vs : List Value) (o : Nat) (w : World), Kp a w → Kp a (w.setCells b o vs)
  | [], _, _, h => h
  | v :: r, o, w, h => by
    rw [World.setCells]
    exact Kp.setCells hb r (o + 1) _ (h.set hb v)
theorem there_new (w : World) (Z : Array Value) (t : TypeId) (n : Nat) (h : Z.size = n) : (w.alloc (.cells Z t)).there w.heap.size 0 n := fun j hj => by
  subst h
  rw [Nat.zero_add]
  exact ⟨by rw [alloc_cell w Z t j (Array.getElem?_eq_getElem hj)]; rfl, alloc_frozen w Z t j⟩
theorem rdRecord_one {w : World} {cs : List Value} {r : Record} (h : rdRecord w cs r) : cs.length = 30 ∧ ∀ u ∈ cs, u.oneCell' = true := by
  obtain ⟨v0, v1, v2, v3, v4, v5, v6, v7, rfl, p0, p1, p2, p3, p4, p5, p6, p7⟩ := h
  obtain ⟨A0, c0, rfl, -, -⟩ := p0.form
  obtain ⟨A1, c1, rfl, -, -⟩ := p1.form
  obtain ⟨A2, c2, rfl, -, -⟩ := p2.form
  obtain ⟨A3, c3, rfl, -, -⟩ := p3.form
  obtain ⟨A4, c4, rfl, -, -⟩ := p4.form
  obtain ⟨A5, c5, rfl, -, -⟩ := p5.form
  obtain ⟨A6, c6, rfl, -, -⟩ := p6.form
  obtain ⟨A7, c7, rfl, -, -⟩ := p7.form
  refine ⟨rfl, ?_⟩
  simp [Value.oneCell']
set_option maxHeartbeats 1000000 in
theorem listRecord_any (W0 : World) (g : Nat) (l : List Int) (f : Record → List Int) (F : FuncId) (bound cap : List Value) (v : Value) (xs : List Record) (w : World) (hk : Kp W0 w) (hw : Wr W0.heap.size w g l)
    (hS : Records W0 v xs) (hroom : Room l (numL f xs).length) (hr : Real Try.prog F)
    (hf : ∀ (w' : World) (l' : List Int) (val : Value) (x : Record), RecordV W0 val x → Kp W0 w' → Wx g w w' → Wr W0.heap.size w' g l' → Room l' (f x).length → Writes W0 g l' (f x) F (bound ++ val :: cap).toArray w') :
    Writes W0 g l (numL f xs) 64 #[.pointer (some ⟨g, 0, none⟩), v, .func (.func F) bound.toArray cap.toArray] w := by
  have HC := hid hf
  clear hf
  have hcf := fun args w => hr.run args w
  have hgl := hw.lt
  obtain ⟨A, c, rfl, hc, hm⟩ := hS.form
  have hroom' := hroom
  unfold Room numL at hroom'
  rw [List.length_cons] at hroom'
  go_enter Try.func64, Try.ntmps64
  go_wp2_with fail
  refine (put_any W0 g l [(xs.length : Int)] _ _ (hk.alloc _) (hw.kp ((Kp.refl _).alloc _)) (litInts [(xs.length : Int)] _ rfl (by simp) _ rfl) (by unfold Room; simp; omega)).mono ?_
  rintro e w1 ⟨rfl, hw1, hx1⟩
  have hx1 := (((Kp.refl w).alloc _).wx hgl).trans hx1
  go_wp2
  go_loopw [15] (fun i wr => ∃ k : Nat, k ≤ xs.length ∧ i = .int .i64 k ∧ Wr W0.heap.size wr g ((l ++ [(xs.length : Int)]) ++ (xs.take k).flatMap f) ∧ Wx g w wr) (fun i _ => xs.length - (intOf i).toNat)
  case atStart => exact ⟨0, Nat.zero_le _, rfl, by simpa using hw1, hx1⟩
  case round =>
    clear hw1 hx1
    obtain ⟨k, hk2, rfl, hwr, hxr⟩ := hrel
    have hkr := hxr.to_kp hk hw
    by_cases hlt : k < xs.length
    · obtain ⟨b, o, cs, rfl, hb, hcs, hq, hrd⟩ := hS.at_ hlt
      have hrv := RecordV.of hrd
      have h1c := (rdRecord_one hrd).2
      have hrg : wr.rangeAt b (o + k * 30) cs := fun j u hu => hkr.cellS (hq j u hu)
      have hth : ∀ Z : Array Value, Z.size = 30 → (wr.alloc (.cells Z 46)).there wr.heap.size 0 cs.toArray.size := fun Z hZ => there_new wr Z _ _ (by rw [hZ]; simpa using hcs.symm)
      have HT := hid (take_snoc' xs k hlt)
      have HR : Hid (Room ((l ++ [(xs.length : Int)]) ++ (xs.take k).flatMap f) (f xs[k]).length) := hid (room_step f l xs k hlt hroom)
      clear hS hrd hq
      generalize xs[k] = x at *
      have HH := hid hrg
      have HI := hid hth
      clear hrg hth
      go_wp2_with (first | (refine wpList_load_mid rfl 46 (.tmp 17) rfl b (o + k * 30) rfl cs _ HH.out Try.underlying46 rfl (by rw [hcs]; kernel_rfl) ?_) | (refine wpList_store_mid rfl 46 (.tmp 7) (.tmp 18) rfl wr.heap.size 0 cs.toArray rfl rfl (HI.out _ rfl) (by rw [List.size_toArray, hcs]; kernel_rfl) (all_oneCell_toArray h1c) ?_) | (refine wpList_load_mid rfl 46 (.tmp 7) rfl wr.heap.size 0 rfl cs _ (World.rangeAt_setCells_same _ _ _ _ (by simpa using HI.out _ rfl)) Try.underlying46 rfl (by rw [hcs]; kernel_rfl) ?_))
      have kq := fun Z => Kp.setCells (a := wr) (Nat.le_refl wr.heap.size) cs 0 _ ((Kp.refl wr).alloc (.cells Z 46))
      refine (HC.out _ _ _ x hrv (hkr.trans (kq _)) (hxr.trans ((kq _).wx hwr.lt)) (hwr.kp (kq _)) HR.out).mono ?_
      rintro e w2 ⟨rfl, hw2, hx2⟩
      go_wp2
      go_roundw
      case rel => exact ⟨k + 1, by omega, by go_num, by rw [HT.out]; simpa using hw2, (hxr.trans ((kq _).wx hwr.lt)).trans hx2⟩
      case measure => simp [intOf]; omega
    · have HF : Hid (xs.take k = xs) := hid (List.take_of_length_le (by omega))
      go_wp2
      go_end0
      exact ⟨rfl, by rw [HF.out] at hwr; simpa [numL] using hwr, hxr⟩
end Go.Proofs.Ytmeafoakbkjifaa
namespace Go.Proofs.Ytmeafoakbkjifaa
set_option linter.unusedSimpArgs false
set_option linter.unusedVariables false
open Go.RowKit

theorem ret_bool {a b : Bool} (h : a = b) : Ending.returned (Value.bool a) = Ending.returned (Value.bool b) := by rw [h]
theorem ret_int {a b : Int} (h : a = b) : Ending.returned (Value.int .i64 a) = Ending.returned (Value.int .i64 b) := by rw [h]
def idxF {α : Type} (p : α → Bool) : Nat → List α → Int
  | _, [] => -1
  | k, x :: l => if p x then (k : Int) else idxF p (k + 1) l

theorem idxF_any {α : Type} (p : α → Bool) : ∀ (k : Nat) (l : List α), decide (0 ≤ idxF p k l) = l.any p
  | _, [] => by simp [idxF]
  | k, x :: l => by
    unfold idxF
    rw [List.any_cons, ← idxF_any p (k + 1) l]
    by_cases h : p x <;> simp [h]

set_option maxHeartbeats 400000 in
theorem IndexFuncW_any (p : Int → Bool) (F : FuncId) (cap : List Value) (v : Value) (l : List Int) (w : World) (hS : Ints w v l) (hr : Real Try.prog F)
    (hf : ∀ (w' : World) (r : Int), Kp w w' →  Calls Try.prog F (.int .i64 r :: cap).toArray w' fun e w'' => e = .returned (.bool (p r)) ∧ Kp w' w'') :
    Calls Try.prog 120 #[v, .func (.func F) #[] cap.toArray] w fun e w' => e = .returned (.int .i64 (idxF p 0 l)) ∧ Kp w w' := by
  have HC := hid hf
  clear hf
  have hcf := fun args w => hr.run args w
  obtain ⟨A, c, rfl, hc, hm⟩ := hS.form
  go_enter Try.func120, Try.ntmps120
  go_wp2
  go_loopw [8] (fun i wr => ∃ k : Nat, k ≤ l.length ∧ i = .int .i64 k ∧ Hid (idxF p 0 l = idxF p k (l.drop k)) ∧ Kp w wr) (fun i _ => l.length - (intOf i).toNat)
  case atStart => exact ⟨0, Nat.zero_le _, rfl, rfl, Kp.refl _⟩
  case round =>
    obtain ⟨k, hk, rfl, HB, hbel⟩ := hrel
    by_cases hlt : k < l.length
    · obtain ⟨b, o, rfl, hb, h1⟩ := (hS.keep (pl_stable _) hbel).ints hlt
      have HD := hid (List.drop_eq_getElem_cons hlt)
      generalize l[k] = r at *
      obtain r := r
      clear hS
      try dsimp only at *
      by_cases hp : p r = true
      · have HF : Hid (idxF p 0 l = k) := hid (by rw [HB.out, HD.out, idxF, if_pos hp])
        have HP := hid hp
        clear hp
        go_wp2_with fail
        refine (HC.out wr r hbel).mono ?_
        rintro e w1 ⟨rfl, hk1⟩
        have hbel1 := hbel.trans hk1
        rw [HP.out]
        go_wp2
        go_ret
        exact ⟨ret_int HF.out.symm, (by repeat (first | assumption | exact Kp.refl _ | apply Kp.alloc | apply Kp.drew | apply Kp.drewN))⟩
      · have HF : Hid (idxF p 0 l = idxF p (k + 1) (l.drop (k + 1))) := hid (by rw [HB.out, HD.out, idxF, if_neg hp])
        have HP := hid (show p r = false by simpa using hp)
        clear hp
        go_wp2_with fail
        refine (HC.out wr r hbel).mono ?_
        rintro e w1 ⟨rfl, hk1⟩
        have hbel1 := hbel.trans hk1
        rw [HP.out]
        go_wp2
        go_roundw
        case rel => exact ⟨k + 1, by omega, by go_num, HF, (by repeat (first | assumption | exact Kp.refl _ | apply Kp.alloc | apply Kp.drew | apply Kp.drewN))⟩
        case measure => simp [intOf]; omega
    · have HF : Hid (idxF p 0 l = -1) := hid (by rw [HB.out, List.drop_of_length_le (by omega)]; rfl)
      go_wp2
      go_ret
      exact ⟨ret_int HF.out.symm, (by repeat (first | assumption | exact Kp.refl _ | apply Kp.alloc | apply Kp.drew | apply Kp.drewN))⟩
set_option maxHeartbeats 400000 in
theorem ContainsFuncW_any (p : Int → Bool) (F : FuncId) (cap : List Value) (v : Value) (l : List Int) (w : World) (hS : Ints w v l) (hr : Real Try.prog F)
    (hf : ∀ (w' : World) (r : Int), Kp w w' →  Calls Try.prog F (.int .i64 r :: cap).toArray w' fun e w'' => e = .returned (.bool (p r)) ∧ Kp w' w'') :
    Calls Try.prog 81 #[v, .func (.func F) #[] cap.toArray] w fun e w' => e = .returned (.bool (l.any p)) ∧ Kp w w' := by
  have HC := hid hf
  clear hf
  rw [← idxF_any p 0 l]
  generalize hi : idxF p 0 l = i
  have HI := hid hi
  clear hi
  obtain ⟨A, c, rfl, hc, hm⟩ := hS.form
  go_enter Try.func81, Try.ntmps81
  go_wp2_with fail
  refine (IndexFuncW_any p F cap _ l _ hS hr HC.out).mono ?_
  rintro e w1 ⟨rfl, hk1⟩
  rw [HI.out]
  go_wp2
  go_ret
  exact ⟨rfl, (by repeat (first | assumption | exact Kp.refl _ | apply Kp.alloc | apply Kp.drew | apply Kp.drewN))⟩
set_option maxHeartbeats 400000 in
theorem IndexFuncI_any (p : Int → Bool) (F : FuncId) (cap : List Value) (v : Value) (l : List Int) (w : World) (hS : Ints w v l) (hr : Real Try.prog F)
    (hf : ∀ (w' : World) (r : Int), Kp w w' →  Calls Try.prog F (.int .i64 r :: cap).toArray w' fun e w'' => e = .returned (.bool (p r)) ∧ Kp w' w'') :
    Calls Try.prog 79 #[v, .func (.func F) #[] cap.toArray] w fun e w' => e = .returned (.int .i64 (idxF p 0 l)) ∧ Kp w w' := by
  have HC := hid hf
  clear hf
  have hcf := fun args w => hr.run args w
  obtain ⟨A, c, rfl, hc, hm⟩ := hS.form
  go_enter Try.func79, Try.ntmps79
  go_wp2
  go_loopw [8] (fun i wr => ∃ k : Nat, k ≤ l.length ∧ i = .int .i64 k ∧ Hid (idxF p 0 l = idxF p k (l.drop k)) ∧ Kp w wr) (fun i _ => l.length - (intOf i).toNat)
  case atStart => exact ⟨0, Nat.zero_le _, rfl, rfl, Kp.refl _⟩
  case round =>
    obtain ⟨k, hk, rfl, HB, hbel⟩ := hrel
    by_cases hlt : k < l.length
    · obtain ⟨b, o, rfl, hb, h1⟩ := (hS.keep (pl_stable _) hbel).ints hlt
      have HD := hid (List.drop_eq_getElem_cons hlt)
      generalize l[k] = r at *
      obtain r := r
      clear hS
      try dsimp only at *
      by_cases hp : p r = true
      · have HF : Hid (idxF p 0 l = k) := hid (by rw [HB.out, HD.out, idxF, if_pos hp])
        have HP := hid hp
        clear hp
        go_wp2_with fail
        refine (HC.out wr r hbel).mono ?_
        rintro e w1 ⟨rfl, hk1⟩
        have hbel1 := hbel.trans hk1
        rw [HP.out]
        go_wp2
        go_ret
        exact ⟨ret_int HF.out.symm, (by repeat (first | assumption | exact Kp.refl _ | apply Kp.alloc | apply Kp.drew | apply Kp.drewN))⟩
      · have HF : Hid (idxF p 0 l = idxF p (k + 1) (l.drop (k + 1))) := hid (by rw [HB.out, HD.out, idxF, if_neg hp])
        have HP := hid (show p r = false by simpa using hp)
        clear hp
        go_wp2_with fail
        refine (HC.out wr r hbel).mono ?_
        rintro e w1 ⟨rfl, hk1⟩
        have hbel1 := hbel.trans hk1
        rw [HP.out]
        go_wp2
        go_roundw
        case rel => exact ⟨k + 1, by omega, by go_num, HF, (by repeat (first | assumption | exact Kp.refl _ | apply Kp.alloc | apply Kp.drew | apply Kp.drewN))⟩
        case measure => simp [intOf]; omega
    · have HF : Hid (idxF p 0 l = -1) := hid (by rw [HB.out, List.drop_of_length_le (by omega)]; rfl)
      go_wp2
      go_ret
      exact ⟨ret_int HF.out.symm, (by repeat (first | assumption | exact Kp.refl _ | apply Kp.alloc | apply Kp.drew | apply Kp.drewN))⟩
set_option maxHeartbeats 400000 in
theorem ContainsFuncI_any (p : Int → Bool) (F : FuncId) (cap : List Value) (v : Value) (l : List Int) (w : World) (hS : Ints w v l) (hr : Real Try.prog F)
    (hf : ∀ (w' : World) (r : Int), Kp w w' →  Calls Try.prog F (.int .i64 r :: cap).toArray w' fun e w'' => e = .returned (.bool (p r)) ∧ Kp w' w'') :
    Calls Try.prog 42 #[v, .func (.func F) #[] cap.toArray] w fun e w' => e = .returned (.bool (l.any p)) ∧ Kp w w' := by
  have HC := hid hf
  clear hf
  rw [← idxF_any p 0 l]
  generalize hi : idxF p 0 l = i
  have HI := hid hi
  clear hi
  obtain ⟨A, c, rfl, hc, hm⟩ := hS.form
  go_enter Try.func42, Try.ntmps42
  go_wp2_with fail
  refine (IndexFuncI_any p F cap _ l _ hS hr HC.out).mono ?_
  rintro e w1 ⟨rfl, hk1⟩
  rw [HI.out]
  go_wp2
  go_ret
  exact ⟨rfl, (by repeat (first | assumption | exact Kp.refl _ | apply Kp.alloc | apply Kp.drew | apply Kp.drewN))⟩
theorem formed1_any (x : Int) (w : World) : Calls Try.prog 82 #[.int .i64 x] w fun e w' => e = .returned (.bool (x != 0)) ∧ Kp w w' := by
  by_cases h : x = 0
  · subst h
    go_enter Try.func82, Try.ntmps82
    go_wp2
    go_ret
    exact ⟨rfl, (by repeat (first | assumption | exact Kp.refl _ | apply Kp.alloc | apply Kp.drew | apply Kp.drewN))⟩
  · have h1 : (x == 0) = false := by simpa using h
    have h2 : (x != 0) = true := by simpa using h
    go_enter Try.func82, Try.ntmps82
    go_wp2
    go_ret
    exact ⟨ret_bool (by simp [h]), (by repeat (first | assumption | exact Kp.refl _ | apply Kp.alloc | apply Kp.drew | apply Kp.drewN))⟩
theorem formed1_real : Real Try.prog 82 := ⟨_, Try.func82, by kernel_rfl, by kernel_rfl⟩
/-- an empty writer -/
theorem wr_new (base : Nat) (w : World) (h : base ≤ w.heap.size) : Wr base (w.alloc (.cells #[.slice none 0 0] 135)) w.heap.size [] :=
  ⟨.slice none 0 0, alloc_cell w _ _ 0 rfl, alloc_frozen w _ _ 0, h, by simp [Value.ownBlock], Own.nil _ _ _ _ _⟩
def formedB (r : Record) : Bool := decide (0 ≤ r.kind) && decide (r.kind ≤ 4) && !((numPart r false).any fun n => n != 0)
set_option maxHeartbeats 1000000 in
theorem formed_any (val : Value) (x : Record) (w : World) (hv : RecordV w val x) (hroom : Room [] (numPart x false).length) :
    Calls Try.prog 48 #[val] w fun e w' => e = .returned (.bool (formedB x)) ∧ Kp w w' := by
  have hF := hid (show formedB x = (decide (0 ≤ x.kind) && decide (x.kind ≤ 4) && !((numPart x false).any fun n => n != 0)) from rfl)
  generalize formedB x = fb at *
  have hv0 := hv
  have hP : ∀ w' : World, Kp w w' → RecordV w' val x := fun w' h => hv.kp h
  obtain ⟨v0, v1, v2, v3, v4, v5, v6, v7, rfl, p0, p1, p2, p3, p4, p5, p6, p7⟩ := hv
  obtain ⟨A0, c0, rfl, hc0, hm0⟩ := p0.form
  obtain ⟨A1, c1, rfl, hc1, hm1⟩ := p1.form
  obtain ⟨A2, c2, rfl, hc2, hm2⟩ := p2.form
  obtain ⟨A3, c3, rfl, hc3, hm3⟩ := p3.form
  obtain ⟨A4, c4, rfl, hc4, hm4⟩ := p4.form
  obtain ⟨A5, c5, rfl, hc5, hm5⟩ := p5.form
  obtain ⟨A6, c6, rfl, hc6, hm6⟩ := p6.form
  obtain ⟨A7, c7, rfl, hc7, hm7⟩ := p7.form
  clear p0 p1 p2 p3 p4 p5 p6 p7
  generalize hX : x = X at *
  obtain ⟨kd, ⟨x0, x1, x2, x3, x4, x5, ⟨y0, y1, y2, y3⟩, x7, x8, x9⟩, ⟨b0, b1, b2, b3, b4, b5, b6⟩, tm, vt, ix, ⟨n0, n1, n2, n3, n4, n5⟩⟩ := x
  subst hX
  dsimp only at *
  go_enter Try.func48, Try.ntmps48
  have k1 := (Kp.refl w).alloc (.cells #[.int .i64 kd, .int .i64 x0, .int .i64 x1, .int .i64 x2, .slice A0 x3.length c0, .int .i64 x4, .int .i64 x5, .int .i64 y0, .int .i64 y1, .int .i64 y2, .int .i64 y3, .int .i64 x7, .int .i64 x8, .int .i64 x9, .slice A1 b0.length c1, .int .i64 b1, .slice A2 b2.length c2, .slice A3 b3.length c3, .slice A4 b4.length c4, .slice A5 b5.length c5, .slice A6 b6.length c6, .int .i64 tm, .int .i64 vt, .int .i64 ix, .int .i64 n0, .int .i64 n1, .int .i64 n2, .int .i64 n3, .int .i64 n4, .slice A7 n5.length c7] 46)
  have r1 : (w.alloc (.cells #[.int .i64 kd, .int .i64 x0, .int .i64 x1, .int .i64 x2, .slice A0 x3.length c0, .int .i64 x4, .int .i64 x5, .int .i64 y0, .int .i64 y1, .int .i64 y2, .int .i64 y3, .int .i64 x7, .int .i64 x8, .int .i64 x9, .slice A1 b0.length c1, .int .i64 b1, .slice A2 b2.length c2, .slice A3 b3.length c3, .slice A4 b4.length c4, .slice A5 b5.length c5, .slice A6 b6.length c6, .int .i64 tm, .int .i64 vt, .int .i64 ix, .int .i64 n0, .int .i64 n1, .int .i64 n2, .int .i64 n3, .int .i64 n4, .slice A7 n5.length c7] 46)).rangeAt w.heap.size 0 [.int .i64 kd, .int .i64 x0, .int .i64 x1, .int .i64 x2, .slice A0 x3.length c0, .int .i64 x4, .int .i64 x5, .int .i64 y0, .int .i64 y1, .int .i64 y2, .int .i64 y3, .int .i64 x7, .int .i64 x8, .int .i64 x9, .slice A1 b0.length c1, .int .i64 b1, .slice A2 b2.length c2, .slice A3 b3.length c3, .slice A4 b4.length c4, .slice A5 b5.length c5, .slice A6 b6.length c6, .int .i64 tm, .int .i64 vt, .int .i64 ix, .int .i64 n0, .int .i64 n1, .int .i64 n2, .int .i64 n3, .int .i64 n4, .slice A7 n5.length c7] := fun j v hv => by rw [Nat.zero_add]; exact alloc_cell w _ _ j (by simpa using hv)
  have q1 := alloc_cell w #[.int .i64 kd, .int .i64 x0, .int .i64 x1, .int .i64 x2, .slice A0 x3.length c0, .int .i64 x4, .int .i64 x5, .int .i64 y0, .int .i64 y1, .int .i64 y2, .int .i64 y3, .int .i64 x7, .int .i64 x8, .int .i64 x9, .slice A1 b0.length c1, .int .i64 b1, .slice A2 b2.length c2, .slice A3 b3.length c3, .slice A4 b4.length c4, .slice A5 b5.length c5, .slice A6 b6.length c6, .int .i64 tm, .int .i64 vt, .int .i64 ix, .int .i64 n0, .int .i64 n1, .int .i64 n2, .int .i64 n3, .int .i64 n4, .slice A7 n5.length c7] 46 0 rfl
  have hh : (w.alloc (.cells #[.int .i64 kd, .int .i64 x0, .int .i64 x1, .int .i64 x2, .slice A0 x3.length c0, .int .i64 x4, .int .i64 x5, .int .i64 y0, .int .i64 y1, .int .i64 y2, .int .i64 y3, .int .i64 x7, .int .i64 x8, .int .i64 x9, .slice A1 b0.length c1, .int .i64 b1, .slice A2 b2.length c2, .slice A3 b3.length c3, .slice A4 b4.length c4, .slice A5 b5.length c5, .slice A6 b6.length c6, .int .i64 tm, .int .i64 vt, .int .i64 ix, .int .i64 n0, .int .i64 n1, .int .i64 n2, .int .i64 n3, .int .i64 n4, .slice A7 n5.length c7] 46)).heap.size = w.heap.size + 1 := by simp
  have hw2 := wr_new w.heap.size (w.alloc (.cells #[.int .i64 kd, .int .i64 x0, .int .i64 x1, .int .i64 x2, .slice A0 x3.length c0, .int .i64 x4, .int .i64 x5, .int .i64 y0, .int .i64 y1, .int .i64 y2, .int .i64 y3, .int .i64 x7, .int .i64 x8, .int .i64 x9, .slice A1 b0.length c1, .int .i64 b1, .slice A2 b2.length c2, .slice A3 b3.length c3, .slice A4 b4.length c4, .slice A5 b5.length c5, .slice A6 b6.length c6, .int .i64 tm, .int .i64 vt, .int .i64 ix, .int .i64 n0, .int .i64 n1, .int .i64 n2, .int .i64 n3, .int .i64 n4, .slice A7 n5.length c7] 46)) k1.size
  have r2 := World.rangeAt_alloc r1 (.cells #[.slice none 0 0] 135)
  have k2 := k1.alloc (.cells #[.slice none 0 0] 135)
  have q2 := ((Kp.refl _).alloc (.cells #[.slice none 0 0] 135)).cellS q1
  have e2 := alloc_cell (w.alloc (.cells #[.int .i64 kd, .int .i64 x0, .int .i64 x1, .int .i64 x2, .slice A0 x3.length c0, .int .i64 x4, .int .i64 x5, .int .i64 y0, .int .i64 y1, .int .i64 y2, .int .i64 y3, .int .i64 x7, .int .i64 x8, .int .i64 x9, .slice A1 b0.length c1, .int .i64 b1, .slice A2 b2.length c2, .slice A3 b3.length c3, .slice A4 b4.length c4, .slice A5 b5.length c5, .slice A6 b6.length c6, .int .i64 tm, .int .i64 vt, .int .i64 ix, .int .i64 n0, .int .i64 n1, .int .i64 n2, .int .i64 n3, .int .i64 n4, .slice A7 n5.length c7] 46)) #[.slice none 0 0] 135 0 rfl
  have l2 := alloc_lt (w.alloc (.cells #[.int .i64 kd, .int .i64 x0, .int .i64 x1, .int .i64 x2, .slice A0 x3.length c0, .int .i64 x4, .int .i64 x5, .int .i64 y0, .int .i64 y1, .int .i64 y2, .int .i64 y3, .int .i64 x7, .int .i64 x8, .int .i64 x9, .slice A1 b0.length c1, .int .i64 b1, .slice A2 b2.length c2, .slice A3 b3.length c3, .slice A4 b4.length c4, .slice A5 b5.length c5, .slice A6 b6.length c6, .int .i64 tm, .int .i64 vt, .int .i64 ix, .int .i64 n0, .int .i64 n1, .int .i64 n2, .int .i64 n3, .int .i64 n4, .slice A7 n5.length c7] 46)) (.cells #[.slice none 0 0] 135)
  rw [hh] at hw2 e2 l2
  clear r1 q1 k1
  have s2 : Safe ((w.alloc (.cells #[.int .i64 kd, .int .i64 x0, .int .i64 x1, .int .i64 x2, .slice A0 x3.length c0, .int .i64 x4, .int .i64 x5, .int .i64 y0, .int .i64 y1, .int .i64 y2, .int .i64 y3, .int .i64 x7, .int .i64 x8, .int .i64 x9, .slice A1 b0.length c1, .int .i64 b1, .slice A2 b2.length c2, .slice A3 b3.length c3, .slice A4 b4.length c4, .slice A5 b5.length c5, .slice A6 b6.length c6, .int .i64 tm, .int .i64 vt, .int .i64 ix, .int .i64 n0, .int .i64 n1, .int .i64 n2, .int .i64 n3, .int .i64 n4, .slice A7 n5.length c7] 46)).alloc (.cells #[.slice none 0 0] 135)) (w.heap.size + 1) w.heap.size := ⟨by omega, by omega, by unfold rowOf; rw [e2]; simp [Value.ownBlock]⟩
  go_wp2_with (refine wpList_load_mid rfl 46 (.tmp 1) rfl w.heap.size 0 rfl _ _ r2 Try.underlying46 rfl (by kernel_rfl) ?_)
  refine (wPart_any w (w.heap.size + 1) [] _ _ false _ k2 hw2 hv0 hroom).mono ?_
  rintro e w3 ⟨rfl, hw3, hx3⟩
  have k3 := hx3.to_kp k2 hw2
  have q3 := hx3.cellS (p := ⟨w.heap.size, 0, none⟩) s2 q2
  have s3 := s2.wx hx3
  clear hx3 q2 s2 r2 k2 e2 l2 hw2 hh hP hv0
  obtain ⟨v, f1, f2, f3, f4, own⟩ := hw3
  have hi := own.sl encInt_len
  clear own f4 f3
  rw [List.nil_append] at hi
  generalize hL : numPart _ false = L at *
  obtain ⟨A, c, rfl, hc, hm⟩ := hi.form
  go_wp2_with fail
  refine (ContainsFuncW_any (fun n => n != 0) 82 [] _ L _ hi formed1_real (fun w' r _ => formed1_any r w')).mono ?_
  rintro e w4 ⟨rfl, k4⟩
  have q4 := k4.cellS q3
  have k5 := k3.trans k4
  have l4 := s3.1
  have l5 := k4.size
  generalize (L.any fun n => n != 0) = fa at *
  cases fa
  all_goals
    by_cases a1 : 0 ≤ kd
    all_goals
      by_cases a2 : kd ≤ 4
      all_goals
        have hF2 := hF.out
        simp only [a1, a2, decide_true, decide_false, Bool.true_and, Bool.false_and, Bool.and_false, Bool.and_true, Bool.not_true, Bool.not_false] at hF2
        subst hF2
        first
          | (exfalso; omega)
          | (have b1 : decide (0 ≤ kd) = true := decide_eq_true a1
             first
               | (have b2 : decide (kd ≤ 4) = true := decide_eq_true a2
                  go_wp2
                  go_ret
                  exact ⟨rfl, k5⟩)
               | (have b2 : decide (kd ≤ 4) = false := decide_eq_false a2
                  go_wp2
                  go_ret
                  exact ⟨rfl, k5⟩))
          | (have b1 : decide (0 ≤ kd) = false := decide_eq_false a1
             go_wp2
             go_ret
             exact ⟨rfl, k5⟩)
end Go.Proofs.Ytmeafoakbkjifaa
