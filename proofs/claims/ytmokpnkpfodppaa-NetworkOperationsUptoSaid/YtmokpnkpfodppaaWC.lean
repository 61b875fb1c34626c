/-
The writer: lists of records.
The writer: which records are well-formed.
-/
import Derived.Test.YtmokpnkpfodppaaCodW12
namespace Go.Proofs.Ytmokpnkpfodppaa
set_option linter.unusedSimpArgs false
set_option linter.unusedVariables false
open Go.RowKit

theorem Kp.setCells {a : World} {b : Nat} (hb : a.heap.size ≤ b) : ∀ (vs : List Value) (o : Nat) (w : World), Kp a w → Kp a (w.setCells b o vs)
  | [], _, _, h => h
  | v :: r, o, w, h => by
    rw [World.setCells]
    exact Kp.setCells hb r (o + 1) _ (h.set hb v)
theorem there_new (w : World) (Z : Array Value) (t : TypeId) (n : Nat) (h : Z.size = n) : (w.alloc (.cells Z t)).there w.heap.size 0 n := fun j hj => by
  subst h
  rw [Nat.zero_add]
  exact ⟨by rw [alloc_cell w Z t j (Array.getElem?_eq_getElem hj)]; rfl, alloc_frozen w Z t j⟩
theorem rdRecord_one {w : World} {cs : List Value} {r : Record} (h : rdRecord w cs r) : cs.length = 30 ∧ ∀ u ∈ cs, u.oneCell' = true := by
  obtain ⟨v0, v1, v2, v3, v4, v5, v6, v7, rfl, p0, p1, p2, p3, p4, p5, p6, p7⟩ := h
  obtain ⟨A0, c0, rfl, -, -⟩ := p0.form
  obtain ⟨A1, c1, rfl, -, -⟩ := p1.form
  obtain ⟨A2, c2, rfl, -, -⟩ := p2.form
  obtain ⟨A3, c3, rfl, -, -⟩ := p3.form
  obtain ⟨A4, c4, rfl, -, -⟩ := p4.form
  obtain ⟨A5, c5, rfl, -, -⟩ := p5.form
  obtain ⟨A6, c6, rfl, -, -⟩ := p6.form
  obtain ⟨A7, c7, rfl, -, -⟩ := p7.form
  refine ⟨rfl, ?_⟩
  simp [Value.oneCell']
end Go.Proofs.Ytmokpnkpfodppaa
namespace Go.Proofs.Ytmokpnkpfodppaa
set_option linter.unusedSimpArgs false
set_option linter.unusedVariables false
open Go.RowKit

theorem ret_bool {a b : Bool} (h : a = b) : Ending.returned (Value.bool a) = Ending.returned (Value.bool b) := by rw [h]
theorem ret_int {a b : Int} (h : a = b) : Ending.returned (Value.int .i64 a) = Ending.returned (Value.int .i64 b) := by rw [h]
def idxF {α : Type} (p : α → Bool) : Nat → List α → Int
  | _, [] => -1
  | k, x :: l => if p x then (k : Int) else idxF p (k + 1) l

theorem idxF_any {α : Type} (p : α → Bool) : ∀ (k : Nat) (l : List α), decide (0 ≤ idxF p k l) = l.any p
  | _, [] => by simp [idxF]
  | k, x :: l => by
    unfold idxF
    rw [List.any_cons, ← idxF_any p (k + 1) l]
    by_cases h : p x <;> simp [h]

set_option maxHeartbeats 400000 in
theorem IndexFuncI_any (p : Int → Bool) (F : FuncId) (cap : List Value) (v : Value) (l : List Int) (w : World) (hS : Ints w v l) (hr : Real Try.prog F)
    (hf : ∀ (w' : World) (r : Int), Kp w w' →  Calls Try.prog F (.int .i64 r :: cap).toArray w' fun e w'' => e = .returned (.bool (p r)) ∧ Kp w' w'') :
    Calls Try.prog 99 #[v, .func (.func F) #[] cap.toArray] w fun e w' => e = .returned (.int .i64 (idxF p 0 l)) ∧ Kp w w' := by
  have HC := hid hf
  clear hf
  have hcf := fun args w => hr.run args w
  obtain ⟨A, c, rfl, hc, hm⟩ := hS.form
  go_enter Try.func99, Try.ntmps99
  go_wp2
  go_loopw [8] (fun i wr => ∃ k : Nat, k ≤ l.length ∧ i = .int .i64 k ∧ Hid (idxF p 0 l = idxF p k (l.drop k)) ∧ Kp w wr) (fun i _ => l.length - (intOf i).toNat)
  case atStart => exact ⟨0, Nat.zero_le _, rfl, rfl, Kp.refl _⟩
  case round =>
    obtain ⟨k, hk, rfl, HB, hbel⟩ := hrel
    by_cases hlt : k < l.length
    · obtain ⟨b, o, rfl, hb, h1⟩ := (hS.keep (pl_stable _) hbel).ints hlt
      have HD := hid (List.drop_eq_getElem_cons hlt)
      generalize l[k] = r at *
      obtain r := r
      clear hS
      try dsimp only at *
      by_cases hp : p r = true
      · have HF : Hid (idxF p 0 l = k) := hid (by rw [HB.out, HD.out, idxF, if_pos hp])
        have HP := hid hp
        clear hp
        go_wp2_with fail
        refine (HC.out wr r hbel).mono ?_
        rintro e w1 ⟨rfl, hk1⟩
        have hbel1 := hbel.trans hk1
        rw [HP.out]
        go_wp2
        go_ret
        exact ⟨ret_int HF.out.symm, (by repeat (first | assumption | exact Kp.refl _ | apply Kp.alloc | apply Kp.drew | apply Kp.drewN))⟩
      · have HF : Hid (idxF p 0 l = idxF p (k + 1) (l.drop (k + 1))) := hid (by rw [HB.out, HD.out, idxF, if_neg hp])
        have HP := hid (show p r = false by simpa using hp)
        clear hp
        go_wp2_with fail
        refine (HC.out wr r hbel).mono ?_
        rintro e w1 ⟨rfl, hk1⟩
        have hbel1 := hbel.trans hk1
        rw [HP.out]
        go_wp2
        go_roundw
        case rel => exact ⟨k + 1, by omega, by go_num, HF, (by repeat (first | assumption | exact Kp.refl _ | apply Kp.alloc | apply Kp.drew | apply Kp.drewN))⟩
        case measure => simp [intOf]; omega
    · have HF : Hid (idxF p 0 l = -1) := hid (by rw [HB.out, List.drop_of_length_le (by omega)]; rfl)
      go_wp2
      go_ret
      exact ⟨ret_int HF.out.symm, (by repeat (first | assumption | exact Kp.refl _ | apply Kp.alloc | apply Kp.drew | apply Kp.drewN))⟩
set_option maxHeartbeats 400000 in
theorem ContainsFuncI_any (p : Int → Bool) (F : FuncId) (cap : List Value) (v : Value) (l : List Int) (w : World) (hS : Ints w v l) (hr : Real Try.prog F)
    (hf : ∀ (w' : World) (r : Int), Kp w w' →  Calls Try.prog F (.int .i64 r :: cap).toArray w' fun e w'' => e = .returned (.bool (p r)) ∧ Kp w' w'') :
    Calls Try.prog 88 #[v, .func (.func F) #[] cap.toArray] w fun e w' => e = .returned (.bool (l.any p)) ∧ Kp w w' := by
  have HC := hid hf
  clear hf
  rw [← idxF_any p 0 l]
  generalize hi : idxF p 0 l = i
  have HI := hid hi
  clear hi
  obtain ⟨A, c, rfl, hc, hm⟩ := hS.form
  go_enter Try.func88, Try.ntmps88
  go_wp2_with fail
  refine (IndexFuncI_any p F cap _ l _ hS hr HC.out).mono ?_
  rintro e w1 ⟨rfl, hk1⟩
  rw [HI.out]
  go_wp2
  go_ret
  exact ⟨rfl, (by repeat (first | assumption | exact Kp.refl _ | apply Kp.alloc | apply Kp.drew | apply Kp.drewN))⟩
/-- an empty writer -/
theorem wr_new (base : Nat) (w : World) (h : base ≤ w.heap.size) : Wr base (w.alloc (.cells #[.slice none 0 0] 137)) w.heap.size [] :=
  ⟨.slice none 0 0, alloc_cell w _ _ 0 rfl, alloc_frozen w _ _ 0, h, by simp [Value.ownBlock], Own.nil _ _ _ _ _⟩
def formedB (r : Record) : Bool := decide (0 ≤ r.kind) && decide (r.kind ≤ 4) && !((numPart r false).any fun n => n != 0)
end Go.Proofs.Ytmokpnkpfodppaa
