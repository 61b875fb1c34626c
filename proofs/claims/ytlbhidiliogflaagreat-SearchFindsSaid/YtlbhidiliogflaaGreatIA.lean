/-
What the small functions of package interval return, for any input.
What Valid, Empty, Contains, Meet, Middle and Size return, for any input.
What Meet, floor, Middle and Size return, for any input.
What Size, Sum and Tighten return, for any input.
What Sum and Tighten return, for any input.
-/
import Derived.Test.YtlbhidiliogflaaGreatLib
namespace Go.Proofs.YtlbhidiliogflaaGreat
set_option linter.unusedSimpArgs false
set_option linter.unusedVariables false
open Go.RowKit

structure Rng where
  lo : Int
  hi : Int
structure Term where
  cell : Int
  factor : Int
structure Row where
  terms : List Term
  bound : Int
def encRng (r : Rng) : List Value := [.int .i64 r.lo, .int .i64 r.hi]
def encTerm (t : Term) : List Value := [.int .i64 t.cell, .int .i64 t.factor]
theorem encRng_len (r : Rng) : (encRng r).length = 2 := rfl
theorem encTerm_len (r : Term) : (encTerm r).length = 2 := rfl
theorem encRng_one (r : Rng) : ∀ u ∈ encRng r, u.oneCell' = true := by simp [encRng, Value.oneCell']
theorem encTerm_one (r : Term) : ∀ u ∈ encTerm r, u.oneCell' = true := by simp [encTerm, Value.oneCell']
abbrev Rngs := Sl (Pl encRng) 2
abbrev Terms := Sl (Pl encTerm) 2
def rdRow : Rd Row := fun w cs r => ∃ v, cs = [v, .int .i64 r.bound] ∧ Terms w v r.terms
theorem rdRow_stable : Stable rdRow := fun _ _ _ _ hb ⟨v, h1, h2⟩ => ⟨v, h1, h2.keep (pl_stable _) hb⟩
abbrev RowsL := Sl rdRow 2
theorem Sl.rng {w : World} {A : Option Addr} {n c : Nat} {l : List Rng} (h : Rngs w (.slice A n c) l) {k : Nat} (hk : k < l.length) :
    ∃ b o, A = some ⟨b, o, none⟩ ∧ b < w.heap.size ∧ w.cell? ⟨b, o + k * 2, none⟩ = some (.int .i64 l[k].lo) ∧ w.cell? ⟨b, o + k * 2 + 1, none⟩ = some (.int .i64 l[k].hi) := by
  obtain ⟨b, o, cs, hA, had, hcs, hc, hr⟩ := h.at_ hk
  unfold Pl encRng at hr
  subst hr
  exact ⟨b, o, hA, had, hc 0 _ rfl, hc 1 _ rfl⟩
theorem Sl.term {w : World} {A : Option Addr} {n c : Nat} {l : List Term} (h : Terms w (.slice A n c) l) {k : Nat} (hk : k < l.length) :
    ∃ b o, A = some ⟨b, o, none⟩ ∧ b < w.heap.size ∧ w.cell? ⟨b, o + k * 2, none⟩ = some (.int .i64 l[k].cell) ∧ w.cell? ⟨b, o + k * 2 + 1, none⟩ = some (.int .i64 l[k].factor) := by
  obtain ⟨b, o, cs, hA, had, hcs, hc, hr⟩ := h.at_ hk
  unfold Pl encTerm at hr
  subst hr
  exact ⟨b, o, hA, had, hc 0 _ rfl, hc 1 _ rfl⟩
theorem Sl.row {w : World} {A : Option Addr} {n c : Nat} {l : List Row} (h : RowsL w (.slice A n c) l) {k : Nat} (hk : k < l.length) :
    ∃ b o A' c', A = some ⟨b, o, none⟩ ∧ b < w.heap.size ∧ w.cell? ⟨b, o + k * 2, none⟩ = some (.slice A' l[k].terms.length c') ∧ w.cell? ⟨b, o + k * 2 + 1, none⟩ = some (.int .i64 l[k].bound) ∧ Terms w (.slice A' l[k].terms.length c') l[k].terms := by
  obtain ⟨b, o, cs, hA, had, hcs, hc, v, rfl, ht⟩ := h.at_ hk
  obtain ⟨A', c', rfl, -, -⟩ := ht.form
  exact ⟨b, o, A', c', hA, had, hc 0 _ rfl, hc 1 _ rfl, ht⟩

/-! box -/
def bad (r : Rng) : Prop := r.lo < -1000000 ∨ 1000000 < r.lo ∨ r.hi < -1000000 ∨ 1000000 < r.hi
instance (r : Rng) : Decidable (bad r) := by unfold bad; infer_instance
def boxL : List Rng → Bool
  | [] => true
  | r :: l => if bad r then false else boxL l
def boxB (l : List Rng) : Bool := boxL l && decide (l.length ≤ 128)

theorem ret_bool {a b : Bool} (h : a = b) : Ending.returned (.bool a) = .returned (.bool b) := by rw [h]
theorem ret_int {k : IntKind} {a b : Int} (h : a = b) : Ending.returned (.int k a) = .returned (.int k b) := by rw [h]

set_option maxHeartbeats 400000 in
theorem box_any (v : Value) (l : List Rng) (w : World) (hS : Rngs w v l) :
    Calls Tryz.prog 54 #[v] w fun e w' => e = .returned (.bool (boxB l)) ∧ Kp w w' := by
  obtain ⟨A, c, rfl, hc, hm⟩ := hS.form
  go_enter Tryz.func54, Tryz.ntmps54
  go_wp2
  go_loopw [7] (fun i wr => ∃ k : Nat, k ≤ l.length ∧ i = .int .i64 k ∧ Hid (boxL l = boxL (l.drop k)) ∧ Kp w wr) (fun i _ => l.length - (intOf i).toNat)
  case atStart => exact ⟨0, Nat.zero_le _, rfl, rfl, Kp.refl _⟩
  case round =>
    obtain ⟨k, hk, rfl, HB, hbel⟩ := hrel
    by_cases hlt : k < l.length
    · obtain ⟨b, o, rfl, hb, h1, h2⟩ := (hS.keep (pl_stable _) hbel).rng hlt
      have HD := hid (List.drop_eq_getElem_cons hlt)
      generalize l[k] = r at *
      obtain ⟨lo, hi⟩ := r
      clear hS
      dsimp only at h1 h2
      by_cases hbad : bad ⟨lo, hi⟩
      · have HF : Hid (boxB l = false) := hid (by unfold boxB; rw [HB.out, HD.out, boxL, if_pos hbad]; rfl)
        unfold bad at hbad
        dsimp only at hbad
        go_wp2
        all_goals first
          | (go_ret; exact ⟨ret_bool HF.out.symm, (by repeat (first | assumption | exact Kp.refl _ | apply Kp.alloc | apply Kp.drew | apply Kp.drewN))⟩)
          | (exfalso; omega)
      · have HF : Hid (boxL l = boxL (l.drop (k + 1))) := hid (by rw [HB.out, HD.out, boxL, if_neg hbad])
        unfold bad at hbad
        dsimp only at hbad
        have g1 : -1000000 ≤ lo := by omega
        have g2 : lo ≤ 1000000 := by omega
        have g3 : -1000000 ≤ hi := by omega
        have g4 : hi ≤ 1000000 := by omega
        clear hbad
        go_wp2
        go_roundw
        case rel => exact ⟨k + 1, by omega, by go_num, HF, (by repeat (first | assumption | exact Kp.refl _ | apply Kp.alloc | apply Kp.drew | apply Kp.drewN))⟩
        case measure => simp [intOf]; omega
    · have HF : Hid (boxB l = decide (l.length ≤ 128)) := hid (by unfold boxB; rw [HB.out, List.drop_of_length_le (by omega)]; simp [boxL])
      by_cases h128 : l.length ≤ 128
      all_goals
        go_wp2
        go_ret
        exact ⟨ret_bool (by rw [HF.out]; simp <;> omega), (by repeat (first | assumption | exact Kp.refl _ | apply Kp.alloc | apply Kp.drew | apply Kp.drewN))⟩

/-! IndexFunc, ContainsFunc -/
def idxF {α : Type} (p : α → Bool) : Nat → List α → Int
  | _, [] => -1
  | k, x :: l => if p x then (k : Int) else idxF p (k + 1) l

theorem idxF_any {α : Type} (p : α → Bool) : ∀ (k : Nat) (l : List α), decide (0 ≤ idxF p k l) = l.any p
  | _, [] => by simp [idxF]
  | k, x :: l => by
    unfold idxF
    rw [List.any_cons, ← idxF_any p (k + 1) l]
    by_cases h : p x <;> simp [h]

set_option maxHeartbeats 400000 in
theorem IndexFuncRange_any (p : Rng → Bool) (F : FuncId) (cap : List Value) (v : Value) (l : List Rng) (w : World) (hS : Rngs w v l) (hr : Real Tryz.prog F)
    (hf : ∀ (w' : World) (lo hi : Int), Kp w w' →  Calls Tryz.prog F (.agg #[.int .i64 lo, .int .i64 hi] :: cap).toArray w' fun e w'' => e = .returned (.bool (p ⟨lo, hi⟩)) ∧ Kp w' w'') :
    Calls Tryz.prog 46 #[v, .func (.func F) #[] cap.toArray] w fun e w' => e = .returned (.int .i64 (idxF p 0 l)) ∧ Kp w w' := by
  have HC := hid hf
  clear hf
  have hcf := fun args w => hr.run args w
  obtain ⟨A, c, rfl, hc, hm⟩ := hS.form
  go_enter Tryz.func46, Tryz.ntmps46
  go_wp2
  go_loopw [8] (fun i wr => ∃ k : Nat, k ≤ l.length ∧ i = .int .i64 k ∧ Hid (idxF p 0 l = idxF p k (l.drop k)) ∧ Kp w wr) (fun i _ => l.length - (intOf i).toNat)
  case atStart => exact ⟨0, Nat.zero_le _, rfl, rfl, Kp.refl _⟩
  case round =>
    obtain ⟨k, hk, rfl, HB, hbel⟩ := hrel
    by_cases hlt : k < l.length
    · obtain ⟨b, o, rfl, hb, h1, h2⟩ := (hS.keep (pl_stable _) hbel).rng hlt
      have HD := hid (List.drop_eq_getElem_cons hlt)
      generalize l[k] = r at *
      obtain ⟨lo, hi⟩ := r
      clear hS
      dsimp only at h1 h2
      by_cases hp : p ⟨lo, hi⟩ = true
      · have HF : Hid (idxF p 0 l = k) := hid (by rw [HB.out, HD.out, idxF, if_pos hp])
        have HP := hid hp
        clear hp
        go_wp2_with fail
        refine (HC.out wr lo hi hbel).mono ?_
        rintro e w1 ⟨rfl, hk1⟩
        have hbel1 := hbel.trans hk1
        rw [HP.out]
        go_wp2
        go_ret
        exact ⟨ret_int HF.out.symm, (by repeat (first | assumption | exact Kp.refl _ | apply Kp.alloc | apply Kp.drew | apply Kp.drewN))⟩
      · have HF : Hid (idxF p 0 l = idxF p (k + 1) (l.drop (k + 1))) := hid (by rw [HB.out, HD.out, idxF, if_neg hp])
        have HP := hid (show p ⟨lo, hi⟩ = false by simpa using hp)
        clear hp
        go_wp2_with fail
        refine (HC.out wr lo hi hbel).mono ?_
        rintro e w1 ⟨rfl, hk1⟩
        have hbel1 := hbel.trans hk1
        rw [HP.out]
        go_wp2
        go_roundw
        case rel => exact ⟨k + 1, by omega, by go_num, HF, (by repeat (first | assumption | exact Kp.refl _ | apply Kp.alloc | apply Kp.drew | apply Kp.drewN))⟩
        case measure => simp [intOf]; omega
    · have HF : Hid (idxF p 0 l = -1) := hid (by rw [HB.out, List.drop_of_length_le (by omega)]; rfl)
      go_wp2
      go_ret
      exact ⟨ret_int HF.out.symm, (by repeat (first | assumption | exact Kp.refl _ | apply Kp.alloc | apply Kp.drew | apply Kp.drewN))⟩
set_option maxHeartbeats 400000 in
theorem ContainsFuncRange_any (p : Rng → Bool) (F : FuncId) (cap : List Value) (v : Value) (l : List Rng) (w : World) (hS : Rngs w v l) (hr : Real Tryz.prog F)
    (hf : ∀ (w' : World) (lo hi : Int), Kp w w' →  Calls Tryz.prog F (.agg #[.int .i64 lo, .int .i64 hi] :: cap).toArray w' fun e w'' => e = .returned (.bool (p ⟨lo, hi⟩)) ∧ Kp w' w'') :
    Calls Tryz.prog 58 #[v, .func (.func F) #[] cap.toArray] w fun e w' => e = .returned (.bool (l.any p)) ∧ Kp w w' := by
  have HC := hid hf
  clear hf
  rw [← idxF_any p 0 l]
  generalize hi : idxF p 0 l = i
  have HI := hid hi
  clear hi
  obtain ⟨A, c, rfl, hc, hm⟩ := hS.form
  go_enter Tryz.func58, Tryz.ntmps58
  go_wp2_with fail
  refine (IndexFuncRange_any p F cap _ l _ hS hr HC.out).mono ?_
  rintro e w1 ⟨rfl, hk1⟩
  rw [HI.out]
  go_wp2
  go_ret
  exact ⟨rfl, (by repeat (first | assumption | exact Kp.refl _ | apply Kp.alloc | apply Kp.drew | apply Kp.drewN))⟩
set_option maxHeartbeats 400000 in
theorem IndexFuncRow_any (p : Row → Bool) (F : FuncId) (cap : List Value) (v : Value) (l : List Row) (w : World) (hS : RowsL w v l) (hr : Real Tryz.prog F)
    (hf : ∀ (w' : World) (A' : Option Addr) (c' : Nat) (ts : List Term) (bd : Int), Kp w w' → Terms w' (.slice A' ts.length c') ts → Calls Tryz.prog F (.agg #[.slice A' ts.length c', .int .i64 bd] :: cap).toArray w' fun e w'' => e = .returned (.bool (p ⟨ts, bd⟩)) ∧ Kp w' w'') :
    Calls Tryz.prog 73 #[v, .func (.func F) #[] cap.toArray] w fun e w' => e = .returned (.int .i64 (idxF p 0 l)) ∧ Kp w w' := by
  have HC := hid hf
  clear hf
  have hcf := fun args w => hr.run args w
  obtain ⟨A, c, rfl, hc, hm⟩ := hS.form
  go_enter Tryz.func73, Tryz.ntmps73
  go_wp2
  go_loopw [8] (fun i wr => ∃ k : Nat, k ≤ l.length ∧ i = .int .i64 k ∧ Hid (idxF p 0 l = idxF p k (l.drop k)) ∧ Kp w wr) (fun i _ => l.length - (intOf i).toNat)
  case atStart => exact ⟨0, Nat.zero_le _, rfl, rfl, Kp.refl _⟩
  case round =>
    obtain ⟨k, hk, rfl, HB, hbel⟩ := hrel
    by_cases hlt : k < l.length
    · obtain ⟨b, o, A', c', rfl, hb, h1, h2, ht⟩ := (hS.keep rdRow_stable hbel).row hlt
      have HD := hid (List.drop_eq_getElem_cons hlt)
      generalize l[k] = r at *
      obtain ⟨ts, bd⟩ := r
      clear hS
      dsimp only at h1 h2
      by_cases hp : p ⟨ts, bd⟩ = true
      · have HF : Hid (idxF p 0 l = k) := hid (by rw [HB.out, HD.out, idxF, if_pos hp])
        have HP := hid hp
        clear hp
        go_wp2_with fail
        refine (HC.out wr A' c' ts bd hbel ht).mono ?_
        rintro e w1 ⟨rfl, hk1⟩
        have hbel1 := hbel.trans hk1
        rw [HP.out]
        go_wp2
        go_ret
        exact ⟨ret_int HF.out.symm, (by repeat (first | assumption | exact Kp.refl _ | apply Kp.alloc | apply Kp.drew | apply Kp.drewN))⟩
      · have HF : Hid (idxF p 0 l = idxF p (k + 1) (l.drop (k + 1))) := hid (by rw [HB.out, HD.out, idxF, if_neg hp])
        have HP := hid (show p ⟨ts, bd⟩ = false by simpa using hp)
        clear hp
        go_wp2_with fail
        refine (HC.out wr A' c' ts bd hbel ht).mono ?_
        rintro e w1 ⟨rfl, hk1⟩
        have hbel1 := hbel.trans hk1
        rw [HP.out]
        go_wp2
        go_roundw
        case rel => exact ⟨k + 1, by omega, by go_num, HF, (by repeat (first | assumption | exact Kp.refl _ | apply Kp.alloc | apply Kp.drew | apply Kp.drewN))⟩
        case measure => simp [intOf]; omega
    · have HF : Hid (idxF p 0 l = -1) := hid (by rw [HB.out, List.drop_of_length_le (by omega)]; rfl)
      go_wp2
      go_ret
      exact ⟨ret_int HF.out.symm, (by repeat (first | assumption | exact Kp.refl _ | apply Kp.alloc | apply Kp.drew | apply Kp.drewN))⟩
set_option maxHeartbeats 400000 in
theorem ContainsFuncRow_any (p : Row → Bool) (F : FuncId) (cap : List Value) (v : Value) (l : List Row) (w : World) (hS : RowsL w v l) (hr : Real Tryz.prog F)
    (hf : ∀ (w' : World) (A' : Option Addr) (c' : Nat) (ts : List Term) (bd : Int), Kp w w' → Terms w' (.slice A' ts.length c') ts → Calls Tryz.prog F (.agg #[.slice A' ts.length c', .int .i64 bd] :: cap).toArray w' fun e w'' => e = .returned (.bool (p ⟨ts, bd⟩)) ∧ Kp w' w'') :
    Calls Tryz.prog 55 #[v, .func (.func F) #[] cap.toArray] w fun e w' => e = .returned (.bool (l.any p)) ∧ Kp w w' := by
  have HC := hid hf
  clear hf
  rw [← idxF_any p 0 l]
  generalize hi : idxF p 0 l = i
  have HI := hid hi
  clear hi
  obtain ⟨A, c, rfl, hc, hm⟩ := hS.form
  go_enter Tryz.func55, Tryz.ntmps55
  go_wp2_with fail
  refine (IndexFuncRow_any p F cap _ l _ hS hr HC.out).mono ?_
  rintro e w1 ⟨rfl, hk1⟩
  rw [HI.out]
  go_wp2
  go_ret
  exact ⟨rfl, (by repeat (first | assumption | exact Kp.refl _ | apply Kp.alloc | apply Kp.drew | apply Kp.drewN))⟩
set_option maxHeartbeats 400000 in
theorem IndexFuncTerm_any (p : Term → Bool) (F : FuncId) (cap : List Value) (v : Value) (l : List Term) (w : World) (hS : Terms w v l) (hr : Real Tryz.prog F)
    (hf : ∀ (w' : World) (ce fa : Int), Kp w w' →  Calls Tryz.prog F (.agg #[.int .i64 ce, .int .i64 fa] :: cap).toArray w' fun e w'' => e = .returned (.bool (p ⟨ce, fa⟩)) ∧ Kp w' w'') :
    Calls Tryz.prog 92 #[v, .func (.func F) #[] cap.toArray] w fun e w' => e = .returned (.int .i64 (idxF p 0 l)) ∧ Kp w w' := by
  have HC := hid hf
  clear hf
  have hcf := fun args w => hr.run args w
  obtain ⟨A, c, rfl, hc, hm⟩ := hS.form
  go_enter Tryz.func92, Tryz.ntmps92
  go_wp2
  go_loopw [8] (fun i wr => ∃ k : Nat, k ≤ l.length ∧ i = .int .i64 k ∧ Hid (idxF p 0 l = idxF p k (l.drop k)) ∧ Kp w wr) (fun i _ => l.length - (intOf i).toNat)
  case atStart => exact ⟨0, Nat.zero_le _, rfl, rfl, Kp.refl _⟩
  case round =>
    obtain ⟨k, hk, rfl, HB, hbel⟩ := hrel
    by_cases hlt : k < l.length
    · obtain ⟨b, o, rfl, hb, h1, h2⟩ := (hS.keep (pl_stable _) hbel).term hlt
      have HD := hid (List.drop_eq_getElem_cons hlt)
      generalize l[k] = r at *
      obtain ⟨ce, fa⟩ := r
      clear hS
      dsimp only at h1 h2
      by_cases hp : p ⟨ce, fa⟩ = true
      · have HF : Hid (idxF p 0 l = k) := hid (by rw [HB.out, HD.out, idxF, if_pos hp])
        have HP := hid hp
        clear hp
        go_wp2_with fail
        refine (HC.out wr ce fa hbel).mono ?_
        rintro e w1 ⟨rfl, hk1⟩
        have hbel1 := hbel.trans hk1
        rw [HP.out]
        go_wp2
        go_ret
        exact ⟨ret_int HF.out.symm, (by repeat (first | assumption | exact Kp.refl _ | apply Kp.alloc | apply Kp.drew | apply Kp.drewN))⟩
      · have HF : Hid (idxF p 0 l = idxF p (k + 1) (l.drop (k + 1))) := hid (by rw [HB.out, HD.out, idxF, if_neg hp])
        have HP := hid (show p ⟨ce, fa⟩ = false by simpa using hp)
        clear hp
        go_wp2_with fail
        refine (HC.out wr ce fa hbel).mono ?_
        rintro e w1 ⟨rfl, hk1⟩
        have hbel1 := hbel.trans hk1
        rw [HP.out]
        go_wp2
        go_roundw
        case rel => exact ⟨k + 1, by omega, by go_num, HF, (by repeat (first | assumption | exact Kp.refl _ | apply Kp.alloc | apply Kp.drew | apply Kp.drewN))⟩
        case measure => simp [intOf]; omega
    · have HF : Hid (idxF p 0 l = -1) := hid (by rw [HB.out, List.drop_of_length_le (by omega)]; rfl)
      go_wp2
      go_ret
      exact ⟨ret_int HF.out.symm, (by repeat (first | assumption | exact Kp.refl _ | apply Kp.alloc | apply Kp.drew | apply Kp.drewN))⟩

/-! fits, Valid -/
def badT (n last : Int) (t : Term) : Prop := t.cell ≤ last ∨ n ≤ t.cell ∨ t.factor = 0 ∨ t.factor < -1000 ∨ 1000 < t.factor
instance (n last : Int) (t : Term) : Decidable (badT n last t) := by unfold badT; infer_instance
def fitsL (n : Int) : Int → List Term → Bool
  | _, [] => true
  | last, t :: l => if badT n last t then false else fitsL n t.cell l
def fitsB (n : Int) (r : Row) : Bool := fitsL n (-1) r.terms && decide (-1000000000 ≤ r.bound ∧ r.bound ≤ 1000000000)

set_option maxHeartbeats 1000000 in
theorem fits_any (n : Int) (v : Value) (l : List Term) (bd : Int) (w : World) (hS : Terms w v l) :
    Calls Tryz.prog 57 #[.int .i64 n, .agg #[v, .int .i64 bd]] w fun e w' => e = .returned (.bool (fitsB n ⟨l, bd⟩)) ∧ Kp w w' := by
  obtain ⟨A, c, rfl, hc, hm⟩ := hS.form
  go_enter Tryz.func57, Tryz.ntmps57
  go_wp2
  have hk0 := (Kp.refl w).alloc (.cells #[.slice A l.length c, .int .i64 bd] 51)
  have hb1 := alloc_cell w #[.slice A l.length c, .int .i64 bd] 51 1 rfl
  have hlt0 := alloc_lt w (.cells #[.slice A l.length c, .int .i64 bd] 51)
  generalize w.alloc (.cells #[.slice A l.length c, .int .i64 bd] 51) = w0 at *
  have hS0 := hS.keep (pl_stable _) hk0
  go_loopw [5, 11] (fun z i wr => ∃ (k : Nat) (last : Int), k ≤ l.length ∧ i = .int .i64 k ∧ z = .int .i64 last ∧ Hid (fitsL n (-1) l = fitsL n last (l.drop k)) ∧ Kp w0 wr) (fun _ i _ => l.length - (intOf i).toNat)
  case atStart => exact ⟨0, -1, Nat.zero_le _, rfl, rfl, rfl, Kp.refl _⟩
  case round =>
    obtain ⟨k, last, hk, rfl, rfl, HB, hbel⟩ := hrel
    have hbel' := hk0.trans hbel
    by_cases hlt : k < l.length
    · obtain ⟨b, o, rfl, hb, h1, h2⟩ := (hS0.keep (pl_stable _) hbel).term hlt
      have HD := hid (List.drop_eq_getElem_cons hlt)
      generalize l[k] = r at *
      obtain ⟨ce, fa⟩ := r
      clear hS hS0
      dsimp only at h1 h2
      by_cases hbad : badT n last ⟨ce, fa⟩
      · have HF : Hid (fitsB n ⟨l, bd⟩ = false) := hid (by unfold fitsB; dsimp only; rw [HB.out, HD.out, fitsL, if_pos hbad]; rfl)
        unfold badT at hbad
        dsimp only at hbad
        go_wp2
        all_goals first
          | (go_ret; exact ⟨ret_bool HF.out.symm, (by repeat (first | assumption | exact Kp.refl _ | apply Kp.alloc | apply Kp.drew | apply Kp.drewN))⟩)
          | (exfalso; omega)
      · have HF : Hid (fitsL n (-1) l = fitsL n ce (l.drop (k + 1))) := hid (by rw [HB.out, HD.out, fitsL, if_neg hbad])
        unfold badT at hbad
        dsimp only at hbad
        have g1 : last < ce := by omega
        have g2 : ce < n := by omega
        have g3 : (fa == 0) = false := beq_eq_false_iff_ne.2 (by omega)
        have g4 : -1000 ≤ fa := by omega
        have g5 : fa ≤ 1000 := by omega
        clear hbad
        go_wp2
        go_roundw
        case rel => exact ⟨k + 1, ce, by omega, by go_num, rfl, HF, (by repeat (first | assumption | exact Kp.refl _ | apply Kp.alloc | apply Kp.drew | apply Kp.drewN))⟩
        case measure => simp [intOf]; omega
    · have hb2 := hbel.cellS hb1
      have HF : Hid (fitsB n ⟨l, bd⟩ = decide (-1000000000 ≤ bd ∧ bd ≤ 1000000000)) := hid (by unfold fitsB; dsimp only; rw [HB.out, List.drop_of_length_le (by omega)]; simp [fitsL])
      clear hb1
      go_wp2
      all_goals
        go_ret
        exact ⟨ret_bool (by rw [HF.out]; simp <;> omega), (by repeat (first | assumption | exact Kp.refl _ | apply Kp.alloc | apply Kp.drew | apply Kp.drewN))⟩
end Go.Proofs.YtlbhidiliogflaaGreat
namespace Go.Proofs.YtlbhidiliogflaaGreat
set_option linter.unusedSimpArgs false
set_option linter.unusedVariables false
open Go.RowKit

set_option maxHeartbeats 400000 in
theorem Valid1_any (g : Nat) (A : Option Addr) (n c : Nat) (v : Value) (l : List Term) (bd : Int) (w : World) (hS : Terms w v l) (hg : w.cell? ⟨g, 0, none⟩ = some (.slice A n c)) :
    Calls Tryz.prog 56 #[.agg #[v, .int .i64 bd], .pointer (some ⟨g, 0, none⟩)] w fun e w' => e = .returned (.bool (!fitsB n ⟨l, bd⟩)) ∧ Kp w w' := by
  obtain ⟨A', c', rfl, hc, hm⟩ := hS.form
  have hgl : g < w.heap.size := block_lt_of_cell hg
  go_enter Tryz.func56, Tryz.ntmps56
  have hk0 := (Kp.refl w).alloc (.cells #[.slice A' l.length c', .int .i64 bd] 51)
  go_wp2_with fail
  refine (fits_any _ _ l _ _ (hS.keep (pl_stable _) hk0)).mono ?_
  rintro e w1 ⟨rfl, hk1⟩
  have hk2 := hk0.trans hk1
  go_wp2
  go_ret
  exact ⟨rfl, (by repeat (first | assumption | exact Kp.refl _ | apply Kp.alloc | apply Kp.drew | apply Kp.drewN))⟩
theorem Valid1_real : Real Tryz.prog 56 := ⟨_, Tryz.func56, by kernel_rfl, by kernel_rfl⟩

def validB (b : List Rng) (rows : List Row) : Bool := boxB b && !rows.any (fun r => !fitsB b.length r)
set_option maxHeartbeats 400000 in
theorem Valid_any (vb vr : Value) (b : List Rng) (rows : List Row) (w : World) (hb : Rngs w vb b) (hr : RowsL w vr rows) :
    Calls Tryz.prog 27 #[vb, vr] w fun e w' => e = .returned (.bool (validB b rows)) ∧ Kp w w' := by
  obtain ⟨A, c, rfl, hc, hm⟩ := hb.form
  obtain ⟨A', c', rfl, hc', hm'⟩ := hr.form
  have hk0 := (Kp.refl w).alloc (.cells #[.slice A b.length c] 22)
  have hg0 := alloc_cell w #[.slice A b.length c] 22 0 rfl
  go_enter Tryz.func27, Tryz.ntmps27
  go_wp2_with fail
  refine (box_any _ b _ (hb.keep (pl_stable _) hk0)).mono ?_
  rintro e w1 ⟨rfl, hk1⟩
  have hbel1 := (hk0).trans hk1
  have hg1 := hk1.cellS hg0
  cases hB : boxB b with
  | false =>
    have HF : Hid (validB b rows = false) := hid (by simp [validB, hB])
    clear hB hg1 hg0
    go_wp2
    go_ret
    exact ⟨ret_bool HF.out.symm, (by repeat (first | assumption | exact Kp.refl _ | apply Kp.alloc | apply Kp.drew | apply Kp.drewN))⟩
  | true =>
    have HF : Hid (validB b rows = !rows.any (fun r => !fitsB b.length r)) := hid (by simp [validB, hB])
    clear hB hg0
    go_wp2_with fail
    refine (ContainsFuncRow_any (fun r => !fitsB b.length r) 56 [.pointer (some ⟨w.heap.size, 0, none⟩)] _ rows _ (hr.keep rdRow_stable hbel1) Valid1_real (fun w' A1 c1 ts bd hk hT => Valid1_any _ _ _ _ _ ts bd w' hT (hk.cellS hg1))).mono ?_
    rintro e w2 ⟨rfl, hk2⟩
    have hbel2 := (hbel1).trans hk2
    generalize rows.any (fun r => !fitsB b.length r) = x at *
    go_wp2
    go_ret
    exact ⟨ret_bool HF.out.symm, (by repeat (first | assumption | exact Kp.refl _ | apply Kp.alloc | apply Kp.drew | apply Kp.drewN))⟩

/-! Empty -/
def emptyR (r : Rng) : Bool := decide (r.hi < r.lo)
set_option maxHeartbeats 400000 in
theorem empty_any (lo hi : Int) (w : World) :
    Calls Tryz.prog 59 #[.agg #[.int .i64 lo, .int .i64 hi]] w fun e w' => e = .returned (.bool (emptyR ⟨lo, hi⟩)) ∧ Kp w w' := by
  go_enter Tryz.func59, Tryz.ntmps59
  go_wp2
  go_ret
  exact ⟨rfl, (Kp.refl _).alloc _⟩
theorem empty_real : Real Tryz.prog 59 := ⟨_, Tryz.func59, by kernel_rfl, by kernel_rfl⟩
set_option maxHeartbeats 400000 in
theorem Empty_any (vb : Value) (b : List Rng) (w : World) (hb : Rngs w vb b) :
    Calls Tryz.prog 28 #[vb] w fun e w' => e = .returned (.bool (b.any emptyR)) ∧ Kp w w' := by
  obtain ⟨A, c, rfl, hc, hm⟩ := hb.form
  go_enter Tryz.func28, Tryz.ntmps28
  go_wp2_with fail
  refine (ContainsFuncRange_any emptyR 59 [] _ b _ hb empty_real (fun w' lo hi hk => empty_any lo hi w')).mono ?_
  rintro e w1 ⟨rfl, hk1⟩
  have hbel1 := ((Kp.refl _)).trans hk1
  generalize hx : b.any emptyR = x
  have Hx := hid hx
  clear hx
  go_wp2
  go_ret
  exact ⟨ret_bool Hx.out.symm, (by repeat (first | assumption | exact Kp.refl _ | apply Kp.alloc | apply Kp.drew | apply Kp.drewN))⟩

/-! Contains -/
def badV (r : Rng) (x : Int) : Prop := x < r.lo ∨ r.hi < x
instance (r : Rng) (x : Int) : Decidable (badV r x) := by unfold badV; infer_instance
def contL : List Rng → List Int → Bool
  | r :: b, x :: vs => if badV r x then false else contL b vs
  | _, _ => true
def containsB (b : List Rng) (vs : List Int) : Bool := decide (b.length = vs.length) && contL b vs
set_option maxHeartbeats 1000000 in
theorem Contains_any (vb vv : Value) (b : List Rng) (vs : List Int) (w : World) (hb : Rngs w vb b) (hv : Ints w vv vs) :
    Calls Tryz.prog 61 #[vb, vv] w fun e w' => e = .returned (.bool (containsB b vs)) ∧ Kp w w' := by
  obtain ⟨A, c, rfl, hc, hm⟩ := hb.form
  obtain ⟨A', c', rfl, hc', hm'⟩ := hv.form
  by_cases hl : b.length = vs.length
  · have HL := hid hl
    have l1 : (b.length == vs.length) = true := beq_iff_eq.2 hl
    have l2 : (b.length != vs.length) = false := by simp [hl]
    have l3 : ((b.length : Int) == (vs.length : Int)) = true := by simp [hl]
    have l4 : b.length ≤ vs.length := by omega
    have l5 : vs.length ≤ b.length := by omega
    clear hl
    go_enter Tryz.func61, Tryz.ntmps61
    go_wp2
    go_loopw [14] (fun i wr => ∃ k : Nat, k ≤ b.length ∧ i = .int .i64 k ∧ Hid (contL b vs = contL (b.drop k) (vs.drop k)) ∧ Kp w wr) (fun i _ => b.length - (intOf i).toNat)
    case atStart => exact ⟨0, Nat.zero_le _, rfl, rfl, Kp.refl _⟩
    case round =>
      obtain ⟨k, hk, rfl, HB, hbel⟩ := hrel
      by_cases hlt : k < b.length
      · have hlt' : k < vs.length := by omega
        obtain ⟨g, o, rfl, hg, h1, h2⟩ := (hb.keep (pl_stable _) hbel).rng hlt
        obtain ⟨g', o', rfl, hg', h3⟩ := (hv.keep (pl_stable _) hbel).ints hlt'
        have HD := hid (List.drop_eq_getElem_cons hlt)
        have HE := hid (List.drop_eq_getElem_cons hlt')
        generalize b[k] = r at *
        generalize vs[k] = x at *
        obtain ⟨lo, hi⟩ := r
        clear hb hv
        dsimp only at h1 h2
        have q1 : (0 : Int) ≤ k := by omega
        have q2 : (k : Int) < b.length := by omega
        have q3 : (k : Int) < vs.length := by omega
        by_cases hbad : badV ⟨lo, hi⟩ x
        · have HF : Hid (containsB b vs = false) := hid (by unfold containsB; rw [HB.out, HD.out, HE.out, contL, if_pos hbad]; simp)
          unfold badV at hbad
          dsimp only at hbad
          by_cases hx : x < lo
          · have d1 : decide (x < lo) = true := by simpa using hx
            go_wp2
            go_quiet (fail)
            go_wp2
            go_ret
            exact ⟨ret_bool HF.out.symm, (by repeat (first | assumption | exact Kp.refl _ | apply Kp.alloc | apply Kp.drew | apply Kp.drewN))⟩
          · have d1 : decide (x < lo) = false := by simpa using hx
            have hy : hi < x := by omega
            have d2 : decide (hi < x) = true := by simpa using hy
            clear hbad
            go_wp2
            go_quiet (fail)
            go_wp2
            go_ret
            exact ⟨ret_bool HF.out.symm, (by repeat (first | assumption | exact Kp.refl _ | apply Kp.alloc | apply Kp.drew | apply Kp.drewN))⟩
        · have HF : Hid (contL b vs = contL (b.drop (k + 1)) (vs.drop (k + 1))) := hid (by rw [HB.out, HD.out, HE.out, contL, if_neg hbad])
          unfold badV at hbad
          dsimp only at hbad
          have hx : lo ≤ x := by omega
          have hy : x ≤ hi := by omega
          have d1 : decide (x < lo) = false := by simpa using hx
          have d2 : decide (hi < x) = false := by simpa using hy
          clear hbad
          go_wp2
          go_quiet (fail)
          go_wp2
          go_roundw
          case rel => exact ⟨k + 1, by omega, by go_num, HF, (by repeat (first | assumption | exact Kp.refl _ | apply Kp.alloc | apply Kp.drew | apply Kp.drewN))⟩
          case measure => simp [intOf]; omega
      · have HF : Hid (containsB b vs = true) := hid (by unfold containsB; rw [HB.out, List.drop_of_length_le (l := b) (by omega)]; simp [contL, HL.out])
        go_wp2
        go_ret
        exact ⟨ret_bool HF.out.symm, (by repeat (first | assumption | exact Kp.refl _ | apply Kp.alloc | apply Kp.drew | apply Kp.drewN))⟩
  · have l2 : (b.length != vs.length) = true := by simp [hl]
    go_enter Tryz.func61, Tryz.ntmps61
    go_wp2
    go_ret
    exact ⟨ret_bool (by unfold containsB; simp [hl]), (by repeat (first | assumption | exact Kp.refl _ | apply Kp.alloc | apply Kp.drew | apply Kp.drewN))⟩
end Go.Proofs.YtlbhidiliogflaaGreat
namespace Go.Proofs.YtlbhidiliogflaaGreat
set_option linter.unusedSimpArgs false
set_option linter.unusedVariables false
open Go.RowKit

theorem ret_agg2 {k k' : IntKind} {a b a' b' : Int} (h : a = a') (h' : b = b') : Ending.returned (.agg #[.int k a, .int k' b]) = .returned (.agg #[.int k a', .int k' b']) := by rw [h, h']
theorem bodyPost_agg2 {P : Program} {fn : Func} {R : Ending → World → Prop} {a : Act} {w : World} {k k' : IntKind} {x y : Int} (h : (results fn a.tmps).run P w = .ok (.agg #[.int k x, .int k' y]) w) (hd : a.defers = [])
    (hR : R (.returned (.agg #[.int k x, .int k' y])) w) : bodyPost P fn R .ret a w := bodyPost_ret h hd hR
def meetR (a b : Rng) : Rng := ⟨max a.lo b.lo, min a.hi b.hi⟩
/-- the quotient as the code reckons it -/
theorem ediv_of_tdiv (a b : Int) (h0 : 0 < b) : a / b = if a.tmod b ≠ 0 ∧ a < 0 then a.tdiv b - 1 else a.tdiv b := by
  have h1 := Int.tmod_add_mul_tdiv a b
  by_cases ha : a < 0
  · have h2 : a.tmod b ≤ 0 := by
      have := Int.tmod_nonneg (a := -a) b (by omega)
      rw [Int.neg_tmod] at this
      omega
    have h3 : -b < a.tmod b := by
      have := Int.tmod_lt_of_pos (-a) h0
      rw [Int.neg_tmod] at this
      omega
    by_cases h4 : a.tmod b = 0
    · rw [if_neg (by omega)]
      have h5 : a = b * a.tdiv b := by omega
      conv => lhs; rw [h5]
      rw [Int.mul_ediv_cancel_left _ (by omega)]
    · rw [if_pos ⟨h4, ha⟩]
      have h5 : a = (a.tmod b + b) + b * (a.tdiv b - 1) := by rw [Int.mul_sub]; omega
      conv => lhs; rw [h5]
      rw [Int.add_mul_ediv_left _ _ (by omega), Int.ediv_eq_zero_of_lt (by omega) (by omega)]
      omega
  · rw [if_neg (by omega), Int.tdiv_eq_ediv_of_nonneg (by omega)]
theorem ediv_bd (a b : Int) (h0 : 0 < b) (h2 : -1000000000000000 ≤ a) (h3 : a ≤ 1000000000000000) : -1000000000000000 ≤ a / b ∧ a / b ≤ 1000000000000000 := by
  constructor
  · exact (Int.le_ediv_iff_mul_le h0).2 (by
      have : (-1000000000000000 : Int) * b ≤ -1000000000000000 * 1 := Int.mul_le_mul_of_nonpos_left (by omega) (by omega)
      omega)
  · have h4 : a / b < 1000000000000001 := Int.ediv_lt_of_lt_mul h0 (by
      have : (1000000000000001 : Int) * 1 ≤ 1000000000000001 * b := Int.mul_le_mul_of_nonneg_left (by omega) (by omega)
      omega)
    omega
theorem tdiv_bd (a b : Int) (h0 : 0 < b) (h2 : -1000000000000000 ≤ a) (h3 : a ≤ 1000000000000000) : -1000000000000000 ≤ a.tdiv b ∧ a.tdiv b ≤ 1000000000000001 := by
  have h := ediv_of_tdiv a b h0
  have h' := ediv_bd a b h0 h2 h3
  split at h <;> omega

set_option maxHeartbeats 400000 in
theorem floor_any (a b : Int) (w : World) (h0 : 0 < b) (h1 : b ≤ 1000000000000) (h2 : -1000000000000000 ≤ a) (h3 : a ≤ 1000000000000000) :
    Calls Tryz.prog 70 #[.int .i64 a, .int .i64 b] w fun e w' => e = .returned (.int .i64 (a / b)) ∧ Kp w w' := by
  have HE := hid (ediv_of_tdiv a b h0)
  obtain ⟨t1, t2⟩ := tdiv_bd a b h0 h2 h3
  have d0 : decide (b < 0) = false := by simp; omega
  by_cases hm : a.tmod b = 0
  · have m1 : (a.tmod b != 0) = false := by simp [hm]
    have HF : Hid (a / b = a.tdiv b) := hid (by rw [HE.out, if_neg (by omega)])
    have HM := hid hm
    clear hm
    go_enter Tryz.func70, Tryz.ntmps70
    go_wp2
    go_ret
    exact ⟨ret_int HF.out.symm, (by repeat (first | assumption | exact Kp.refl _ | apply Kp.alloc | apply Kp.drew | apply Kp.drewN))⟩
  · have m1 : (a.tmod b != 0) = true := by simp [hm]
    by_cases ha : a < 0
    · have d1 : decide (a < 0) = true := by simpa using ha
      have HF : Hid (a / b = a.tdiv b - 1) := hid (by rw [HE.out, if_pos ⟨hm, ha⟩])
      go_enter Tryz.func70, Tryz.ntmps70
      go_wp2
      go_ret
      exact ⟨ret_int HF.out.symm, (by repeat (first | assumption | exact Kp.refl _ | apply Kp.alloc | apply Kp.drew | apply Kp.drewN))⟩
    · have d1 : decide (a < 0) = false := by simpa using ha
      have HF : Hid (a / b = a.tdiv b) := hid (by rw [HE.out, if_neg (by omega)])
      go_enter Tryz.func70, Tryz.ntmps70
      go_wp2
      all_goals
        go_ret
        exact ⟨ret_int HF.out.symm, (by repeat (first | assumption | exact Kp.refl _ | apply Kp.alloc | apply Kp.drew | apply Kp.drewN))⟩

def middle (r : Rng) : Int := if boxB [r] then (r.lo + r.hi) / 2 else 0
set_option maxHeartbeats 400000 in
theorem Middle_any (lo hi : Int) (w : World) :
    Calls Tryz.prog 48 #[.agg #[.int .i64 lo, .int .i64 hi]] w fun e w' => e = .returned (.int .i64 (middle ⟨lo, hi⟩)) ∧ Kp w w' := by
  go_enter Tryz.func48, Tryz.ntmps48
  have hk0 := (Kp.refl w).alloc (.cells #[.int .i64 lo, .int .i64 hi] 57)
  have hg0 := alloc_cell w #[.int .i64 lo, .int .i64 hi] 57 0 rfl
  have hg1 := alloc_cell w #[.int .i64 lo, .int .i64 hi] 57 1 rfl
  have hlt0 := alloc_lt w (.cells #[.int .i64 lo, .int .i64 hi] 57)
  have HS : ∀ w0 : World, Rngs (w0.alloc (.cells #[.int .i64 lo, .int .i64 hi] 57)) (.slice (some ⟨w0.heap.size, 0, none⟩) 1 1) [⟨lo, hi⟩] := fun w0 => (Own.lit (base := w0.heap.size) encRng w0 _ [⟨lo, hi⟩] (Nat.le_refl _) (by simp) rfl (by simp [flat, encRng])).sl encRng_len
  have HS1 := hid (HS (w.alloc (.cells #[.int .i64 lo, .int .i64 hi] 57)))
  clear HS
  go_wp2_with fail
  have HS2 := HS1.out
  rw [World.size_alloc] at HS2
  have hk1 := hk0.alloc (.cells #[.int .i64 lo, .int .i64 hi] 57)
  refine (box_any _ _ _ HS2).mono ?_
  rintro e w1 ⟨rfl, hk2⟩
  have hbel1 := hk1.trans hk2
  have hc0 := hk2.cellS (((Kp.refl _).alloc (.cells #[.int .i64 lo, .int .i64 hi] 57)).cellS hg0)
  have hc1 := hk2.cellS (((Kp.refl _).alloc (.cells #[.int .i64 lo, .int .i64 hi] 57)).cellS hg1)
  clear hk0 hg0 hg1 hlt0 HS2
  cases hB : boxB [⟨lo, hi⟩] with
  | false =>
    have HF : Hid (middle ⟨lo, hi⟩ = 0) := hid (by simp [middle, hB])
    clear hB
    go_wp2
    go_ret
    exact ⟨ret_int HF.out.symm, hbel1⟩
  | true =>
    have HF : Hid (middle ⟨lo, hi⟩ = (lo + hi) / 2) := hid (by simp [middle, hB])
    have hbad : ¬ bad ⟨lo, hi⟩ := by
      intro h
      simp [boxB, boxL, h] at hB
    unfold bad at hbad
    dsimp only at hbad
    have g1 : -1000000 ≤ lo := by omega
    have g2 : lo ≤ 1000000 := by omega
    have g3 : -1000000 ≤ hi := by omega
    have g4 : hi ≤ 1000000 := by omega
    clear hbad hB
    go_wp2_with fail
    refine (floor_any (lo + hi) 2 _ (by omega) (by omega) (by omega) (by omega)).mono ?_
    rintro e w2 ⟨rfl, hk3⟩
    go_wp2
    go_ret
    exact ⟨ret_int HF.out.symm, hbel1.trans hk3⟩
end Go.Proofs.YtlbhidiliogflaaGreat
namespace Go.Proofs.YtlbhidiliogflaaGreat
set_option linter.unusedSimpArgs false
set_option linter.unusedVariables false
open Go.RowKit

theorem boxL_all : ∀ (l : List Rng), boxL l = true → ∀ r ∈ l, ¬ bad r
  | [], _, r, hr => by simp at hr
  | x :: l, h, r, hr => by
    unfold boxL at h
    split at h
    · simp at h
    · rename_i hb
      rcases List.mem_cons.1 hr with rfl | hr
      · exact hb
      · exact boxL_all l h r hr
theorem boxB_all {l : List Rng} (h : boxB l = true) : (∀ r ∈ l, ¬ bad r) ∧ l.length ≤ 128 := by
  unfold boxB at h
  rw [Bool.and_eq_true] at h
  exact ⟨boxL_all l h.1, by simpa using h.2⟩
theorem not_bad {r : Rng} (h : ¬ bad r) : -1000000 ≤ r.lo ∧ r.lo ≤ 1000000 ∧ -1000000 ≤ r.hi ∧ r.hi ≤ 1000000 := by
  unfold bad at h
  omega

/-! Size -/
def sizeL : Int → List Rng → Int
  | n, [] => n
  | n, r :: l => sizeL (min (n * (r.hi - r.lo + 1)) 1073741824) l
def sizeB (b : List Rng) : Int := if boxB b = true ∧ b.any emptyR = false then sizeL 1 b else 0
theorem size_bd (n lo hi : Int) (h1 : 1 ≤ n) (h2 : n ≤ 1073741824) (h3 : lo ≤ hi) (h4 : -1000000 ≤ lo) (h5 : hi ≤ 1000000) : 1 ≤ n * (hi - lo + 1) ∧ n * (hi - lo + 1) ≤ 2147484721741824 := by
  constructor
  · have : (1 : Int) * 1 ≤ n * (hi - lo + 1) := Int.mul_le_mul h1 (by omega) (by omega) (by omega)
    omega
  · have : n * (hi - lo + 1) ≤ 1073741824 * 2000001 := Int.mul_le_mul h2 (by omega) (by omega) (by omega)
    omega
set_option maxHeartbeats 1000000 in
theorem Size_any (vb : Value) (b : List Rng) (w : World) (hb : Rngs w vb b) :
    Calls Tryz.prog 31 #[vb] w fun e w' => e = .returned (.int .i64 (sizeB b)) ∧ Kp w w' := by
  obtain ⟨A, c, rfl, hc, hm⟩ := hb.form
  go_enter Tryz.func31, Tryz.ntmps31
  go_wp2_with fail
  refine (box_any _ b _ hb).mono ?_
  rintro e w1 ⟨rfl, hk1⟩
  have hbel1 := ((Kp.refl _)).trans hk1
  cases hB : boxB b with
  | false =>
    have HF : Hid (sizeB b = 0) := hid (by simp [sizeB, hB])
    clear hB
    go_wp2
    go_ret
    exact ⟨ret_int HF.out.symm, hbel1⟩
  | true =>
    obtain ⟨hall, h128⟩ := boxB_all hB
    have HA := hid hall
    have HB := hid hB
    clear hB hall
    go_wp2_with fail
    refine (Empty_any _ b _ (hb.keep (pl_stable _) hk1)).mono ?_
    rintro e w2 ⟨rfl, hk2⟩
    have hbel2 := (hbel1).trans hk2
    cases hE : b.any emptyR with
    | true =>
      have HF : Hid (sizeB b = 0) := hid (by simp [sizeB, hE])
      clear hE
      go_wp2
      go_ret
      exact ⟨ret_int HF.out.symm, hbel2⟩
    | false =>
      have HE := hid hE
      have hS : Hid (sizeB b = sizeL 1 b) := hid (by simp [sizeB, hE, HB.out])
      clear hE
      go_wp2
      go_loopw [3, 15] (fun z i wr => ∃ (k : Nat) (n : Int), k ≤ b.length ∧ i = .int .i64 k ∧ 1 ≤ n ∧ n ≤ 1073741824 ∧ z = .int .i64 n ∧ Hid (sizeB b = sizeL n (b.drop k)) ∧ Kp w wr) (fun _ i _ => b.length - (intOf i).toNat)
      case atStart => exact ⟨0, 1, Nat.zero_le _, rfl, by omega, by omega, rfl, hS, hbel2⟩
      case round =>
        obtain ⟨k, n, hk, rfl, hn1, hn2, rfl, HL, hbel⟩ := hrel
        by_cases hlt : k < b.length
        · obtain ⟨g, o, rfl, hg, h1, h2⟩ := (hb.keep (pl_stable _) hbel).rng hlt
          have HD := hid (List.drop_eq_getElem_cons hlt)
          have hnb := not_bad (HA.out b[k] (List.getElem_mem hlt))
          have hne : b[k].lo ≤ b[k].hi := by
            have h0 := List.any_eq_false.1 HE.out b[k] (List.getElem_mem hlt)
            unfold emptyR at h0
            simpa using h0
          generalize b[k] = r at *
          obtain ⟨lo, hi⟩ := r
          clear hb
          dsimp only at h1 h2 hnb hne
          obtain ⟨g1, g2, g3, g4⟩ := hnb
          have HF : Hid (sizeB b = sizeL (min (n * (hi - lo + 1)) 1073741824) (b.drop (k + 1))) := hid (by rw [HL.out, HD.out, sizeL])
          obtain ⟨p1, p2⟩ := size_bd n lo hi hn1 hn2 hne g1 g4
          have HW : wrap64 (n * (hi - lo + 1)) = n * (hi - lo + 1) := IntWalk.wrap64_in _ (by omega)
          go_wp2
          all_goals
            go_roundw
            case rel => exact ⟨k + 1, _, by omega, by go_num, by omega, by omega, by go_num, HF, (by repeat (first | assumption | exact Kp.refl _ | apply Kp.alloc | apply Kp.drew | apply Kp.drewN))⟩
            case measure => simp [intOf]; omega
        · have HF : Hid (sizeB b = n) := hid (by rw [HL.out, List.drop_of_length_le (by omega)]; rfl)
          go_wp2
          go_ret
          exact ⟨ret_int HF.out.symm, hbel⟩

/-! the least and the greatest sum -/
def pick (b : List Rng) (c : Int) : Rng := b.getD c.toNat ⟨0, 0⟩
def termV (b : List Rng) (without sign : Int) (t : Term) : Int :=
  if t.cell = without then 0 else if 0 < t.factor * sign then t.factor * (pick b t.cell).lo else t.factor * (pick b t.cell).hi
def boundL (b : List Rng) (without sign : Int) : Int → List Term → Int
  | acc, [] => acc
  | acc, t :: l => boundL b without sign (acc + termV b without sign t) l
def okT (n : Nat) (t : Term) : Prop := 0 ≤ t.cell ∧ t.cell < n ∧ -1000 ≤ t.factor ∧ t.factor ≤ 1000
theorem mul_bd (f x : Int) (h1 : -1000 ≤ f) (h2 : f ≤ 1000) (h3 : -1000000 ≤ x) (h4 : x ≤ 1000000) : -1000000000 ≤ f * x ∧ f * x ≤ 1000000000 := by
  have h : (f * x).natAbs ≤ 1000 * 1000000 := by
    rw [Int.natAbs_mul]
    exact Nat.mul_le_mul (by omega) (by omega)
  omega
theorem pick_at (b : List Rng) (j : Nat) (h : j < b.length) : pick b (j : Int) = b[j] := by
  unfold pick
  simp [List.getD, h]
set_option maxHeartbeats 1000000 in
theorem bound_any (vt vb : Value) (ts : List Term) (bd : Int) (b : List Rng) (without sign : Int) (w : World) (ht : Terms w vt ts) (hb : Rngs w vb b)
    (hs : sign = 1 ∨ sign = -1) (hok : ∀ t ∈ ts, okT b.length t) (hbox : ∀ r ∈ b, ¬ bad r) (hl : ts.length ≤ 128) :
    Calls Tryz.prog 94 #[.agg #[vt, .int .i64 bd], vb, .int .i64 without, .int .i64 sign] w fun e w' => e = .returned (.int .i64 (boundL b without sign 0 ts)) ∧ Kp w w' := by
  obtain ⟨A, c, rfl, hc, hm⟩ := ht.form
  obtain ⟨A', c', rfl, hc', hm'⟩ := hb.form
  have HOK := hid hok
  have HBX := hid hbox
  clear hok hbox
  go_enter Tryz.func94, Tryz.ntmps94
  go_wp2
  have hk0 := (Kp.refl w).alloc (.cells #[.slice A ts.length c, .int .i64 bd] 51)
  generalize w.alloc (.cells #[.slice A ts.length c, .int .i64 bd] 51) = w0 at *
  have ht0 := ht.keep (pl_stable _) hk0
  have hb0 := hb.keep (pl_stable _) hk0
  clear ht hb
  go_loopw [9, 16] (fun z i wr => ∃ (k : Nat) (n : Int), k ≤ ts.length ∧ i = .int .i64 k ∧ -1000000000 * (k : Int) ≤ n ∧ n ≤ 1000000000 * (k : Int) ∧ z = .int .i64 n ∧ Hid (boundL b without sign 0 ts = boundL b without sign n (ts.drop k)) ∧ Kp w0 wr) (fun _ i _ => ts.length - (intOf i).toNat)
  case atStart => exact ⟨0, 0, Nat.zero_le _, rfl, by omega, by omega, rfl, rfl, Kp.refl _⟩
  case round =>
    obtain ⟨k, n, hk, rfl, hn1, hn2, rfl, HL, hbel⟩ := hrel
    have hbel' := hk0.trans hbel
    by_cases hlt : k < ts.length
    · obtain ⟨g, o, rfl, hg, h1, h2⟩ := (ht0.keep (pl_stable _) hbel).term hlt
      have HD := hid (List.drop_eq_getElem_cons hlt)
      obtain ⟨o1, o2, o3, o4⟩ := HOK.out ts[k] (List.getElem_mem hlt)
      generalize ts[k] = t at *
      obtain ⟨ce, fa⟩ := t
      dsimp only at h1 h2 o1 o2 o3 o4
      obtain ⟨j, rfl⟩ := Int.eq_ofNat_of_zero_le o1
      have hj : j < b.length := by omega
      obtain ⟨g', o', rfl, hg', h3, h4⟩ := (hb0.keep (pl_stable _) hbel).rng hj
      have HP := hid (pick_at b j hj)
      have hnb := not_bad (HBX.out b[j] (List.getElem_mem hj))
      generalize b[j] = r at *
      obtain ⟨lo, hi⟩ := r
      clear ht0 hb0
      dsimp only at h3 h4 hnb
      obtain ⟨g1, g2, g3, g4⟩ := hnb
      obtain ⟨p1, p2⟩ := mul_bd fa lo o3 o4 g1 g2
      obtain ⟨p3, p4⟩ := mul_bd fa hi o3 o4 g3 g4
      have HW1 : wrap64 (fa * lo) = fa * lo := IntWalk.wrap64_in _ (by omega)
      have HW2 : wrap64 (fa * hi) = fa * hi := IntWalk.wrap64_in _ (by omega)
      have HF : Hid (boundL b without sign 0 ts = boundL b without sign (n + termV b without sign ⟨j, fa⟩) (ts.drop (k + 1))) := hid (by rw [HL.out, HD.out, boundL])
      have HT : Hid (termV b without sign ⟨j, fa⟩ = if (j : Int) = without then 0 else if 0 < fa * sign then fa * lo else fa * hi) := hid (by unfold termV; dsimp only; rw [HP.out])
      by_cases hw : (j : Int) = without
      · have b1 : ((j : Int) == without) = true := by simpa using hw
        have HV : Hid (termV b without sign ⟨j, fa⟩ = 0) := hid (by rw [HT.out, if_pos hw])
        clear hw
        go_wp2
        go_roundw
        case rel => exact ⟨k + 1, _, by omega, by go_num, by omega, by omega, rfl, hid (by rw [HF.out, HV.out, Int.add_zero]), (by repeat (first | assumption | exact Kp.refl _ | apply Kp.alloc | apply Kp.drew | apply Kp.drewN))⟩
        case measure => simp [intOf]; omega
      · have b1 : ((j : Int) == without) = false := by simpa using hw
        by_cases hp : 0 < fa * sign
        · have HV : Hid (termV b without sign ⟨j, fa⟩ = fa * lo) := hid (by rw [HT.out, if_neg hw, if_pos hp])
          clear hw
          rcases hs with rfl | rfl
          all_goals
            go_wp2
            go_roundw
            case rel => exact ⟨k + 1, _, by omega, by go_num, by omega, by omega, rfl, hid (by rw [HF.out, HV.out]), (by repeat (first | assumption | exact Kp.refl _ | apply Kp.alloc | apply Kp.drew | apply Kp.drewN))⟩
            case measure => simp [intOf]; omega
        · have HV : Hid (termV b without sign ⟨j, fa⟩ = fa * hi) := hid (by rw [HT.out, if_neg hw, if_neg hp])
          clear hw
          rcases hs with rfl | rfl
          all_goals
            go_wp2
            go_roundw
            case rel => exact ⟨k + 1, _, by omega, by go_num, by omega, by omega, rfl, hid (by rw [HF.out, HV.out]), (by repeat (first | assumption | exact Kp.refl _ | apply Kp.alloc | apply Kp.drew | apply Kp.drewN))⟩
            case measure => simp [intOf]; omega
    · have HF : Hid (boundL b without sign 0 ts = n) := hid (by rw [HL.out, List.drop_of_length_le (by omega)]; rfl)
      go_wp2
      go_ret
      exact ⟨ret_int HF.out.symm, hbel'⟩
end Go.Proofs.YtlbhidiliogflaaGreat
namespace Go.Proofs.YtlbhidiliogflaaGreat
set_option linter.unusedSimpArgs false
set_option linter.unusedVariables false
open Go.RowKit

theorem fitsL_ok (n : Int) : ∀ (l : List Term) (last : Int), -1 ≤ last → fitsL n last l = true →
    (∀ t ∈ l, last < t.cell ∧ t.cell < n ∧ t.factor ≠ 0 ∧ -1000 ≤ t.factor ∧ t.factor ≤ 1000) ∧ (l ≠ [] → (l.length : Int) ≤ n - 1 - last)
  | [], _, _, _ => by simp
  | x :: l, last, h0, h => by
    unfold fitsL at h
    split at h
    · simp at h
    · rename_i hb
      unfold badT at hb
      obtain ⟨h1, h2⟩ := fitsL_ok n l x.cell (by omega) h
      refine ⟨fun t ht => ?_, fun _ => ?_⟩
      · rcases List.mem_cons.1 ht with rfl | ht
        · omega
        · have := h1 t ht
          omega
      · rw [List.length_cons]
        cases l with
        | nil => simp; omega
        | cons y l => have := h2 (by simp); omega
theorem fitsB_ok {n : Nat} {r : Row} (h : fitsB n r = true) : (∀ t ∈ r.terms, okT n t) ∧ r.terms.length ≤ n ∧ -1000000000 ≤ r.bound ∧ r.bound ≤ 1000000000 := by
  unfold fitsB at h
  rw [Bool.and_eq_true] at h
  obtain ⟨h1, h2⟩ := fitsL_ok n r.terms (-1) (by omega) h.1
  have h3 : -1000000000 ≤ r.bound ∧ r.bound ≤ 1000000000 := by simpa using h.2
  refine ⟨fun t ht => ?_, ?_, h3⟩
  · have := h1 t ht
    unfold okT
    omega
  · cases hr : r.terms with
    | nil => simp
    | cons y l => rw [← hr]; have := h2 (by simp [hr]); omega
theorem validB_ok {b : List Rng} {rows : List Row} (h : validB b rows = true) : (∀ r ∈ b, ¬ bad r) ∧ b.length ≤ 128 ∧ ∀ r ∈ rows, fitsB b.length r = true := by
  unfold validB at h
  rw [Bool.and_eq_true] at h
  obtain ⟨h1, h2⟩ := boxB_all h.1
  refine ⟨h1, h2, fun r hr => ?_⟩
  have h3 : rows.any (fun r => !fitsB b.length r) = false := by simpa using h.2
  simpa using List.any_eq_false.1 h3 r hr

def sumB (r : Row) (b : List Rng) : Int × Int := if validB b [r] then (boundL b (-1) 1 0 r.terms, boundL b (-1) (-1) 0 r.terms) else (0, 0)
theorem ret_ints {a b c d : Int} (h : a = c) (h' : b = d) : Ending.returned (.tuple #[.int .i64 a, .int .i64 b]) = .returned (.tuple #[.int .i64 c, .int .i64 d]) := by rw [h, h']

theorem rowLit (w : World) (v : Value) (r : Row) (ht : Terms w v r.terms) : RowsL (w.alloc (.cells #[v, .int .i64 r.bound] 51)) (.slice (some ⟨w.heap.size, 0, none⟩) 1 1) [r] :=
  Sl.one w [v, .int .i64 r.bound] _ 2 r rfl ⟨v, rfl, ht.keep (pl_stable _) ((Kp.refl w).alloc _)⟩
end Go.Proofs.YtlbhidiliogflaaGreat
