
/-
What the small functions of package interval return, for any input.
-/
import Derived.Test.YtmecjjfpgjpeoaaLib
namespace Go.Proofs.Ytmecjjfpgjpeoaa
open Go.RowKit

structure Rng where
  lo : Int
  hi : Int
structure Term where
  cell : Int
  factor : Int
structure Row where
  terms : List Term
  bound : Int
def encRng (r : Rng) : List Value := [.int .i64 r.lo, .int .i64 r.hi]
def encTerm (t : Term) : List Value := [.int .i64 t.cell, .int .i64 t.factor]
theorem encRng_len (r : Rng) : (encRng r).length = 2 := rfl
theorem encTerm_len (r : Term) : (encTerm r).length = 2 := rfl
theorem encRng_one (r : Rng) : ∀ u ∈ encRng r, u.oneCell' = true := by simp [encRng, Value.oneCell']
theorem encTerm_one (r : Term) : ∀ u ∈ encTerm r, u.oneCell' = true := by simp [encTerm, Value.oneCell']
abbrev Rngs := Sl (Pl encRng) 2
abbrev Terms := Sl (Pl encTerm) 2
def rdRow : Rd Row := fun w cs r => ∃ v, cs = [v, .int .i64 r.bound] ∧ Terms w v r.terms
theorem rdRow_stable : Stable rdRow := fun _ _ _ _ hb ⟨v, h1, h2⟩ => ⟨v, h1, h2.keep (pl_stable _) hb⟩
abbrev RowsL := Sl rdRow 2
theorem Sl.rng {w : World} {A : Option Addr} {n c : Nat} {l : List Rng} (h : Rngs w (.slice A n c) l) {k : Nat} (hk : k < l.length) :
    ∃ b o, A = some ⟨b, o, none⟩ ∧ b < w.heap.size ∧ w.cell? ⟨b, o + k * 2, none⟩ = some (.int .i64 l[k].lo) ∧ w.cell? ⟨b, o + k * 2 + 1, none⟩ = some (.int .i64 l[k].hi) := by
  obtain ⟨b, o, cs, hA, had, hcs, hc, hr⟩ := h.at_ hk
  unfold Pl encRng at hr
  subst hr
  exact ⟨b, o, hA, had, hc 0 _ rfl, hc 1 _ rfl⟩
theorem Sl.term {w : World} {A : Option Addr} {n c : Nat} {l : List Term} (h : Terms w (.slice A n c) l) {k : Nat} (hk : k < l.length) :
    ∃ b o, A = some ⟨b, o, none⟩ ∧ b < w.heap.size ∧ w.cell? ⟨b, o + k * 2, none⟩ = some (.int .i64 l[k].cell) ∧ w.cell? ⟨b, o + k * 2 + 1, none⟩ = some (.int .i64 l[k].factor) := by
  obtain ⟨b, o, cs, hA, had, hcs, hc, hr⟩ := h.at_ hk
  unfold Pl encTerm at hr
  subst hr
  exact ⟨b, o, hA, had, hc 0 _ rfl, hc 1 _ rfl⟩
theorem Sl.row {w : World} {A : Option Addr} {n c : Nat} {l : List Row} (h : RowsL w (.slice A n c) l) {k : Nat} (hk : k < l.length) :
    ∃ b o A' c', A = some ⟨b, o, none⟩ ∧ b < w.heap.size ∧ w.cell? ⟨b, o + k * 2, none⟩ = some (.slice A' l[k].terms.length c') ∧ w.cell? ⟨b, o + k * 2 + 1, none⟩ = some (.int .i64 l[k].bound) ∧ Terms w (.slice A' l[k].terms.length c') l[k].terms := by
  obtain ⟨b, o, cs, hA, had, hcs, hc, v, rfl, ht⟩ := h.at_ hk
  obtain ⟨A', c', rfl, -, -⟩ := ht.form
  exact ⟨b, o, A', c', hA, had, hc 0 _ rfl, hc 1 _ rfl, ht⟩

/-! box -/
def bad (r : Rng) : Prop := r.lo < -1000000 ∨ 1000000 < r.lo ∨ r.hi < -1000000 ∨ 1000000 < r.hi
instance (r : Rng) : Decidable (bad r) := by unfold bad; infer_instance
def boxL : List Rng → Bool
  | [] => true
  | r :: l => if bad r then false else boxL l
def boxB (l : List Rng) : Bool := boxL l && decide (l.length ≤ 128)

theorem ret_bool {a b : Bool} (h : a = b) : Ending.returned (.bool a) = .returned (.bool b) := by rw [h]
theorem ret_int {k : IntKind} {a b : Int} (h : a = b) : Ending.returned (.int k a) = .returned (.int k b) := by rw [h]

set_option maxHeartbeats 400000 in
theorem box_any (v : Value) (l : List Rng) (w : World) (hS : Rngs w v l) :
    Calls Try.prog 42 #[v] w fun e w' => e = .returned (.bool (boxB l)) ∧ Kp w w' := by
  obtain ⟨A, c, rfl, hc, hm⟩ := hS.form
  go_enter Try.func42, Try.ntmps42
  go_wp2
  go_loopw [7] (fun i wr => ∃ k : Nat, k ≤ l.length ∧ i = .int .i64 k ∧ Hid (boxL l = boxL (l.drop k)) ∧ Kp w wr) (fun i _ => l.length - (intOf i).toNat)
  case atStart => exact ⟨0, Nat.zero_le _, rfl, rfl, Kp.refl _⟩
  case round =>
    obtain ⟨k, hk, rfl, HB, hbel⟩ := hrel
    by_cases hlt : k < l.length
    · obtain ⟨b, o, rfl, hb, h1, h2⟩ := (hS.keep (pl_stable _) hbel).rng hlt
      have HD := hid (List.drop_eq_getElem_cons hlt)
      generalize l[k] = r at *
      obtain ⟨lo, hi⟩ := r
      clear hS
      dsimp only at h1 h2
      by_cases hbad : bad ⟨lo, hi⟩
      · have HF : Hid (boxB l = false) := hid (by unfold boxB; rw [HB.out, HD.out, boxL, if_pos hbad]; rfl)
        unfold bad at hbad
        dsimp only at hbad
        go_wp2
        all_goals first
          | (go_ret; exact ⟨ret_bool HF.out.symm, (by repeat (first | assumption | exact Kp.refl _ | apply Kp.alloc | apply Kp.drew | apply Kp.drewN))⟩)
          | (exfalso; omega)
      · have HF : Hid (boxL l = boxL (l.drop (k + 1))) := hid (by rw [HB.out, HD.out, boxL, if_neg hbad])
        unfold bad at hbad
        dsimp only at hbad
        have g1 : -1000000 ≤ lo := by omega
        have g2 : lo ≤ 1000000 := by omega
        have g3 : -1000000 ≤ hi := by omega
        have g4 : hi ≤ 1000000 := by omega
        clear hbad
        go_wp2
        go_roundw
        case rel => exact ⟨k + 1, by omega, by go_num, HF, (by repeat (first | assumption | exact Kp.refl _ | apply Kp.alloc | apply Kp.drew | apply Kp.drewN))⟩
        case measure => simp [intOf]; omega
    · have HF : Hid (boxB l = decide (l.length ≤ 128)) := hid (by unfold boxB; rw [HB.out, List.drop_of_length_le (by omega)]; simp [boxL])
      by_cases h128 : l.length ≤ 128
      all_goals
        go_wp2
        go_ret
        exact ⟨ret_bool (by rw [HF.out]; simp <;> omega), (by repeat (first | assumption | exact Kp.refl _ | apply Kp.alloc | apply Kp.drew | apply Kp.drewN))⟩

/-! IndexFunc, ContainsFunc -/
def idxF {α : Type} (p : α → Bool) : Nat → List α → Int
  | _, [] => -1
  | k, x :: l => if p x then (k : Int) else idxF p (k + 1) l

theorem idxF_any {α : Type} (p : α → Bool) : ∀ (k : Nat) (l : List α), decide (0 ≤ idxF p k l) = l.any p
  | _, [] => by simp [idxF]
  | k, x :: l => by
    unfold idxF
    rw [List.any_cons, ← idxF_any p (k + 1) l]
    by_cases h : p x <;> simp [h]

set_option maxHeartbeats 400000 in
theorem IndexFuncRange_any (p : Rng → Bool) (F : FuncId) (cap : List Value) (v : Value) (l : List Rng) (w : World) (hS : Rngs w v l) (hr : Real Try.prog F)
    (hf : ∀ (w' : World) (lo hi : Int), Kp w w' →  Calls Try.prog F (.agg #[.int .i64 lo, .int .i64 hi] :: cap).toArray w' fun e w'' => e = .returned (.bool (p ⟨lo, hi⟩)) ∧ Kp w' w'') :
    Calls Try.prog 61 #[v, .func (.func F) #[] cap.toArray] w fun e w' => e = .returned (.int .i64 (idxF p 0 l)) ∧ Kp w w' := by
  have HC := hid hf
  clear hf
  have hcf := fun args w => hr.run args w
  obtain ⟨A, c, rfl, hc, hm⟩ := hS.form
  go_enter Try.func61, Try.ntmps61
  go_wp2
  go_loopw [8] (fun i wr => ∃ k : Nat, k ≤ l.length ∧ i = .int .i64 k ∧ Hid (idxF p 0 l = idxF p k (l.drop k)) ∧ Kp w wr) (fun i _ => l.length - (intOf i).toNat)
  case atStart => exact ⟨0, Nat.zero_le _, rfl, rfl, Kp.refl _⟩
  case round =>
    obtain ⟨k, hk, rfl, HB, hbel⟩ := hrel
    by_cases hlt : k < l.length
    · obtain ⟨b, o, rfl, hb, h1, h2⟩ := (hS.keep (pl_stable _) hbel).rng hlt
      have HD := hid (List.drop_eq_getElem_cons hlt)
      generalize l[k] = r at *
      obtain ⟨lo, hi⟩ := r
      clear hS
      dsimp only at h1 h2
      by_cases hp : p ⟨lo, hi⟩ = true
      · have HF : Hid (idxF p 0 l = k) := hid (by rw [HB.out, HD.out, idxF, if_pos hp])
        have HP := hid hp
        clear hp
        go_wp2_with fail
        refine (HC.out wr lo hi hbel).mono ?_
        rintro e w1 ⟨rfl, hk1⟩
        have hbel1 := hbel.trans hk1
        rw [HP.out]
        go_wp2
        go_ret
        exact ⟨ret_int HF.out.symm, (by repeat (first | assumption | exact Kp.refl _ | apply Kp.alloc | apply Kp.drew | apply Kp.drewN))⟩
      · have HF : Hid (idxF p 0 l = idxF p (k + 1) (l.drop (k + 1))) := hid (by rw [HB.out, HD.out, idxF, if_neg hp])
        have HP := hid (show p ⟨lo, hi⟩ = false by simpa using hp)
        clear hp
        go_wp2_with fail
        refine (HC.out wr lo hi hbel).mono ?_
        rintro e w1 ⟨rfl, hk1⟩
        have hbel1 := hbel.trans hk1
        rw [HP.out]
        go_wp2
        go_roundw
        case rel => exact ⟨k + 1, by omega, by go_num, HF, (by repeat (first | assumption | exact Kp.refl _ | apply Kp.alloc | apply Kp.drew | apply Kp.drewN))⟩
        case measure => simp [intOf]; omega
    · have HF : Hid (idxF p 0 l = -1) := hid (by rw [HB.out, List.drop_of_length_le (by omega)]; rfl)
      go_wp2
      go_ret
      exact ⟨ret_int HF.out.symm, (by repeat (first | assumption | exact Kp.refl _ | apply Kp.alloc | apply Kp.drew | apply Kp.drewN))⟩
set_option maxHeartbeats 400000 in
theorem ContainsFuncRange_any (p : Rng → Bool) (F : FuncId) (cap : List Value) (v : Value) (l : List Rng) (w : World) (hS : Rngs w v l) (hr : Real Try.prog F)
    (hf : ∀ (w' : World) (lo hi : Int), Kp w w' →  Calls Try.prog F (.agg #[.int .i64 lo, .int .i64 hi] :: cap).toArray w' fun e w'' => e = .returned (.bool (p ⟨lo, hi⟩)) ∧ Kp w' w'') :
    Calls Try.prog 51 #[v, .func (.func F) #[] cap.toArray] w fun e w' => e = .returned (.bool (l.any p)) ∧ Kp w w' := by
  have HC := hid hf
  clear hf
  rw [← idxF_any p 0 l]
  generalize hi : idxF p 0 l = i
  have HI := hid hi
  clear hi
  obtain ⟨A, c, rfl, hc, hm⟩ := hS.form
  go_enter Try.func51, Try.ntmps51
  go_wp2_with fail
  refine (IndexFuncRange_any p F cap _ l _ hS hr HC.out).mono ?_
  rintro e w1 ⟨rfl, hk1⟩
  rw [HI.out]
  go_wp2
  go_ret
  exact ⟨rfl, (by repeat (first | assumption | exact Kp.refl _ | apply Kp.alloc | apply Kp.drew | apply Kp.drewN))⟩
set_option maxHeartbeats 400000 in
theorem IndexFuncRow_any (p : Row → Bool) (F : FuncId) (cap : List Value) (v : Value) (l : List Row) (w : World) (hS : RowsL w v l) (hr : Real Try.prog F)
    (hf : ∀ (w' : World) (A' : Option Addr) (c' : Nat) (ts : List Term) (bd : Int), Kp w w' → Terms w' (.slice A' ts.length c') ts → Calls Try.prog F (.agg #[.slice A' ts.length c', .int .i64 bd] :: cap).toArray w' fun e w'' => e = .returned (.bool (p ⟨ts, bd⟩)) ∧ Kp w' w'') :
    Calls Try.prog 60 #[v, .func (.func F) #[] cap.toArray] w fun e w' => e = .returned (.int .i64 (idxF p 0 l)) ∧ Kp w w' := by
  have HC := hid hf
  clear hf
  have hcf := fun args w => hr.run args w
  obtain ⟨A, c, rfl, hc, hm⟩ := hS.form
  go_enter Try.func60, Try.ntmps60
  go_wp2
  go_loopw [8] (fun i wr => ∃ k : Nat, k ≤ l.length ∧ i = .int .i64 k ∧ Hid (idxF p 0 l = idxF p k (l.drop k)) ∧ Kp w wr) (fun i _ => l.length - (intOf i).toNat)
  case atStart => exact ⟨0, Nat.zero_le _, rfl, rfl, Kp.refl _⟩
  case round =>
    obtain ⟨k, hk, rfl, HB, hbel⟩ := hrel
    by_cases hlt : k < l.length
    · obtain ⟨b, o, A', c', rfl, hb, h1, h2, ht⟩ := (hS.keep rdRow_stable hbel).row hlt
      have HD := hid (List.drop_eq_getElem_cons hlt)
      generalize l[k] = r at *
      obtain ⟨ts, bd⟩ := r
      clear hS
      dsimp only at h1 h2
      by_cases hp : p ⟨ts, bd⟩ = true
      · have HF : Hid (idxF p 0 l = k) := hid (by rw [HB.out, HD.out, idxF, if_pos hp])
        have HP := hid hp
        clear hp
        go_wp2_with fail
        refine (HC.out wr A' c' ts bd hbel ht).mono ?_
        rintro e w1 ⟨rfl, hk1⟩
        have hbel1 := hbel.trans hk1
        rw [HP.out]
        go_wp2
        go_ret
        exact ⟨ret_int HF.out.symm, (by repeat (first | assumption | exact Kp.refl _ | apply Kp.alloc | apply Kp.drew | apply Kp.drewN))⟩
      · have HF : Hid (idxF p 0 l = idxF p (k + 1) (l.drop (k + 1))) := hid (by rw [HB.out, HD.out, idxF, if_neg hp])
        have HP := hid (show p ⟨ts, bd⟩ = false by simpa using hp)
        clear hp
        go_wp2_with fail
        refine (HC.out wr A' c' ts bd hbel ht).mono ?_
        rintro e w1 ⟨rfl, hk1⟩
        have hbel1 := hbel.trans hk1
        rw [HP.out]
        go_wp2
        go_roundw
        case rel => exact ⟨k + 1, by omega, by go_num, HF, (by repeat (first | assumption | exact Kp.refl _ | apply Kp.alloc | apply Kp.drew | apply Kp.drewN))⟩
        case measure => simp [intOf]; omega
    · have HF : Hid (idxF p 0 l = -1) := hid (by rw [HB.out, List.drop_of_length_le (by omega)]; rfl)
      go_wp2
      go_ret
      exact ⟨ret_int HF.out.symm, (by repeat (first | assumption | exact Kp.refl _ | apply Kp.alloc | apply Kp.drew | apply Kp.drewN))⟩
set_option maxHeartbeats 400000 in
theorem ContainsFuncRow_any (p : Row → Bool) (F : FuncId) (cap : List Value) (v : Value) (l : List Row) (w : World) (hS : RowsL w v l) (hr : Real Try.prog F)
    (hf : ∀ (w' : World) (A' : Option Addr) (c' : Nat) (ts : List Term) (bd : Int), Kp w w' → Terms w' (.slice A' ts.length c') ts → Calls Try.prog F (.agg #[.slice A' ts.length c', .int .i64 bd] :: cap).toArray w' fun e w'' => e = .returned (.bool (p ⟨ts, bd⟩)) ∧ Kp w' w'') :
    Calls Try.prog 46 #[v, .func (.func F) #[] cap.toArray] w fun e w' => e = .returned (.bool (l.any p)) ∧ Kp w w' := by
  have HC := hid hf
  clear hf
  rw [← idxF_any p 0 l]
  generalize hi : idxF p 0 l = i
  have HI := hid hi
  clear hi
  obtain ⟨A, c, rfl, hc, hm⟩ := hS.form
  go_enter Try.func46, Try.ntmps46
  go_wp2_with fail
  refine (IndexFuncRow_any p F cap _ l _ hS hr HC.out).mono ?_
  rintro e w1 ⟨rfl, hk1⟩
  rw [HI.out]
  go_wp2
  go_ret
  exact ⟨rfl, (by repeat (first | assumption | exact Kp.refl _ | apply Kp.alloc | apply Kp.drew | apply Kp.drewN))⟩
set_option maxHeartbeats 400000 in
theorem IndexFuncTerm_any (p : Term → Bool) (F : FuncId) (cap : List Value) (v : Value) (l : List Term) (w : World) (hS : Terms w v l) (hr : Real Try.prog F)
    (hf : ∀ (w' : World) (ce fa : Int), Kp w w' →  Calls Try.prog F (.agg #[.int .i64 ce, .int .i64 fa] :: cap).toArray w' fun e w'' => e = .returned (.bool (p ⟨ce, fa⟩)) ∧ Kp w' w'') :
    Calls Try.prog 62 #[v, .func (.func F) #[] cap.toArray] w fun e w' => e = .returned (.int .i64 (idxF p 0 l)) ∧ Kp w w' := by
  have HC := hid hf
  clear hf
  have hcf := fun args w => hr.run args w
  obtain ⟨A, c, rfl, hc, hm⟩ := hS.form
  go_enter Try.func62, Try.ntmps62
  go_wp2
  go_loopw [8] (fun i wr => ∃ k : Nat, k ≤ l.length ∧ i = .int .i64 k ∧ Hid (idxF p 0 l = idxF p k (l.drop k)) ∧ Kp w wr) (fun i _ => l.length - (intOf i).toNat)
  case atStart => exact ⟨0, Nat.zero_le _, rfl, rfl, Kp.refl _⟩
  case round =>
    obtain ⟨k, hk, rfl, HB, hbel⟩ := hrel
    by_cases hlt : k < l.length
    · obtain ⟨b, o, rfl, hb, h1, h2⟩ := (hS.keep (pl_stable _) hbel).term hlt
      have HD := hid (List.drop_eq_getElem_cons hlt)
      generalize l[k] = r at *
      obtain ⟨ce, fa⟩ := r
      clear hS
      dsimp only at h1 h2
      by_cases hp : p ⟨ce, fa⟩ = true
      · have HF : Hid (idxF p 0 l = k) := hid (by rw [HB.out, HD.out, idxF, if_pos hp])
        have HP := hid hp
        clear hp
        go_wp2_with fail
        refine (HC.out wr ce fa hbel).mono ?_
        rintro e w1 ⟨rfl, hk1⟩
        have hbel1 := hbel.trans hk1
        rw [HP.out]
        go_wp2
        go_ret
        exact ⟨ret_int HF.out.symm, (by repeat (first | assumption | exact Kp.refl _ | apply Kp.alloc | apply Kp.drew | apply Kp.drewN))⟩
      · have HF : Hid (idxF p 0 l = idxF p (k + 1) (l.drop (k + 1))) := hid (by rw [HB.out, HD.out, idxF, if_neg hp])
        have HP := hid (show p ⟨ce, fa⟩ = false by simpa using hp)
        clear hp
        go_wp2_with fail
        refine (HC.out wr ce fa hbel).mono ?_
        rintro e w1 ⟨rfl, hk1⟩
        have hbel1 := hbel.trans hk1
        rw [HP.out]
        go_wp2
        go_roundw
        case rel => exact ⟨k + 1, by omega, by go_num, HF, (by repeat (first | assumption | exact Kp.refl _ | apply Kp.alloc | apply Kp.drew | apply Kp.drewN))⟩
        case measure => simp [intOf]; omega
    · have HF : Hid (idxF p 0 l = -1) := hid (by rw [HB.out, List.drop_of_length_le (by omega)]; rfl)
      go_wp2
      go_ret
      exact ⟨ret_int HF.out.symm, (by repeat (first | assumption | exact Kp.refl _ | apply Kp.alloc | apply Kp.drew | apply Kp.drewN))⟩

/-! fits, Valid -/
def badT (n last : Int) (t : Term) : Prop := t.cell ≤ last ∨ n ≤ t.cell ∨ t.factor = 0 ∨ t.factor < -1000 ∨ 1000 < t.factor
instance (n last : Int) (t : Term) : Decidable (badT n last t) := by unfold badT; infer_instance
def fitsL (n : Int) : Int → List Term → Bool
  | _, [] => true
  | last, t :: l => if badT n last t then false else fitsL n t.cell l
def fitsB (n : Int) (r : Row) : Bool := fitsL n (-1) r.terms && decide (-1000000000 ≤ r.bound ∧ r.bound ≤ 1000000000)

set_option maxHeartbeats 1000000 in
theorem fits_any (n : Int) (v : Value) (l : List Term) (bd : Int) (w : World) (hS : Terms w v l) :
    Calls Try.prog 48 #[.int .i64 n, .agg #[v, .int .i64 bd]] w fun e w' => e = .returned (.bool (fitsB n ⟨l, bd⟩)) ∧ Kp w w' := by
  obtain ⟨A, c, rfl, hc, hm⟩ := hS.form
  go_enter Try.func48, Try.ntmps48
  go_wp2
  have hk0 := (Kp.refl w).alloc (.cells #[.slice A l.length c, .int .i64 bd] 41)
  have hb1 := alloc_cell w #[.slice A l.length c, .int .i64 bd] 41 1 rfl
  have hlt0 := alloc_lt w (.cells #[.slice A l.length c, .int .i64 bd] 41)
  generalize w.alloc (.cells #[.slice A l.length c, .int .i64 bd] 41) = w0 at *
  have hS0 := hS.keep (pl_stable _) hk0
  go_loopw [5, 11] (fun z i wr => ∃ (k : Nat) (last : Int), k ≤ l.length ∧ i = .int .i64 k ∧ z = .int .i64 last ∧ Hid (fitsL n (-1) l = fitsL n last (l.drop k)) ∧ Kp w0 wr) (fun _ i _ => l.length - (intOf i).toNat)
  case atStart => exact ⟨0, -1, Nat.zero_le _, rfl, rfl, rfl, Kp.refl _⟩
  case round =>
    obtain ⟨k, last, hk, rfl, rfl, HB, hbel⟩ := hrel
    have hbel' := hk0.trans hbel
    by_cases hlt : k < l.length
    · obtain ⟨b, o, rfl, hb, h1, h2⟩ := (hS0.keep (pl_stable _) hbel).term hlt
      have HD := hid (List.drop_eq_getElem_cons hlt)
      generalize l[k] = r at *
      obtain ⟨ce, fa⟩ := r
      clear hS hS0
      dsimp only at h1 h2
      by_cases hbad : badT n last ⟨ce, fa⟩
      · have HF : Hid (fitsB n ⟨l, bd⟩ = false) := hid (by unfold fitsB; dsimp only; rw [HB.out, HD.out, fitsL, if_pos hbad]; rfl)
        unfold badT at hbad
        dsimp only at hbad
        go_wp2
        all_goals first
          | (go_ret; exact ⟨ret_bool HF.out.symm, (by repeat (first | assumption | exact Kp.refl _ | apply Kp.alloc | apply Kp.drew | apply Kp.drewN))⟩)
          | (exfalso; omega)
      · have HF : Hid (fitsL n (-1) l = fitsL n ce (l.drop (k + 1))) := hid (by rw [HB.out, HD.out, fitsL, if_neg hbad])
        unfold badT at hbad
        dsimp only at hbad
        have g1 : last < ce := by omega
        have g2 : ce < n := by omega
        have g3 : (fa == 0) = false := beq_eq_false_iff_ne.2 (by omega)
        have g4 : -1000 ≤ fa := by omega
        have g5 : fa ≤ 1000 := by omega
        clear hbad
        go_wp2
        go_roundw
        case rel => exact ⟨k + 1, ce, by omega, by go_num, rfl, HF, (by repeat (first | assumption | exact Kp.refl _ | apply Kp.alloc | apply Kp.drew | apply Kp.drewN))⟩
        case measure => simp [intOf]; omega
    · have hb2 := hbel.cellS hb1
      have HF : Hid (fitsB n ⟨l, bd⟩ = decide (-1000000000 ≤ bd ∧ bd ≤ 1000000000)) := hid (by unfold fitsB; dsimp only; rw [HB.out, List.drop_of_length_le (by omega)]; simp [fitsL])
      clear hb1
      go_wp2
      all_goals
        go_ret
        exact ⟨ret_bool (by rw [HF.out]; simp <;> omega), (by repeat (first | assumption | exact Kp.refl _ | apply Kp.alloc | apply Kp.drew | apply Kp.drewN))⟩
end Go.Proofs.Ytmecjjfpgjpeoaa
