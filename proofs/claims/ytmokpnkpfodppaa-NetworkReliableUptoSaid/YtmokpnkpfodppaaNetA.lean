
/-
Networks: fates, links, ticks: the walks.
-/
import Derived.Test.YtmokpnkpfodppaaHeapQ6
namespace Go.Proofs.Ytmokpnkpfodppaa
set_option linter.unusedSimpArgs false
set_option linter.unusedVariables false
open Go.RowKit

structure Fate where
  drop : Bool
  delay : Int
  again : Int
instance : Inhabited Fate := ⟨⟨false, 0, 0⟩⟩
def encFate (f : Fate) : List Value := [.bool f.drop, .int .i64 f.delay, .int .i64 f.again]
theorem encFate_len (f : Fate) : (encFate f).length = 3 := rfl
theorem encFate_one (f : Fate) : ∀ u ∈ encFate f, u.oneCell' = true := by simp [encFate, Value.oneCell']
abbrev Fates := Sl (Pl encFate) 3
theorem stFateM : SliceT Try.prog 48 47 3 24 := SliceT.mk' Try.underlying48 (z := .agg #[.bool false, .int .i64 0, .int .i64 0]) (by kernel_rfl) rfl (by omega)
theorem Sl.fate {w : World} {A : Option Addr} {n c : Nat} {l : List Fate} (h : Fates w (.slice A n c) l) {k : Nat} (hk : k < l.length) :
    ∃ b o, A = some ⟨b, o, none⟩ ∧ b < w.heap.size ∧ w.cell? ⟨b, o + k * 3, none⟩ = some (.bool l[k].drop) ∧ w.cell? ⟨b, o + k * 3 + 1, none⟩ = some (.int .i64 l[k].delay) ∧ w.cell? ⟨b, o + k * 3 + 2, none⟩ = some (.int .i64 l[k].again) := by
  obtain ⟨b, o, cs, hA, hb, hcs, hc, hr⟩ := h.at_ hk
  unfold Pl encFate at hr
  subst hr
  exact ⟨b, o, hA, hb, hc 0 _ rfl, hc 1 _ rfl, hc 2 _ rfl⟩
def validF (f : Fate) : Bool := if f.drop then decide (f.delay = 0) && decide (f.again = 0) else decide (1 ≤ f.delay) && decide (f.delay ≤ 1024) && decide (0 ≤ f.again) && decide (f.again ≤ 1024)
set_option maxHeartbeats 800000 in
theorem nValid_any (d : Bool) (y g : Int) (w : World) : Calls Try.prog 35 #[.agg #[.bool d, .int .i64 y, .int .i64 g]] w fun e w' => e = .returned (.bool (validF ⟨d, y, g⟩)) ∧ Kp w w' := by
  go_enter Try.func35, Try.ntmps35
  cases d with
  | true =>
    by_cases h1 : y = 0
    · by_cases h2 : g = 0
      · subst h1 h2
        go_wp2
        go_ret
        exact ⟨by simp [validF, *], (Kp.refl w).alloc _⟩
      · have e1 : (g == 0) = false := by simpa using h2
        subst h1
        go_wp2
        go_ret
        exact ⟨by simp [validF, *], (Kp.refl w).alloc _⟩
    · have e1 : (y == 0) = false := by simpa using h1
      go_wp2
      go_ret
      exact ⟨by simp [validF, *], (Kp.refl w).alloc _⟩
  | false =>
    by_cases h1 : 1 ≤ y
    · have e1 : decide (1 ≤ y) = true := decide_eq_true h1
      by_cases h2 : y ≤ 1024
      · have e2 : decide (y ≤ 1024) = true := decide_eq_true h2
        by_cases h3 : 0 ≤ g
        · have e3 : decide (0 ≤ g) = true := decide_eq_true h3
          by_cases h4 : g ≤ 1024
          · have e4 : decide (g ≤ 1024) = true := decide_eq_true h4
            go_wp2
            go_ret
            exact ⟨by simp [validF, *], (Kp.refl w).alloc _⟩
          · have e4 : decide (g ≤ 1024) = false := decide_eq_false h4
            go_wp2
            go_ret
            exact ⟨by simp [validF, *], (Kp.refl w).alloc _⟩
        · have e3 : decide (0 ≤ g) = false := decide_eq_false h3
          go_wp2
          go_ret
          exact ⟨by simp [validF, *], (Kp.refl w).alloc _⟩
      · have e2 : decide (y ≤ 1024) = false := decide_eq_false h2
        go_wp2
        go_ret
        exact ⟨by simp [validF, *], (Kp.refl w).alloc _⟩
    · have e1 : decide (1 ≤ y) = false := decide_eq_false h1
      go_wp2
      go_ret
      exact ⟨by simp [validF, *], (Kp.refl w).alloc _⟩
theorem nNew1_real : Real Try.prog 34 := ⟨_, Try.func34, by kernel_rfl, by kernel_rfl⟩
theorem nNew1_any (r : Fate) (w : World) : Calls Try.prog 34 #[.agg #[.bool r.drop, .int .i64 r.delay, .int .i64 r.again]] w fun e w' => e = .returned (.bool (!validF r)) ∧ Kp w w' := by
  obtain ⟨d, y, g⟩ := r
  dsimp only
  have k0 := (Kp.refl w).alloc (.cells #[.bool d, .int .i64 y, .int .i64 g] 47)
  go_enter Try.func34, Try.ntmps34
  go_wp2_with fail
  refine (nValid_any d y g _).mono ?_
  rintro e w1 ⟨rfl, k1⟩
  go_wp2
  go_ret
  exact ⟨rfl, k0.trans k1⟩
set_option maxHeartbeats 400000 in
theorem IndexFuncFate_any (p : Fate → Bool) (F : FuncId) (cap : List Value) (v : Value) (l : List Fate) (w : World) (hS : Fates w v l) (hr : Real Try.prog F)
    (hf : ∀ (w' : World) (r : Fate), Kp w w' →  Calls Try.prog F (.agg #[.bool r.drop, .int .i64 r.delay, .int .i64 r.again] :: cap).toArray w' fun e w'' => e = .returned (.bool (p r)) ∧ Kp w' w'') :
    Calls Try.prog 55 #[v, .func (.func F) #[] cap.toArray] w fun e w' => e = .returned (.int .i64 (idxF p 0 l)) ∧ Kp w w' := by
  have HC := hid hf
  clear hf
  have hcf := fun args w => hr.run args w
  obtain ⟨A, c, rfl, hc, hm⟩ := hS.form
  go_enter Try.func55, Try.ntmps55
  go_wp2
  go_loopw [8] (fun i wr => ∃ k : Nat, k ≤ l.length ∧ i = .int .i64 k ∧ Hid (idxF p 0 l = idxF p k (l.drop k)) ∧ Kp w wr) (fun i _ => l.length - (intOf i).toNat)
  case atStart => exact ⟨0, Nat.zero_le _, rfl, rfl, Kp.refl _⟩
  case round =>
    obtain ⟨k, hk, rfl, HB, hbel⟩ := hrel
    by_cases hlt : k < l.length
    · obtain ⟨b, o, rfl, hb, h1, h2, h3⟩ := (hS.keep (pl_stable _) hbel).fate hlt
      have HD := hid (List.drop_eq_getElem_cons hlt)
      generalize l[k] = r at *
      obtain r := r
      clear hS
      try dsimp only at *
      by_cases hp : p r = true
      · have HF : Hid (idxF p 0 l = k) := hid (by rw [HB.out, HD.out, idxF, if_pos hp])
        have HP := hid hp
        clear hp
        go_wp2_with fail
        refine (HC.out wr r hbel).mono ?_
        rintro e w1 ⟨rfl, hk1⟩
        have hbel1 := hbel.trans hk1
        rw [HP.out]
        go_wp2
        go_ret
        exact ⟨ret_int HF.out.symm, (by repeat (first | assumption | exact Kp.refl _ | apply Kp.alloc | apply Kp.drew | apply Kp.drewN))⟩
      · have HF : Hid (idxF p 0 l = idxF p (k + 1) (l.drop (k + 1))) := hid (by rw [HB.out, HD.out, idxF, if_neg hp])
        have HP := hid (show p r = false by simpa using hp)
        clear hp
        go_wp2_with fail
        refine (HC.out wr r hbel).mono ?_
        rintro e w1 ⟨rfl, hk1⟩
        have hbel1 := hbel.trans hk1
        rw [HP.out]
        go_wp2
        go_roundw
        case rel => exact ⟨k + 1, by omega, by go_num, HF, (by repeat (first | assumption | exact Kp.refl _ | apply Kp.alloc | apply Kp.drew | apply Kp.drewN))⟩
        case measure => simp [intOf]; omega
    · have HF : Hid (idxF p 0 l = -1) := hid (by rw [HB.out, List.drop_of_length_le (by omega)]; rfl)
      go_wp2
      go_ret
      exact ⟨ret_int HF.out.symm, (by repeat (first | assumption | exact Kp.refl _ | apply Kp.alloc | apply Kp.drew | apply Kp.drewN))⟩
set_option maxHeartbeats 400000 in
theorem ContainsFuncFate_any (p : Fate → Bool) (F : FuncId) (cap : List Value) (v : Value) (l : List Fate) (w : World) (hS : Fates w v l) (hr : Real Try.prog F)
    (hf : ∀ (w' : World) (r : Fate), Kp w w' →  Calls Try.prog F (.agg #[.bool r.drop, .int .i64 r.delay, .int .i64 r.again] :: cap).toArray w' fun e w'' => e = .returned (.bool (p r)) ∧ Kp w' w'') :
    Calls Try.prog 33 #[v, .func (.func F) #[] cap.toArray] w fun e w' => e = .returned (.bool (l.any p)) ∧ Kp w w' := by
  have HC := hid hf
  clear hf
  rw [← idxF_any p 0 l]
  generalize hi : idxF p 0 l = i
  have HI := hid hi
  clear hi
  obtain ⟨A, c, rfl, hc, hm⟩ := hS.form
  go_enter Try.func33, Try.ntmps33
  go_wp2_with fail
  refine (IndexFuncFate_any p F cap _ l _ hS hr HC.out).mono ?_
  rintro e w1 ⟨rfl, hk1⟩
  rw [HI.out]
  go_wp2
  go_ret
  exact ⟨rfl, (by repeat (first | assumption | exact Kp.refl _ | apply Kp.alloc | apply Kp.drew | apply Kp.drewN))⟩
set_option maxHeartbeats 1000000 in
theorem CloneFate_any (v : Value) (l : List Fate) (w : World) (hS : Fates w v l) (hl : l.length ≤ 1000000000) :
    Calls Try.prog 36 #[v] w fun e w' => ∃ v', e = .returned v' ∧ Own encFate 47 3 w.heap.size w' v' l ∧ Kp w w' := by
  obtain ⟨A, c, rfl, hc, hm⟩ := hS.form
  rcases A with _ | A
  · have hl0 : l = [] := by
      cases l with
      | nil => rfl
      | cons x l =>
        obtain ⟨_, _, _, hA, _⟩ := hS.at_ (k := 0) (by simp)
        cases hA
    subst hl0
    rw [List.length_nil]
    have hnil := fun (W : World) => Lib.run_eql_slice_nil (P := Try.prog) W 48 47 none 0 c 0 0 Try.underlying48
    go_enter Try.func36, Try.ntmps36
    go_wp2
    go_ret
    exact ⟨_, rfl, Own.nil _ _ _ _ _, Kp.refl _⟩
  · have hnil := fun (W : World) => Lib.run_eql_slice_nil (P := Try.prog) W 48 47 (some A) l.length c 0 0 Try.underlying48
    go_enter Try.func36, Try.ntmps36
    go_wp2_with (at_builtin; refine wpl_append_flat rfl (.tmp 5) (.tmp 6) rfl stFateM encFate_len encFate_one rfl (Own.lit (base := w.heap.size) encFate w #[] [] (Nat.le_refl _) (by simp) rfl rfl) rfl (hS.keep (pl_stable _) ((Kp.refl w).alloc _)) (by simp; omega) (by simp; omega) (by simp) ?_; intro v' w' hown hgrow hat hnil')
    go_ret
    exact ⟨_, rfl, by simpa using hown, ((Kp.refl w).alloc _).grown hgrow (fun k hk => by cases hk; exact Nat.le_refl _)⟩

def pairB (n a b : Int) : Bool := decide (0 ≤ a) && decide (a < n) && decide (0 ≤ b) && decide (b < n) && !decide (a = b)
set_option maxHeartbeats 800000 in
theorem nPair_any (nb : Nat) (n a b : Int) (w : World) (hc : w.cell? ⟨nb, 0, none⟩ = some (.int .i64 n)) : Calls Try.prog 37 #[.pointer (some ⟨nb, 0, none⟩), .int .i64 a, .int .i64 b] w fun e w' => e = .returned (.bool (pairB n a b)) ∧ w' = w := by
  go_enter Try.func37, Try.ntmps37
  by_cases h1 : 0 ≤ a
  · have e1 : decide (0 ≤ a) = true := decide_eq_true h1
    by_cases h2 : a < n
    · have e2 : decide (a < n) = true := decide_eq_true h2
      by_cases h3 : 0 ≤ b
      · have e3 : decide (0 ≤ b) = true := decide_eq_true h3
        by_cases h4 : b < n
        · have e4 : decide (b < n) = true := decide_eq_true h4
          by_cases h5 : a = b
          · have e5 : (a != b) = false := by simpa using h5
            go_wp2
            go_ret
            exact ⟨by simp [pairB, *], rfl⟩
          · have e5 : (a != b) = true := by simpa using h5
            go_wp2
            go_ret
            exact ⟨by simp [pairB, *], rfl⟩
        · have e4 : decide (b < n) = false := decide_eq_false h4
          go_wp2
          go_ret
          exact ⟨by simp [pairB, *], rfl⟩
      · have e3 : decide (0 ≤ b) = false := decide_eq_false h3
        go_wp2
        go_ret
        exact ⟨by simp [pairB, *], rfl⟩
    · have e2 : decide (a < n) = false := decide_eq_false h2
      go_wp2
      go_ret
      exact ⟨by simp [pairB, *], rfl⟩
  · have e1 : decide (0 ≤ a) = false := decide_eq_false h1
    go_wp2
    go_ret
    exact ⟨by simp [pairB, *], rfl⟩
def lateB (now t : Int) : Bool := decide (t < now) || decide (1048576 < t)
theorem nLate_any (nb : Nat) (n a : Int) (w : World) (hc : w.cell? ⟨nb, 1, none⟩ = some (.int .i64 n)) : Calls Try.prog 38 #[.pointer (some ⟨nb, 0, none⟩), .int .i64 a] w fun e w' => e = .returned (.bool (lateB n a)) ∧ w' = w := by
  go_enter Try.func38, Try.ntmps38
  by_cases h1 : a < n
  · have e1 : decide (a < n) = true := decide_eq_true h1
    go_wp2
    go_ret
    exact ⟨by simp [lateB, *], rfl⟩
  · have e1 : decide (a < n) = false := decide_eq_false h1
    by_cases h2 : 1048576 < a
    · have e2 : decide (1048576 < a) = true := decide_eq_true h2
      go_wp2
      go_ret
      exact ⟨by simp [lateB, *], rfl⟩
    · have e2 : decide (1048576 < a) = false := decide_eq_false h2
      go_wp2
      go_ret
      exact ⟨by simp [lateB, *], rfl⟩
theorem nLink_any (a b : Int) (w : World) : Calls Try.prog 52 #[.int .i64 a, .int .i64 b] w fun e w' => e = .returned (.agg #[.int .i64 (min a b), .int .i64 (max a b)]) ∧ Kp w w' := by
  rcases Int.lt_trichotomy a b with h | h | h
  · rw [Int.min_eq_left (Int.le_of_lt h), Int.max_eq_right (Int.le_of_lt h)]
    have hB := Bx.new w #[.int .i64 a, .int .i64 b] 117
    go_enter Try.func52, Try.ntmps52
    go_wp2
    refine bodyPost_ret (results_cell_bx rfl _ _ w.heap.size [.int .i64 a, .int .i64 b] _ rfl hB.range Try.underlying117 rfl (by kernel_rfl)) rfl ?_
    exact ⟨rfl, (Kp.refl w).alloc _⟩
  · subst h
    rw [Int.min_self, Int.max_self]
    have hB := Bx.new w #[.int .i64 a, .int .i64 a] 117
    go_enter Try.func52, Try.ntmps52
    go_wp2
    refine bodyPost_ret (results_cell_bx rfl _ _ w.heap.size [.int .i64 a, .int .i64 a] _ rfl hB.range Try.underlying117 rfl (by kernel_rfl)) rfl ?_
    exact ⟨rfl, (Kp.refl w).alloc _⟩
  · rw [Int.min_eq_right (Int.le_of_lt h), Int.max_eq_left (Int.le_of_lt h)]
    have hB := Bx.new w #[.int .i64 b, .int .i64 a] 117
    go_enter Try.func52, Try.ntmps52
    go_wp2
    refine bodyPost_ret (results_cell_bx rfl _ _ w.heap.size [.int .i64 b, .int .i64 a] _ rfl hB.range Try.underlying117 rfl (by kernel_rfl)) rfl ?_
    exact ⟨rfl, (Kp.refl w).alloc _⟩
end Go.Proofs.Ytmokpnkpfodppaa
