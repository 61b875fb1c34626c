
/-
The reference's network: its state, fates and links: the walks.
-/
import Derived.Test.YtmokpnkpfodppaaNetL
namespace Go.Proofs.Ytmokpnkpfodppaa
set_option linter.unusedSimpArgs false
set_option linter.unusedVariables false
open Go.RowKit

/-- a copy in flight -/
structure Cpy where
  due : Int
  num : Int
  m : Message
instance : Inhabited Cpy := ⟨⟨0, 0, zM⟩⟩
def rdCpy : Rd Cpy := fun w cs x => ∃ ms : List Value, cs = [.int .i64 x.due, .int .i64 x.num] ++ ms ∧ rdMsg w ms x.m
theorem rdCpy_stable : Stable rdCpy := fun _ _ _ _ k ⟨ms, e, h⟩ => ⟨ms, e, rdMsg_stable _ _ _ _ k h⟩
theorem rdCpy_one {w : World} {cs : List Value} {x : Cpy} (h : rdCpy w cs x) : cs.length = 20 ∧ ∀ u ∈ cs, u.oneCell' = true := by
  obtain ⟨ms, rfl, h⟩ := h
  obtain ⟨h1, h2⟩ := rdMsg_one h
  refine ⟨by simp [h1], fun u hu => ?_⟩
  rcases List.mem_append.1 hu with hu | hu
  · simp only [List.mem_cons, List.not_mem_nil, or_false] at hu
    rcases hu with rfl | rfl <;> rfl
  · exact h2 u hu
abbrev Cpys := Sl rdCpy 20
def encP2 (p : Int × Int) : List Value := [.int .i64 p.1, .int .i64 p.2]
theorem encP2_len (p : Int × Int) : (encP2 p).length = 2 := rfl
theorem encP2_one (p : Int × Int) : ∀ u ∈ encP2 p, u.oneCell' = true := by simp [encP2, Value.oneCell']
abbrev Cuts2 := Sl (Pl encP2) 2
theorem stP2M : SliceT Try.prog 64 117 2 16 := SliceT.mk' Try.underlying64 (z := .agg #[.int .i64 0, .int .i64 0]) (by kernel_rfl) rfl (by omega)
/-- the reference's state -/
structure RSt where
  reps : Int
  tick : Int
  fates : List Fate
  flight : List Cpy
  cuts : List (Int × Int)
  sent : Int
  delivered : Int
  lost : Int
  made : Int
def StV (w : World) (v : Value) (s : RSt) : Prop := ∃ vf vl vc, v = .agg #[.int .i64 s.reps, .int .i64 s.tick, vf, vl, vc, .int .i64 s.sent, .int .i64 s.delivered, .int .i64 s.lost, .int .i64 s.made] ∧ Fates w vf s.fates ∧ Cpys w vl s.flight ∧ Cuts2 w vc s.cuts
theorem StV.kp {w w' : World} {v : Value} {s : RSt} (h : StV w v s) (k : Kp w w') : StV w' v s := by
  obtain ⟨vf, vl, vc, e, h1, h2, h3⟩ := h
  exact ⟨vf, vl, vc, e, h1.keep (pl_stable _) k, h2.keep rdCpy_stable k, h3.keep (pl_stable _) k⟩
set_option maxHeartbeats 800000 in
theorem qValidFate_any (d : Bool) (y g : Int) (w : World) : Calls Try.prog 47 #[.agg #[.bool d, .int .i64 y, .int .i64 g]] w fun e w' => e = .returned (.bool (validF ⟨d, y, g⟩)) ∧ Kp w w' := by
  go_enter Try.func47, Try.ntmps47
  cases d with
  | true =>
    by_cases h1 : y = 0
    · by_cases h2 : g = 0
      · subst h1 h2
        go_wp2
        go_ret
        exact ⟨by simp [validF, *], (Kp.refl w).alloc _⟩
      · have e1 : (g == 0) = false := by simpa using h2
        subst h1
        go_wp2
        go_ret
        exact ⟨by simp [validF, *], (Kp.refl w).alloc _⟩
    · have e1 : (y == 0) = false := by simpa using h1
      go_wp2
      go_ret
      exact ⟨by simp [validF, *], (Kp.refl w).alloc _⟩
  | false =>
    by_cases h1 : 1 ≤ y
    · have e1 : decide (1 ≤ y) = true := decide_eq_true h1
      by_cases h2 : y ≤ 1024
      · have e2 : decide (y ≤ 1024) = true := decide_eq_true h2
        by_cases h3 : 0 ≤ g
        · have e3 : decide (0 ≤ g) = true := decide_eq_true h3
          by_cases h4 : g ≤ 1024
          · have e4 : decide (g ≤ 1024) = true := decide_eq_true h4
            go_wp2
            go_ret
            exact ⟨by simp [validF, *], (Kp.refl w).alloc _⟩
          · have e4 : decide (g ≤ 1024) = false := decide_eq_false h4
            go_wp2
            go_ret
            exact ⟨by simp [validF, *], (Kp.refl w).alloc _⟩
        · have e3 : decide (0 ≤ g) = false := decide_eq_false h3
          go_wp2
          go_ret
          exact ⟨by simp [validF, *], (Kp.refl w).alloc _⟩
      · have e2 : decide (y ≤ 1024) = false := decide_eq_false h2
        go_wp2
        go_ret
        exact ⟨by simp [validF, *], (Kp.refl w).alloc _⟩
    · have e1 : decide (1 ≤ y) = false := decide_eq_false h1
      go_wp2
      go_ret
      exact ⟨by simp [validF, *], (Kp.refl w).alloc _⟩
set_option maxRecDepth 8000 in
set_option maxHeartbeats 1600000 in
theorem qEnds_any (vs : Value) (s : RSt) (a b : Int) (w : World) (hs : StV w vs s) : Calls Try.prog 53 #[vs, .int .i64 a, .int .i64 b] w fun e w' => e = .returned (.bool (pairB s.reps a b)) ∧ Kp w w' := by
  obtain ⟨vf, vl, vc, rfl, hF, hL, hC⟩ := hs
  obtain ⟨Af, cf, rfl, hcf, hmf⟩ := hF.form
  obtain ⟨Al, cl, rfl, hcl, hml⟩ := hL.form
  obtain ⟨Ac, cc, rfl, hcc, hmc⟩ := hC.form
  clear hF hL hC
  go_enter Try.func53, Try.ntmps53
  by_cases h1 : 0 ≤ a
  · have e1 : decide (0 ≤ a) = true := decide_eq_true h1
    by_cases h2 : a < s.reps
    · have e2 : decide (a < s.reps) = true := decide_eq_true h2
      by_cases h3 : 0 ≤ b
      · have e3 : decide (0 ≤ b) = true := decide_eq_true h3
        by_cases h4 : b < s.reps
        · have e4 : decide (b < s.reps) = true := decide_eq_true h4
          by_cases h5 : a = b
          · have e5 : (a != b) = false := by simpa using h5
            go_wp2
            go_ret
            exact ⟨by simp [pairB, *], (Kp.refl w).alloc _⟩
          · have e5 : (a != b) = true := by simpa using h5
            go_wp2
            go_ret
            exact ⟨by simp [pairB, *], (Kp.refl w).alloc _⟩
        · have e4 : decide (b < s.reps) = false := decide_eq_false h4
          go_wp2
          go_ret
          exact ⟨by simp [pairB, *], (Kp.refl w).alloc _⟩
      · have e3 : decide (0 ≤ b) = false := decide_eq_false h3
        go_wp2
        go_ret
        exact ⟨by simp [pairB, *], (Kp.refl w).alloc _⟩
    · have e2 : decide (a < s.reps) = false := decide_eq_false h2
      go_wp2
      go_ret
      exact ⟨by simp [pairB, *], (Kp.refl w).alloc _⟩
  · have e1 : decide (0 ≤ a) = false := decide_eq_false h1
    go_wp2
    go_ret
    exact ⟨by simp [pairB, *], (Kp.refl w).alloc _⟩
theorem qPairR_any (a b : Int) (w : World) : Calls Try.prog 54 #[.int .i64 a, .int .i64 b] w fun e w' => e = .returned (pairV (min a b) (max a b)) ∧ Kp w w' := by
  rcases Int.lt_trichotomy a b with h | h | h
  · rw [Int.min_eq_left (Int.le_of_lt h), Int.max_eq_right (Int.le_of_lt h)]
    have hB := Bx.new w #[.int .i64 a, .int .i64 b] 117
    go_enter Try.func54, Try.ntmps54
    go_wp2
    refine bodyPost_ret (results_cell_bx rfl _ _ w.heap.size [.int .i64 a, .int .i64 b] _ rfl hB.range Try.underlying117 rfl (by kernel_rfl)) rfl ?_
    exact ⟨rfl, (Kp.refl w).alloc _⟩
  · subst h
    rw [Int.min_self, Int.max_self]
    have hB := Bx.new w #[.int .i64 a, .int .i64 a] 117
    go_enter Try.func54, Try.ntmps54
    go_wp2
    refine bodyPost_ret (results_cell_bx rfl _ _ w.heap.size [.int .i64 a, .int .i64 a] _ rfl hB.range Try.underlying117 rfl (by kernel_rfl)) rfl ?_
    exact ⟨rfl, (Kp.refl w).alloc _⟩
  · rw [Int.min_eq_right (Int.le_of_lt h), Int.max_eq_left (Int.le_of_lt h)]
    have hB := Bx.new w #[.int .i64 b, .int .i64 a] 117
    go_enter Try.func54, Try.ntmps54
    go_wp2
    refine bodyPost_ret (results_cell_bx rfl _ _ w.heap.size [.int .i64 b, .int .i64 a] _ rfl hB.range Try.underlying117 rfl (by kernel_rfl)) rfl ?_
    exact ⟨rfl, (Kp.refl w).alloc _⟩
/-- a state whose slices lie in blocks of T and whose elements lead to what lay in wE already -/
def StX (wE : World) (T : Nat → Prop) (w : World) (v : Value) (s : RSt) : Prop := ∃ vf vl vc, ∃ css : List (Elm 20), v = .agg #[.int .i64 s.reps, .int .i64 s.tick, vf, vl, vc, .int .i64 s.sent, .int .i64 s.delivered, .int .i64 s.lost, .int .i64 s.made] ∧ Fates wE vf s.fates ∧
  css.length = s.flight.length ∧ (∀ k (h1 : k < css.length) (h2 : k < s.flight.length), rdCpy wE css[k].val s.flight[k]) ∧ OwS T w (fun w' => Sl (Pl encC) 20 w' vl css) ∧ OwS T w (fun w' => Cuts2 w' vc s.cuts)
theorem StX.stv {wE w : World} {T : Nat → Prop} {v : Value} {s : RSt} (h : StX wE T w v s) (k : Kp wE w) : StV w v s := by
  obtain ⟨vf, vl, vc, css, e, h1, h2, h3, h4, h5⟩ := h
  exact ⟨vf, vl, vc, e, h1.keep (pl_stable _) k, sl_of h4.here h2 fun i i1 i2 => rdCpy_stable _ _ _ _ k (h3 i i1 i2), h5.here⟩
theorem StX.kp {wE w w' : World} {T : Nat → Prop} {v : Value} {s : RSt} (h : StX wE T w v s) (k : Kp w w') : StX wE T w' v s := by
  obtain ⟨vf, vl, vc, css, e, h1, h2, h3, h4, h5⟩ := h
  exact ⟨vf, vl, vc, css, e, h1, h2, h3, h4.kp k, h5.kp k⟩
theorem StX.mono {wE w : World} {T U : Nat → Prop} {v : Value} {s : RSt} (h : StX wE T w v s) (hu : ∀ k, T k → U k) : StX wE U w v s := by
  obtain ⟨vf, vl, vc, css, e, h1, h2, h3, h4, h5⟩ := h
  exact ⟨vf, vl, vc, css, e, h1, h2, h3, h4.mono hu, h5.mono hu⟩
theorem StX.step {wE w w' : World} {T : Nat → Prop} {v : Value} {s : RSt} (h : StX wE T w v s) (k1 : w.heap.size ≤ w'.heap.size) (k2 : ∀ k, T k → k < w.heap.size → w'.heap[k]? = w.heap[k]?) : StX wE T w' v s := by
  obtain ⟨vf, vl, vc, css, e, h1, h2, h3, h4, h5⟩ := h
  exact ⟨vf, vl, vc, css, e, h1, h2, h3, h4.step k1 k2, h5.step k1 k2⟩
theorem OwS.fit {S : Nat → Prop} {w : World} {R : World → Prop} (h : OwS S w R) : OwS (fun q => S q ∧ q < w.heap.size) w R := fun w' h1 h2 => h w' h1 fun k hk hlt => h2 k ⟨hk, hlt⟩ hlt
theorem StX.fit {wE w : World} {T : Nat → Prop} {v : Value} {s : RSt} (h : StX wE T w v s) : StX wE (fun q => T q ∧ q < w.heap.size) w v s := by
  obtain ⟨vf, vl, vc, css, e, h1, h2, h3, h4, h5⟩ := h
  exact ⟨vf, vl, vc, css, e, h1, h2, h3, h4.fit, h5.fit⟩
/-- messages of a row of the call's own -/
def MsX (wE : World) (T : Nat → Prop) (w : World) (v : Value) (xs : List Message) : Prop := ∃ css : List (Elm 18), OwS T w (fun w' => Sl (Pl encC) 18 w' v css) ∧ css.length = xs.length ∧ ∀ k (h1 : k < css.length) (h2 : k < xs.length), rdMsg wE css[k].val xs[k]
theorem MsX.msgs {wE w : World} {T : Nat → Prop} {v : Value} {xs : List Message} (h : MsX wE T w v xs) (k : Kp wE w) : Msgs w v xs := by
  obtain ⟨css, h1, h2, h3⟩ := h
  exact sl_of h1.here h2 fun i i1 i2 => rdMsg_stable _ _ _ _ k (h3 i i1 i2)
theorem MsX.kp {wE w w' : World} {T : Nat → Prop} {v : Value} {xs : List Message} (h : MsX wE T w v xs) (k : Kp w w') : MsX wE T w' v xs := by
  obtain ⟨css, h1, h2, h3⟩ := h
  exact ⟨css, h1.kp k, h2, h3⟩
theorem MsX.step {wE w w' : World} {T : Nat → Prop} {v : Value} {xs : List Message} (h : MsX wE T w v xs) (k1 : w.heap.size ≤ w'.heap.size) (k2 : ∀ k, T k → k < w.heap.size → w'.heap[k]? = w.heap[k]?) : MsX wE T w' v xs := by
  obtain ⟨css, h1, h2, h3⟩ := h
  exact ⟨css, h1.step k1 k2, h2, h3⟩
theorem MsX.mono {wE w : World} {T U : Nat → Prop} {v : Value} {xs : List Message} (h : MsX wE T w v xs) (hu : ∀ k, T k → U k) : MsX wE U w v xs := by
  obtain ⟨css, h1, h2, h3⟩ := h
  exact ⟨css, h1.mono hu, h2, h3⟩
theorem MsX.nil (wE w : World) (T : Nat → Prop) : MsX wE T w (.slice none 0 0) [] := ⟨[], fun w' _ _ => Sl.nil _ _ _, rfl, fun k h1 _ => absurd h1 (by simp)⟩
end Go.Proofs.Ytmokpnkpfodppaa
