
/-
What delivering does to a network: plain facts; lists of results that lie apart.
-/
import Derived.Test.YtmokpnkpfodppaaNetS
namespace Go.Proofs.Ytmokpnkpfodppaa
set_option linter.unusedSimpArgs false
set_option linter.unusedVariables false
open Go.RowKit

def dueL (t : Int) (S : List Par) : List Par := S.takeWhile fun p => decide (p.due ≤ t)
def lkP (N : Net) (p : Par) : Bool := linkedB N.reps N.cuts p.frm p.dst
def msgOf (p : Par) : Message := (readE messageP p.data).1.getD zM
def delK (N : Net) (t : Int) (k : Nat) : Net :=
  { N with tick := t, fly := N.fly.drop k, delivered := N.delivered + ((N.fly.take k).filter (lkP N)).length, lost := N.lost + ((N.fly.take k).filter fun p => !lkP N p).length }
def outK (N : Net) (k : Nat) : List Message := ((N.fly.take k).filter (lkP N)).map msgOf
def deliverN (N : Net) (t : Int) : Net × List Message × Int :=
  if lateB N.tick t then (N, [], 2) else (delK N t (dueL t N.fly).length, outK N (dueL t N.fly).length, 0)
theorem delK_zero (N : Net) (t : Int) : delK N t 0 = { N with tick := t } := by simp [delK]
theorem outK_zero (N : Net) : outK N 0 = [] := rfl
def popK (N : Net) (t : Int) (k : Nat) : Net := { delK N t k with fly := N.fly.drop (k + 1) }
theorem delK_del {N : Net} {t : Int} {k : Nat} {p : Par} (h : N.fly[k]? = some p) (hl : lkP N p = true) : delK N t (k + 1) = { popK N t k with delivered := (delK N t k).delivered + 1 } ∧ outK N (k + 1) = outK N k ++ [msgOf p] := by
  obtain ⟨hk, e⟩ := List.getElem?_eq_some_iff.1 h
  unfold delK outK popK delK
  rw [List.take_succ_eq_append_getElem hk, e, List.filter_append, List.filter_append]
  simp [hl]
  omega
theorem delK_lost {N : Net} {t : Int} {k : Nat} {p : Par} (h : N.fly[k]? = some p) (hl : lkP N p = false) : delK N t (k + 1) = { popK N t k with lost := (delK N t k).lost + 1 } ∧ outK N (k + 1) = outK N k := by
  obtain ⟨hk, e⟩ := List.getElem?_eq_some_iff.1 h
  unfold delK outK popK delK
  rw [List.take_succ_eq_append_getElem hk, e, List.filter_append, List.filter_append]
  simp [hl]
  omega
theorem due_cases (t : Int) : ∀ (S : List Par) (k : Nat), k ≤ (dueL t S).length →
    (k < (dueL t S).length → ∃ p, S[k]? = some p ∧ S.drop k = p :: S.drop (k + 1) ∧ p.due ≤ t) ∧ (k = (dueL t S).length → S.drop k = [] ∨ ∃ p S', S.drop k = p :: S' ∧ t < p.due)
  | [], k, h => by
    simp only [dueL, List.takeWhile_nil, List.length_nil] at h
    exact ⟨fun h1 => by simp [dueL] at h1, fun _ => .inl (by simp)⟩
  | p :: S, k, h => by
    have ih := due_cases t S
    unfold dueL at h ih ⊢
    by_cases hp : p.due ≤ t
    · rw [List.takeWhile_cons_of_pos (by simpa using hp), List.length_cons] at h ⊢
      cases k with
      | zero => exact ⟨fun _ => ⟨p, rfl, rfl, hp⟩, fun h => by omega⟩
      | succ k =>
        obtain ⟨h1, h2⟩ := ih k (by omega)
        refine ⟨fun hk => ?_, fun hk => ?_⟩
        · obtain ⟨q, q1, q2, q3⟩ := h1 (by omega)
          exact ⟨q, by simpa using q1, by simpa using q2, q3⟩
        · simpa using h2 (by omega)
    · rw [List.takeWhile_cons_of_neg (by simpa using hp), List.length_nil] at h ⊢
      obtain rfl : k = 0 := by omega
      exact ⟨fun h => by omega, fun _ => .inr ⟨p, S, rfl, by omega⟩⟩
theorem dueL_len (t : Int) (S : List Par) : (dueL t S).length ≤ S.length := by
  unfold dueL
  exact (List.takeWhile_sublist _).length_le
theorem dueL_take (t : Int) (S : List Par) : S.take (dueL t S).length = dueL t S := by
  unfold dueL
  exact (List.prefix_iff_eq_take.1 (List.takeWhile_prefix _)).symm
theorem OkN.delK {N : Net} (h : OkN N) {t : Int} (ht : 0 ≤ t ∧ t ≤ 1048576) (k : Nat) : OkN (delK N t k) := by
  refine ⟨fun q hq => h.nums q (List.mem_of_mem_drop hq), ?_, h.fv, h.flen, ht, h.pos.1, h.pos.2.1, ?_, ?_⟩
  · have := h.len
    show (N.fly.drop k).length ≤ 1024
    simp
    omega
  · have := h.pos.2.2.1
    show 0 ≤ N.delivered + _
    omega
  · have := h.pos.2.2.2
    show 0 ≤ N.lost + _
    omega
theorem OkN.popK {N : Net} (h : OkN N) {t : Int} (ht : 0 ≤ t ∧ t ≤ 1048576) (k : Nat) : OkN (popK N t k) := by
  have h1 := h.delK ht k
  refine ⟨fun q hq => h.nums q (List.mem_of_mem_drop hq), ?_, h.fv, h.flen, ht, h1.pos⟩
  have := h.len
  show (N.fly.drop (k + 1)).length ≤ 1024
  simp
  omega
theorem delK_bounds {N : Net} (h : Few N) (hl : N.fly.length ≤ 1024) (t : Int) (k : Nat) : (delK N t k).delivered ≤ 1001024 ∧ (delK N t k).lost ≤ 1001024 := by
  have h1 : ((N.fly.take k).filter (lkP N)).length ≤ 1024 := Nat.le_trans (List.length_filter_le _ _) (by simp; omega)
  have h2 : ((N.fly.take k).filter fun p => !lkP N p).length ≤ 1024 := Nat.le_trans (List.length_filter_le _ _) (by simp; omega)
  have h3 := h.2.2.1
  have h4 := h.2.2.2
  constructor
  · show N.delivered + _ ≤ _
    omega
  · show N.lost + _ ≤ _
    omega

/-! results that lie apart -/
def EmX {α : Type} {size : Nat} (R : Rd α) (base top : Nat) (w : World) (s : Option Nat) (css : List (Elm size)) (xs : List α) : Prop :=
  css.length = xs.length ∧ base ≤ top ∧ top ≤ w.heap.size ∧ ∃ bs ts : Nat → Nat, (∀ j k, j < k → k < css.length → ts j ≤ bs k) ∧
    ∀ k (h1 : k < css.length) (h2 : k < xs.length), base ≤ bs k ∧ ts k ≤ top ∧ (∀ q, s = some q → q < bs k ∨ ts k ≤ q) ∧ Ow (bs k) (ts k) w fun w' => R w' css[k].val xs[k]
section
variable {α : Type} {size : Nat} {R : Rd α} {base top g : Nat} {w w' : World} {s s' : Option Nat} {css : List (Elm size)} {xs : List α}
theorem EmX.nil (R : Rd α) (size base : Nat) (w : World) (s : Option Nat) (hb : base ≤ w.heap.size) : EmX (size := size) R base base w s [] [] :=
  ⟨rfl, Nat.le_refl _, hb, fun _ => 0, fun _ => 0, fun _ _ _ h => absurd h (by simp), fun k h1 _ => absurd h1 (by simp)⟩
theorem EmX.step (h : EmX R base top w s css xs) (hs : w.heap.size ≤ w'.heap.size) (hb : ∀ i, base ≤ i → i < top → s ≠ some i → w'.heap[i]? = w.heap[i]?) : EmX R base top w' s css xs := by
  obtain ⟨h1, h2, h3, bs, ts, h4, h5⟩ := h
  refine ⟨h1, h2, Nat.le_trans h3 hs, bs, ts, h4, fun k k1 k2 => ?_⟩
  obtain ⟨a1, a2, a3, a4⟩ := h5 k k1 k2
  refine ⟨a1, a2, a3, a4.step hs fun i i1 i2 => hb i (by omega) (by omega) fun e => ?_⟩
  rcases a3 i e with h | h <;> omega
theorem EmX.grow (h : EmX R base top w s css xs) (hk : w.grownBy w' s) (hs' : s' = s ∨ s' = some w.heap.size) : EmX R base top w' s' css xs := by
  have h0 := h.step (w' := w') hk.size fun i _ hi hn => hk.block i (Nat.lt_of_lt_of_le hi h.2.2.1) (fun e => hn e.symm)
  obtain ⟨h1, h2, h3, bs, ts, h4, h5⟩ := h0
  refine ⟨h1, h2, h3, bs, ts, h4, fun k k1 k2 => ?_⟩
  obtain ⟨a1, a2, a3, a4⟩ := h5 k k1 k2
  refine ⟨a1, a2, fun q hq => ?_, a4⟩
  rcases hs' with e | e
  · exact a3 q (e ▸ hq)
  · rw [e] at hq
    injection hq with hq
    have := h.2.2.1
    right
    omega
theorem EmX.snoc (h : EmX R base top w s css xs) (c : Elm size) (x : α) {b t : Nat} (hb : top ≤ b) (hbt : b ≤ t) (ht : t ≤ w.heap.size) (hs : ∀ q, s = some q → q < b ∨ t ≤ q) (ho : Ow b t w fun w' => R w' c.val x) : EmX R base t w s (css ++ [c]) (xs ++ [x]) := by
  obtain ⟨h1, h2, h3, bs, ts, h4, h5⟩ := h
  refine ⟨by simp [h1], by omega, ht, fun k => if k < css.length then bs k else b, fun k => if k < css.length then ts k else t, fun j k hjk hk => ?_, fun k k1 k2 => ?_⟩
  · rw [List.length_append, List.length_singleton] at hk
    have hj : j < css.length := by omega
    show (if j < css.length then ts j else t) ≤ if k < css.length then bs k else b
    rw [if_pos hj]
    by_cases hk2 : k < css.length
    · rw [if_pos hk2]
      exact h4 j k hjk hk2
    · rw [if_neg hk2]
      have := (h5 j hj (by omega)).2.1
      omega
  · by_cases hk : k < css.length
    · simp only [if_pos hk]
      rw [List.getElem_append_left hk, List.getElem_append_left (by omega)]
      obtain ⟨a1, a2, a3, a4⟩ := h5 k hk (by omega)
      exact ⟨a1, by omega, a3, a4⟩
    · have e1 : k = css.length := by simp at k1; omega
      subst e1
      simp only [if_neg hk]
      have e2 : (css ++ [c])[css.length] = c := by simp
      have e3 : (xs ++ [x])[css.length]'k2 = x := by simp [h1]
      rw [e2, e3]
      exact ⟨by omega, Nat.le_refl _, hs, ho⟩
theorem EmX.fin {e : Nat} {v : Value} (h : EmX R base top w v.ownBlock css xs) (own : Own encC e size base w v css) : Ow base w.heap.size w fun w' => Sl R size w' v xs := by
  intro w' h1 h2
  obtain ⟨a1, -, a3, bs, ts, -, a5⟩ := h
  refine sl_of ((own.ow w' h1 h2).sl encC_len) a1 fun k h3 h4 => ?_
  obtain ⟨hb, ht, hs, ho⟩ := a5 k h3 h4
  exact ho w' h1 fun i hi1 hi2 => h2 i (by omega) (by omega)
end
end Go.Proofs.Ytmokpnkpfodppaa
