
/-
Search: facts on propagation: one step, the boxes stay fine, a closed state stays: plain.
-/
import Derived.Test.YtlbhidiliogflaaGreatSeP
import Derived.Test.YtlbhidiliogflaaGreatPA
namespace Go.Proofs.YtlbhidiliogflaaGreat
set_option linter.unusedSimpArgs false
set_option linter.unusedVariables false
open Go.RowKit

theorem boxL_of : ∀ (l : List Rng), (∀ r ∈ l, ¬ bad r) → boxL l = true
  | [], _ => rfl
  | r :: l, h => by
    rw [boxL, if_neg (h r (by simp))]
    exact boxL_of l fun x hx => h x (by simp [hx])
theorem boxB_fine {n : Nat} {box : List Rng} (h : fineBox n box) (hn : n ≤ 128) : boxB box = true := by
  unfold boxB
  rw [boxL_of box h.2.1, decide_eq_true (by rw [h.1]; exact hn)]
  rfl
theorem valid_fine {n : Nat} {box : List Rng} (h : fineBox n box) (hn : n ≤ 128) {r : Row} (hr : fitsB n r = true) : validB box [r] = true := by
  unfold validB
  rw [boxB_fine h hn]
  simp [h.1, hr]
theorem tighten_eq {n : Nat} {box : List Rng} (h : fineBox n box) (hn : n ≤ 128) {r : Row} (hr : fitsB n r = true) (j : Nat) (hj : j < n) : tightenB r box j = tightR r box j := by
  unfold tightenB
  rw [if_pos ⟨valid_fine h hn hr, by omega, by rw [h.1]; omega⟩]
theorem row_fine {n : Nat} {box : List Rng} (h : fineBox n box) (hn : n ≤ 128) {r : Row} (hr : fitsB n r = true) (j : Nat) (hj : j < n) (he : emptyR (tightenB r box j) = false) : fineBox n (box.set j (tightenB r box j)) := by
  rw [tighten_eq h hn hr j hj] at he ⊢
  obtain ⟨h1, h2, h3⟩ := tight_sub r box j he
  exact fineBox_set h hj h1 h2 h3
theorem cut_sub (g : Gr) (box : List Rng) (k : Nat) : (cutG g box k).lo = (pick box (g.first + (k : Int))).lo ∧ (cutG g box k).hi ≤ (pick box (g.first + (k : Int))).hi := by
  unfold cutG
  split
  · rename_i h
    exact ⟨rfl, by dsimp only; omega⟩
  · exact ⟨rfl, Int.le_refl _⟩
theorem cut_fine {n : Nat} {box : List Rng} (h : fineBox n box) {g : Gr} (k f : Nat) (hf : g.first = (f : Int)) (hk : f + k < n) (he : emptyR (cutG g box k) = false) : fineBox n (box.set (f + k) (cutG g box k)) := by
  obtain ⟨h1, h2⟩ := cut_sub g box k
  have e : g.first + (k : Int) = ((f + k : Nat) : Int) := by rw [hf]; push_cast; rfl
  rw [e] at h1 h2
  exact fineBox_set h hk (by omega) (by unfold emptyR at he; simpa using he) h2
/-- a step -/
def stepX (B : Nat) (x : PX) (kd ix c : Int) (r : Rng) : PX := if x.opn then (if sameR r (pick x.box c) then x else noteX B x kd ix c r) else x
theorem doT_row (B : Nat) (x : PX) (i : Nat) (r : Row) (c : Int) : doT B x (.row i r c) = stepX B x 0 i c (tightenB r x.box c) := rfl
theorem doT_gr (B : Nat) (x : PX) (i : Nat) (g : Gr) (k : Nat) : doT B x (.gr i g k) = stepX B x 1 i (g.first + (k : Int)) (cutG g x.box k) := rfl
section
variable {B : Nat} {ss : List Stp} {box : List Rng} {kd ix c : Int} {r : Rng} {l : List Tsk}
theorem step_same (h : sameR r (pick box c) = true) : stepX B ⟨ss, box, true, true⟩ kd ix c r = ⟨ss, box, true, true⟩ := by simp [stepX, h]
theorem step_out (h : sameR r (pick box c) = false) (hb : B ≤ ss.length) : stepX B ⟨ss, box, true, true⟩ kd ix c r = ⟨ss, box, false, false⟩ := by simp [stepX, h, noteX, hb]
theorem step_end (h : sameR r (pick box c) = false) (hb : ¬ B ≤ ss.length) (he : emptyR r = true) : stepX B ⟨ss, box, true, true⟩ kd ix c r = ⟨ss ++ [⟨kd, ix, c⟩], box, false, true⟩ := by
  have : r.hi < r.lo := by unfold emptyR at he; simpa using he
  simp [stepX, h, noteX, hb, this]
theorem step_on (h : sameR r (pick box c) = false) (hb : ¬ B ≤ ss.length) (he : emptyR r = false) (hc : 0 ≤ c) : stepX B ⟨ss, box, true, true⟩ kd ix c r = ⟨ss ++ [⟨kd, ix, c⟩], box.set c.toNat r, true, true⟩ := by
  have h1 : ¬ r.hi < r.lo := by unfold emptyR at he; simpa using he
  have h2 : ¬ c < 0 := by omega
  simp [stepX, h, noteX, hb, h1, h2]
theorem dead_out (i : Nat) (hb : B ≤ ss.length) : doT B ⟨ss, box, true, true⟩ (.dead i) = ⟨ss, box, false, false⟩ := by simp [doT, noteX, hb]
theorem dead_on (i : Nat) (hb : ¬ B ≤ ss.length) : doT B ⟨ss, box, true, true⟩ (.dead i) = ⟨ss ++ [⟨0, (i : Int), -1⟩], box, false, true⟩ := by simp [doT, noteX, hb]
theorem doT_shut {x : PX} (h : x.opn = false) (t : Tsk) : doT B x t = x := by cases t <;> simp [doT, h]
theorem runT_shut {x : PX} (h : x.opn = false) : ∀ l : List Tsk, runT B x l = x
  | [] => rfl
  | t :: l => by
    unfold runT
    rw [List.foldl_cons, doT_shut h]
    exact runT_shut h l
theorem runT_cons (x : PX) (t : Tsk) (l : List Tsk) : runT B x (t :: l) = runT B (doT B x t) l := rfl
theorem runT_append (x : PX) (l m : List Tsk) : runT B x (l ++ m) = runT B (runT B x l) m := by simp [runT, List.foldl_append]
end
theorem noteX_len (B : Nat) (x : PX) (kd ix c : Int) (r : Rng) : x.steps.length ≤ (noteX B x kd ix c r).steps.length ∧ ((noteX B x kd ix c r).fine = false → x.fine = true → (noteX B x kd ix c r).opn = false) := by
  unfold noteX
  split
  · simp
  · split
    · simp
    · refine ⟨by simp, fun h1 h2 => ?_⟩
      dsimp only at h1 ⊢
      rw [h1] at h2
      cases h2
theorem doT_len (B : Nat) (x : PX) (t : Tsk) : x.steps.length ≤ (doT B x t).steps.length ∧ ((doT B x t).fine = false → x.fine = true → (doT B x t).opn = false) := by
  have h0 : x.steps.length ≤ x.steps.length ∧ (x.fine = false → x.fine = true → x.opn = false) := ⟨Nat.le_refl _, fun h1 h2 => by rw [h1] at h2; cases h2⟩
  cases t with
  | dead i =>
    rw [show doT B x (.dead i) = if x.opn then noteX B x 0 i (-1) ⟨0, 0⟩ else x from rfl]
    split
    · exact noteX_len ..
    · exact h0
  | row i r c =>
    rw [doT_row]
    unfold stepX
    split
    · split
      · exact h0
      · exact noteX_len ..
    · exact h0
  | gr i g k =>
    rw [doT_gr]
    unfold stepX
    split
    · split
      · exact h0
      · exact noteX_len ..
    · exact h0
theorem runT_len (B : Nat) : ∀ (l : List Tsk) (x : PX), x.steps.length ≤ (runT B x l).steps.length ∧ ((runT B x l).fine = false → x.fine = true → (runT B x l).opn = false)
  | [], x => ⟨Nat.le_refl _, fun h1 h2 => by rw [show (runT B x []) = x from rfl, h2] at h1; cases h1⟩
  | t :: l, x => by
    rw [runT_cons]
    obtain ⟨h1, h2⟩ := runT_len B l (doT B x t)
    obtain ⟨h3, h4⟩ := doT_len B x t
    refine ⟨Nat.le_trans h3 h1, fun h5 h6 => ?_⟩
    cases hf : (doT B x t).fine with
    | true => exact h2 h5 hf
    | false =>
      have h7 := h4 hf h6
      rw [runT_shut h7]
      exact h7
theorem runX_stop {B N : Nat} {rows : List Row} {grs : List Gr} {x y : PX} (h : runT B x (tasks rows grs) = y) (hs : y.opn = false ∨ y.steps.length = x.steps.length) : runX B rows grs (N + 1) x = y := by
  rw [runX, h, if_neg]
  rw [Bool.and_eq_true, Bool.not_eq_true', decide_eq_false_iff_not]
  intro h2
  rcases hs with e | e
  · rw [e] at h2
    exact absurd h2.1 (by decide)
  · exact h2.2 e
theorem runX_go {B N : Nat} {rows : List Row} {grs : List Gr} {x y : PX} (h : runT B x (tasks rows grs) = y) (h1 : y.opn = true) (h2 : y.steps.length ≠ x.steps.length) : runX B rows grs (N + 1) x = runX B rows grs N y := by
  rw [runX, h, if_pos]
  rw [Bool.and_eq_true, Bool.not_eq_true', decide_eq_false_iff_not]
  exact ⟨h1, h2⟩
/-! what is left to ask -/
theorem rowsT_drop {rows : List Row} {i : Nat} (h : i < rows.length) : rowsT i (rows.drop i) = rowT i rows[i] ++ rowsT (i + 1) (rows.drop (i + 1)) := by
  rw [List.drop_eq_getElem_cons h]
  rfl
theorem rowT_dead {i : Nat} {r : Row} (h : r.terms = []) (hb : r.bound < 0) : rowT i r = [.dead i] := by simp [rowT, h, hb]
theorem rowT_live {i : Nat} {r : Row} (h : ¬ (r.terms = [] ∧ r.bound < 0)) : rowT i r = r.terms.map fun t => .row i r t.cell := by
  unfold rowT
  rw [if_neg]
  · rfl
  · intro e
    rw [Bool.and_eq_true, List.isEmpty_iff, decide_eq_true_eq] at e
    exact h e
theorem rowTs_drop {i : Nat} {r : Row} {ts : List Term} {k : Nat} (h : k < ts.length) : (ts.drop k).map (fun t => Tsk.row i r t.cell) = .row i r ts[k].cell :: (ts.drop (k + 1)).map (fun t => Tsk.row i r t.cell) := by
  rw [List.drop_eq_getElem_cons h]
  rfl
theorem grsT_drop {grs : List Gr} {i : Nat} (h : i < grs.length) : grsT i (grs.drop i) = grT i grs[i] ++ grsT (i + 1) (grs.drop (i + 1)) := by
  rw [List.drop_eq_getElem_cons h]
  rfl
theorem grTs_drop {i : Nat} {g : Gr} {n k : Nat} (h : k < n) : ((List.range n).drop k).map (Tsk.gr i g) = .gr i g k :: ((List.range n).drop (k + 1)).map (Tsk.gr i g) := by
  rw [List.drop_eq_getElem_cons (by simpa using h)]
  simp
end Go.Proofs.YtlbhidiliogflaaGreat
