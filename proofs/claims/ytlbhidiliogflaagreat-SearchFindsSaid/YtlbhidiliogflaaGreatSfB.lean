
/-
Search: the cost of an answer is a sufficient budget, and no smaller one is: plain.
-/
import Derived.Test.YtlbhidiliogflaaGreatSeQ
import Derived.Test.YtlbhidiliogflaaGreatSeJ
namespace Go.Proofs.YtlbhidiliogflaaGreat
set_option linter.unusedSimpArgs false
set_option linter.unusedVariables false
open Go.RowKit

/-- with a smaller and a greater budget: alike, or the smaller one has not been enough -/
def Alike (b : Nat) (x y : PX) : Prop := (x = y ∧ x.fine = true ∧ x.steps.length ≤ b) ∨ (x.fine = false ∧ x.opn = false ∧ (y.fine = false ∨ b < y.steps.length))
theorem noteX_alike {b b' : Nat} (h : b ≤ b') (x : PX) (hf : x.fine = true) (hl : x.steps.length ≤ b) (kd ix c : Int) (r : Rng) : Alike b (noteX b x kd ix c r) (noteX b' x kd ix c r) := by
  by_cases h1 : b ≤ x.steps.length
  · right
    refine ⟨by simp [noteX, h1], by simp [noteX, h1], ?_⟩
    by_cases h2 : b' ≤ x.steps.length
    · left
      simp [noteX, h2]
    · right
      unfold noteX
      rw [if_neg h2]
      split <;> simp <;> omega
  · left
    have h2 : ¬ b' ≤ x.steps.length := by omega
    unfold noteX
    rw [if_neg h1, if_neg h2]
    refine ⟨rfl, ?_, ?_⟩
    · split <;> exact hf
    · split <;> simp <;> omega
theorem doT_alike {b b' : Nat} (h : b ≤ b') (x : PX) (hf : x.fine = true) (hl : x.steps.length ≤ b) (t : Tsk) : Alike b (doT b x t) (doT b' x t) := by
  have h0 : Alike b x x := .inl ⟨rfl, hf, hl⟩
  cases ho : x.opn with
  | false => rw [doT_shut ho, doT_shut ho]; exact h0
  | true =>
    cases t with
    | dead i =>
      simp only [doT, ho, if_true]
      exact noteX_alike h x hf hl ..
    | row i r c =>
      simp only [doT, ho, if_true]
      by_cases e : sameR (tightenB r x.box c) (pick x.box c) = true
      · rw [if_pos e, if_pos e]; exact h0
      · rw [if_neg e, if_neg e]; exact noteX_alike h x hf hl ..
    | gr i g k =>
      simp only [doT, ho, if_true]
      by_cases e : sameR (cutG g x.box k) (pick x.box (g.first + (k : Int))) = true
      · rw [if_pos e, if_pos e]; exact h0
      · rw [if_neg e, if_neg e]; exact noteX_alike h x hf hl ..
theorem noteX_unfine {b : Nat} {x : PX} (h : x.fine = false) (kd ix c : Int) (r : Rng) : (noteX b x kd ix c r).fine = false := by
  unfold noteX
  split
  · rfl
  · split <;> exact h
theorem doT_unfine {b : Nat} {x : PX} (h : x.fine = false) (t : Tsk) : (doT b x t).fine = false := by
  cases t <;> simp only [doT] <;> repeat' split
  all_goals first | exact h | exact noteX_unfine h ..
theorem runT_unfine {b : Nat} : ∀ (l : List Tsk) {x : PX}, x.fine = false → (runT b x l).fine = false
  | [], _, h => h
  | t :: l, x, h => by
    rw [runT_cons]
    exact runT_unfine l (doT_unfine h t)
theorem runT_alike {b b' : Nat} (h : b ≤ b') : ∀ (l : List Tsk) (x : PX), x.fine = true → x.steps.length ≤ b → Alike b (runT b x l) (runT b' x l)
  | [], x, hf, hl => .inl ⟨rfl, hf, hl⟩
  | t :: l, x, hf, hl => by
    rw [runT_cons, runT_cons]
    rcases doT_alike h x hf hl t with ⟨e, f, g⟩ | ⟨f, o, d⟩
    · rw [← e]
      exact runT_alike h l _ f g
    · rw [runT_shut o]
      refine .inr ⟨f, o, ?_⟩
      rcases d with d | d
      · exact .inl (runT_unfine l d)
      · exact .inr (Nat.lt_of_lt_of_le d (runT_len b' l _).1)
theorem runX_len (b : Nat) (rows : List Row) (grs : List Gr) : ∀ (n : Nat) (x : PX), x.steps.length ≤ (runX b rows grs n x).steps.length
  | 0, _ => Nat.le_refl _
  | n + 1, x => by
    have h1 := (runT_len b (tasks rows grs) x).1
    rw [runX]
    split
    · exact Nat.le_trans h1 (runX_len b rows grs n _)
    · exact h1
theorem runX_alike {b b' : Nat} (h : b ≤ b') (rows : List Row) (grs : List Gr) : ∀ (n n' : Nat) (x : PX), x.fine = true → x.steps.length ≤ b → b - x.steps.length < n → b' - x.steps.length < n' → Alike b (runX b rows grs n x) (runX b' rows grs n' x)
  | 0, _, _, _, _, h1, _ => by omega
  | n + 1, 0, _, _, _, _, h2 => by omega
  | n + 1, n' + 1, x, hf, hl, h1, h2 => by
    rcases runT_alike h (tasks rows grs) x hf hl with ⟨e, f, g⟩ | ⟨f, o, d⟩
    · have hn := (runT_len b (tasks rows grs) x).1
      by_cases hs : (runT b x (tasks rows grs)).opn = true ∧ (runT b x (tasks rows grs)).steps.length ≠ x.steps.length
      · rw [runX_go rfl hs.1 hs.2, runX_go e.symm hs.1 hs.2]
        exact runX_alike h rows grs n n' _ f g (by omega) (by omega)
      · have hs' : (runT b x (tasks rows grs)).opn = false ∨ (runT b x (tasks rows grs)).steps.length = x.steps.length := by
          cases ho : (runT b x (tasks rows grs)).opn with
          | false => exact .inl rfl
          | true => exact .inr (Classical.not_not.1 fun e => hs ⟨ho, e⟩)
        rw [runX_stop rfl hs', runX_stop e.symm hs']
        exact .inl ⟨rfl, f, g⟩
    · rw [runX_stop rfl (.inl o)]
      refine .inr ⟨f, o, ?_⟩
      have hn := runT_len b' (tasks rows grs) x
      rcases d with d | d
      · rw [runX_stop rfl (.inl (hn.2 d hf))]
        exact .inl d
      · right
        rw [runX]
        split
        · exact Nat.lt_of_lt_of_le d (runX_len ..)
        · exact d
theorem runB_alike {b b' : Nat} (h : b ≤ b') (rows : List Row) (grs : List Gr) (box : List Rng) : Alike b (runB b rows grs box) (runB b' rows grs box) :=
  runX_alike h rows grs _ _ _ rfl (Nat.zero_le _) (by simp) (by simp)
theorem runB_cost {b : Nat} {rows : List Row} {grs : List Gr} {box : List Rng} (h : (runB b rows grs box).fine = true) :
    (runB b rows grs box).steps.length ≤ b ∧ (∀ b', (runB b rows grs box).steps.length ≤ b' → runB b' rows grs box = runB b rows grs box) ∧ ∀ b', b' < (runB b rows grs box).steps.length → (runB b' rows grs box).fine = false := by
  have h0 : (runB b rows grs box).steps.length ≤ b := by
    rcases runB_alike (Nat.le_refl b) rows grs box with ⟨_, _, g⟩ | ⟨f, _, _⟩
    · exact g
    · rw [h] at f; cases f
  refine ⟨h0, fun b' hb => ?_, fun b' hb => ?_⟩
  · rcases Nat.le_total b b' with hl | hl
    · rcases runB_alike hl rows grs box with ⟨e, _, _⟩ | ⟨f, _, _⟩
      · exact e.symm
      · rw [h] at f; cases f
    · rcases runB_alike hl rows grs box with ⟨e, _, _⟩ | ⟨_, _, f | f⟩
      · exact e
      · rw [h] at f; cases f
      · omega
  · rcases runB_alike (Nat.le_of_lt (Nat.lt_of_lt_of_le hb h0)) rows grs box with ⟨e, _, g⟩ | ⟨f, _, _⟩
    · rw [e] at g; omega
    · exact f
/-- what a result has cost -/
def NR.cost : NR → Nat
  | .out => 0
  | .sol _ _ c => c
  | .ref _ c => c
section
variable {s : Sys} {b : Nat} {F : PX}
end
end Go.Proofs.YtlbhidiliogflaaGreat
