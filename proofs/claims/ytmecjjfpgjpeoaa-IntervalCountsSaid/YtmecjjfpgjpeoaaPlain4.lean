
/-
Plain facts on counting: the values of a box in their order, one by one, are as many as its size says. No program in sight.
-/
import Derived.Test.YtmecjjfpgjpeoaaCmp
import Derived.Test.YtmecjjfpgjpeoaaPlain2
namespace Go.Proofs.Ytmecjjfpgjpeoaa
open Go.RowKit

def prodB : List Rng → Int
  | [] => 1
  | r :: b => (r.hi - r.lo + 1) * prodB b
def rank : List Rng → List Int → Int
  | r :: b, x :: vs => (x - r.lo) * prodB b + rank b vs
  | _, _ => 0
def inB : List Rng → List Int → Prop
  | [], [] => True
  | r :: b, x :: vs => r.lo ≤ x ∧ x ≤ r.hi ∧ inB b vs
  | _, _ => False
def nextS : List Rng → List Int → Option (List Int)
  | r :: b, x :: vs => match nextS b vs with
    | some l => some (x :: l)
    | none => if x < r.hi then some ((x + 1) :: b.map (·.lo)) else none
  | _, _ => none
theorem inB_iff : ∀ (b : List Rng) (vs : List Int), inB b vs ↔ containsB b vs = true
  | [], [] => by simp [inB, containsB, contL]
  | [], _ :: _ => by simp [inB, containsB]
  | _ :: _, [] => by simp [inB, containsB]
  | r :: b, x :: vs => by
    have ih := inB_iff b vs
    unfold containsB at *
    simp only [List.length_cons, contL, inB, Bool.and_eq_true, decide_eq_true_eq] at *
    rw [ih]
    constructor
    · rintro ⟨h1, h2, h3, h4⟩
      exact ⟨by omega, by rw [if_neg (show ¬ badV r x by unfold badV; omega)]; exact h4⟩
    · rintro ⟨h1, h2⟩
      by_cases hb : badV r x
      · rw [if_pos hb] at h2
        simp at h2
      · rw [if_neg hb] at h2
        unfold badV at hb
        exact ⟨by omega, by omega, by omega, h2⟩
theorem inB_len : ∀ (b : List Rng) (vs : List Int), inB b vs → b.length = vs.length
  | [], [], _ => rfl
  | [], _ :: _, h => h.elim
  | _ :: _, [], h => h.elim
  | r :: b, x :: vs, h => by simp [inB_len b vs h.2.2]
theorem nextS_snoc : ∀ (b : List Rng) (vs : List Int) (r : Rng) (x : Int), b.length = vs.length →
    nextS (b ++ [r]) (vs ++ [x]) = if x < r.hi then some (vs ++ [x + 1]) else (nextS b vs).map (· ++ [r.lo])
  | [], [], r, x, _ => by
    simp only [List.nil_append, nextS]
    split <;> simp
  | [], _ :: _, _, _, h => by simp at h
  | _ :: _, [], _, _, h => by simp at h
  | s :: b, y :: vs, r, x, h => by
    have ih := nextS_snoc b vs r x (by simpa using h)
    simp only [List.cons_append, nextS]
    rw [ih]
    by_cases hx : x < r.hi
    · simp [hx]
    · simp only [hx, if_false]
      cases nextS b vs with
      | some l => simp
      | none =>
        dsimp only [Option.map_none]
        by_cases hy : y < s.hi
        · simp [hy]
        · simp [hy]
theorem nextF_eq (b1 b2 : List Rng) : ∀ (i : Nat) (v1 : List Int) (b0 : List Rng), b0.length = i → v1.length = i → b1 = b0 →
    nextF (b1 ++ b2) (v1 ++ b2.map (·.lo)) i = (nextS b1 v1).map (· ++ b2.map (·.lo)) := by
  intro i
  induction i generalizing b1 b2 with
  | zero =>
    intro v1 b0 h1 h2 h3
    subst h3
    have e1 : b1 = [] := List.eq_nil_of_length_eq_zero h1
    have e2 : v1 = [] := List.eq_nil_of_length_eq_zero h2
    subst e1 e2
    rfl
  | succ i ih =>
    intro v1 b0 h1 h2 h3
    subst h3
    obtain ⟨c1, r, rfl⟩ : ∃ c r, b1 = c ++ [r] := ⟨b1.dropLast, b1.getLast (by intro h; simp [h] at h1), (List.dropLast_concat_getLast _).symm⟩
    obtain ⟨u1, x, rfl⟩ : ∃ c r, v1 = c ++ [r] := ⟨v1.dropLast, v1.getLast (by intro h; simp [h] at h2), (List.dropLast_concat_getLast _).symm⟩
    have l1 : c1.length = i := by simpa using h1
    have l2 : u1.length = i := by simpa using h2
    rw [nextS_snoc c1 u1 r x (by omega)]
    unfold nextF
    have g1 : (u1 ++ [x] ++ b2.map (·.lo)).getD i 0 = x := by simp [List.getD, ← l2]
    have g2 : pick (c1 ++ [r] ++ b2) i = r := by
      rw [pick_at _ _ (by simp; omega)]
      simp [← l1]
    have g3 : ∀ y, (u1 ++ [x] ++ b2.map (·.lo)).set i y = u1 ++ [y] ++ b2.map (·.lo) := fun y => by
      simp [← l2]
    rw [g1, g2, g3, g3]
    by_cases hx : x < r.hi
    · simp [hx]
    · rw [if_neg hx, if_neg hx]
      have := ih c1 (r :: b2) u1 c1 l1 l2 rfl
      simp only [List.map_cons] at this
      rw [List.append_assoc c1 [r] b2, List.append_assoc u1 [r.lo]]
      simp only [List.singleton_append]
      rw [this, Option.map_map]
      congr 1
      funext l
      simp
theorem nextB_eq {b : List Rng} {vs : List Int} (hb : boxB b = true) (hc : containsB b vs = true) : nextB b vs = nextS b vs := by
  unfold nextB
  rw [if_pos ⟨hb, hc⟩]
  have hl := inB_len b vs ((inB_iff b vs).2 hc)
  have := nextF_eq b [] vs.length vs b hl rfl rfl
  simpa using this
def wide (b : List Rng) : Prop := ∀ r ∈ b, r.lo ≤ r.hi
theorem prodB_pos : ∀ (b : List Rng), wide b → 1 ≤ prodB b
  | [], _ => by simp [prodB]
  | r :: b, h => by
    have h1 := prodB_pos b (fun x hx => h x (by simp [hx]))
    have h2 := h r (by simp)
    unfold prodB
    have : (1 : Int) * 1 ≤ (r.hi - r.lo + 1) * prodB b := Int.mul_le_mul (by omega) h1 (by omega) (by omega)
    omega
theorem inB_least : ∀ (b : List Rng), wide b → inB b (b.map (·.lo))
  | [], _ => by simp [inB]
  | r :: b, h => ⟨Int.le_refl _, h r (by simp), inB_least b (fun x hx => h x (by simp [hx]))⟩
theorem rank_least : ∀ (b : List Rng), rank b (b.map (·.lo)) = 0
  | [] => rfl
  | r :: b => by simp [rank, rank_least b]
theorem nextS_none : ∀ (b : List Rng) (vs : List Int), inB b vs → nextS b vs = none → rank b vs + 1 = prodB b
  | [], [], _, _ => by simp [rank, prodB]
  | [], _ :: _, h, _ => h.elim
  | _ :: _, [], h, _ => h.elim
  | r :: b, x :: vs, h, hn => by
    obtain ⟨h1, h2, h3⟩ := h
    unfold nextS at hn
    cases hx : nextS b vs with
    | some l => rw [hx] at hn; cases hn
    | none =>
      rw [hx] at hn
      dsimp only at hn
      split at hn
      · cases hn
      · have ih := nextS_none b vs h3 hx
        have : x = r.hi := by omega
        subst this
        rw [show rank (r :: b) (r.hi :: vs) = (r.hi - r.lo) * prodB b + rank b vs from rfl, show prodB (r :: b) = (r.hi - r.lo + 1) * prodB b from rfl]
        rw [Int.add_mul, Int.one_mul]
        omega
theorem nextS_some : ∀ (b : List Rng) (vs l : List Int), wide b → inB b vs → nextS b vs = some l → inB b l ∧ rank b l = rank b vs + 1 ∧ cmpL vs l = -1
  | [], [], _, _, _, h => by cases h
  | [], _ :: _, _, _, h, _ => h.elim
  | _ :: _, [], _, _, h, _ => h.elim
  | r :: b, x :: vs, l, hw, h, hn => by
    obtain ⟨h1, h2, h3⟩ := h
    have hw' : wide b := fun x hx => hw x (by simp [hx])
    unfold nextS at hn
    cases hx : nextS b vs with
    | some l' =>
      rw [hx] at hn
      dsimp only at hn
      injection hn with hn
      subst hn
      obtain ⟨i1, i2, i3⟩ := nextS_some b vs l' hw' h3 hx
      refine ⟨⟨h1, h2, i1⟩, ?_, ?_⟩
      · unfold rank; omega
      · unfold cmpL
        rw [if_neg (by simp [cmpI]), i3]
    | none =>
      rw [hx] at hn
      dsimp only at hn
      split at hn
      · rename_i hlt
        injection hn with hn
        subst hn
        have ih := nextS_none b vs h3 hx
        refine ⟨⟨by omega, by omega, inB_least b hw'⟩, ?_, ?_⟩
        · unfold rank
          rw [rank_least b, Int.sub_mul, Int.sub_mul, Int.add_mul]
          omega
        · unfold cmpL
          have : cmpI x (x + 1) = -1 := by unfold cmpI; rw [if_pos (by omega)]
          rw [this]
          simp
      · cases hn
theorem rank_bd : ∀ (b : List Rng) (vs : List Int), wide b → inB b vs → 0 ≤ rank b vs ∧ rank b vs < prodB b
  | [], [], _, _ => by simp [rank, prodB]
  | [], _ :: _, _, h => h.elim
  | _ :: _, [], _, h => h.elim
  | r :: b, x :: vs, hw, h => by
    obtain ⟨h1, h2, h3⟩ := h
    have hw' : wide b := fun x hx => hw x (by simp [hx])
    obtain ⟨i1, i2⟩ := rank_bd b vs hw' h3
    have hp := prodB_pos b hw'
    have a1 : 0 ≤ (x - r.lo) * prodB b := Int.mul_nonneg (by omega) (by omega)
    have a2 : (x - r.lo) * prodB b ≤ (r.hi - r.lo) * prodB b := Int.mul_le_mul_of_nonneg_right (by omega) (by omega)
    rw [show rank (r :: b) (x :: vs) = (x - r.lo) * prodB b + rank b vs from rfl, show prodB (r :: b) = (r.hi - r.lo + 1) * prodB b from rfl]
    rw [Int.add_mul, Int.one_mul]
    omega
theorem sizeL_min : ∀ (b : List Rng) (n : Int), wide b → 1 ≤ n → n ≤ 1073741824 → sizeL n b = min (n * prodB b) 1073741824
  | [], n, _, _, h2 => by simp [sizeL, prodB]; omega
  | r :: b, n, hw, h1, h2 => by
    have hw' : wide b := fun x hx => hw x (by simp [hx])
    have hr := hw r (by simp)
    have hp := prodB_pos b hw'
    unfold sizeL prodB
    have a1 : (1 : Int) * 1 ≤ n * (r.hi - r.lo + 1) := Int.mul_le_mul h1 (by omega) (by omega) (by omega)
    rw [sizeL_min b _ hw' (by omega) (by omega), ← Int.mul_assoc]
    generalize n * (r.hi - r.lo + 1) = m at *
    by_cases hm : m ≤ 1073741824
    · rw [Int.min_eq_left hm]
    · rw [Int.min_eq_right (show (1073741824 : Int) ≤ m by omega)]
      have a2 : (1073741824 : Int) * 1 ≤ 1073741824 * prodB b := Int.mul_le_mul (by omega) hp (by omega) (by omega)
      have a3 : (1073741824 : Int) * 1 ≤ m * prodB b := Int.mul_le_mul (by omega) hp (by omega) (by omega)
      omega
theorem wide_of {b : List Rng} (h : b.any emptyR = false) : wide b := fun r hr => by
  have h0 := List.any_eq_false.1 h r hr
  unfold emptyR at h0
  simpa using h0
theorem size_prod {b : List Rng} (hb : boxB b = true) (he : b.any emptyR = false) (hs : sizeB b ≤ 300) : sizeB b = prodB b := by
  unfold sizeB at *
  rw [if_pos ⟨hb, he⟩] at *
  rw [sizeL_min b 1 (wide_of he) (by omega) (by omega)] at *
  omega
/-- one step of the count -/
theorem count_next {b : List Rng} {vs : List Int} {c : Int} (hb : boxB b = true) (he : b.any emptyR = false) (hs : sizeB b ≤ 300) (hi : inB b vs) (hc : rank b vs + 1 = c) :
    (nextB b vs = none ∧ c = sizeB b) ∨ ∃ l, nextB b vs = some l ∧ inB b l ∧ rank b l + 1 = c + 1 ∧ cmpL vs l = -1 ∧ containsB b l = true ∧ c + 1 ≤ 300 := by
  have hw := wide_of he
  have hp := size_prod hb he hs
  rw [nextB_eq hb ((inB_iff b vs).1 hi)]
  cases hx : nextS b vs with
  | none => exact .inl ⟨rfl, by rw [hp, ← nextS_none b vs hi hx]; omega⟩
  | some l =>
    obtain ⟨i1, i2, i3⟩ := nextS_some b vs l hw hi hx
    have := rank_bd b l hw i1
    exact .inr ⟨l, rfl, i1, by omega, i3, (inB_iff b l).1 i1, by omega⟩
end Go.Proofs.Ytmecjjfpgjpeoaa
