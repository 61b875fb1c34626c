/-
Plain facts on boxes and rows: a fixed box is the greatest closed box in the given one. No program in sight.
Plain facts on boxes, rows and values: what holds for values in a box holds in the fixed box. No program in sight.
What slices.Compare of two lists of numbers returns, for any input.
Plain facts on counting: the values of a box in their order, one by one, are as many as its size says. No program in sight.
All values in a box, in their order: the first is the least, and each is followed by what Next says. No program in sight.
-/
import Derived.Test.YtlbhidiliogflaaGreatIB
import Derived.Test.YtlbhidiliogflaaGreatKB
namespace Go.Proofs.YtlbhidiliogflaaGreat
set_option linter.unusedSimpArgs false
set_option linter.unusedVariables false
open Go.RowKit

/-- a box in a box -/
def Sub (M L : List Rng) : Prop := M.length = L.length ∧ ∀ k : Nat, k < L.length → (pick L k).lo ≤ (pick M k).lo ∧ (pick M k).hi ≤ (pick L k).hi
theorem Sub.refl (L : List Rng) : Sub L L := ⟨rfl, fun _ _ => ⟨Int.le_refl _, Int.le_refl _⟩⟩
theorem Sub.trans {A B C : List Rng} (h : Sub A B) (k : Sub B C) : Sub A C :=
  ⟨h.1.trans k.1, fun i hi => by
    have h1 := h.2 i (by rw [k.1]; exact hi)
    have h2 := k.2 i hi
    omega⟩
theorem pick_set (l : List Rng) (j k : Nat) (x : Rng) (hk : k < l.length) : pick (l.set j x) k = if j = k then x else pick l k := by
  rw [pick_at _ k (by simpa using hk), List.getElem_set, pick_at l k hk]

/-! a pass that changes nothing -/
/-! the fixed box -/
end Go.Proofs.YtlbhidiliogflaaGreat
namespace Go.Proofs.YtlbhidiliogflaaGreat
set_option linter.unusedSimpArgs false
set_option linter.unusedVariables false
open Go.RowKit

theorem not_badV {b : List Rng} {vs : List Int} (h : containsB b vs = true) : b.length = vs.length ∧ ∀ k : Nat, k < vs.length → (pick b k).lo ≤ vs.getD k 0 ∧ vs.getD k 0 ≤ (pick b k).hi := by
  unfold containsB at h
  rw [Bool.and_eq_true] at h
  have hl : b.length = vs.length := by simpa using h.1
  refine ⟨hl, fun k hk => ?_⟩
  have := contL_at b vs hl h.2 k hk
  unfold badV at this
  omega
theorem okV_of {b : List Rng} {rows : List Row} {vs : List Int} (hv : validB b rows = true) (hc : containsB b vs = true) : okV vs := by
  obtain ⟨hl, hk⟩ := not_badV hc
  intro x hx
  obtain ⟨k, hkl, rfl⟩ := List.getElem_of_mem hx
  have h1 := hk k hkl
  rw [pick_at b k (by omega)] at h1
  have h2 := not_bad ((validB_ok hv).1 b[k] (List.getElem_mem _))
  simp [List.getD, hkl] at h1
  omega
end Go.Proofs.YtlbhidiliogflaaGreat
namespace Go.Proofs.YtlbhidiliogflaaGreat
set_option linter.unusedSimpArgs false
set_option linter.unusedVariables false
open Go.RowKit

end Go.Proofs.YtlbhidiliogflaaGreat
namespace Go.Proofs.YtlbhidiliogflaaGreat
set_option linter.unusedSimpArgs false
set_option linter.unusedVariables false
open Go.RowKit

def prodB : List Rng → Int
  | [] => 1
  | r :: b => (r.hi - r.lo + 1) * prodB b
def inB : List Rng → List Int → Prop
  | [], [] => True
  | r :: b, x :: vs => r.lo ≤ x ∧ x ≤ r.hi ∧ inB b vs
  | _, _ => False
def nextS : List Rng → List Int → Option (List Int)
  | r :: b, x :: vs => match nextS b vs with
    | some l => some (x :: l)
    | none => if x < r.hi then some ((x + 1) :: b.map (·.lo)) else none
  | _, _ => none
theorem inB_iff : ∀ (b : List Rng) (vs : List Int), inB b vs ↔ containsB b vs = true
  | [], [] => by simp [inB, containsB, contL]
  | [], _ :: _ => by simp [inB, containsB]
  | _ :: _, [] => by simp [inB, containsB]
  | r :: b, x :: vs => by
    have ih := inB_iff b vs
    unfold containsB at *
    simp only [List.length_cons, contL, inB, Bool.and_eq_true, decide_eq_true_eq] at *
    rw [ih]
    constructor
    · rintro ⟨h1, h2, h3, h4⟩
      exact ⟨by omega, by rw [if_neg (show ¬ badV r x by unfold badV; omega)]; exact h4⟩
    · rintro ⟨h1, h2⟩
      by_cases hb : badV r x
      · rw [if_pos hb] at h2
        simp at h2
      · rw [if_neg hb] at h2
        unfold badV at hb
        exact ⟨by omega, by omega, by omega, h2⟩
theorem inB_len : ∀ (b : List Rng) (vs : List Int), inB b vs → b.length = vs.length
  | [], [], _ => rfl
  | [], _ :: _, h => h.elim
  | _ :: _, [], h => h.elim
  | r :: b, x :: vs, h => by simp [inB_len b vs h.2.2]
theorem nextS_snoc : ∀ (b : List Rng) (vs : List Int) (r : Rng) (x : Int), b.length = vs.length →
    nextS (b ++ [r]) (vs ++ [x]) = if x < r.hi then some (vs ++ [x + 1]) else (nextS b vs).map (· ++ [r.lo])
  | [], [], r, x, _ => by
    simp only [List.nil_append, nextS]
    split <;> simp
  | [], _ :: _, _, _, h => by simp at h
  | _ :: _, [], _, _, h => by simp at h
  | s :: b, y :: vs, r, x, h => by
    have ih := nextS_snoc b vs r x (by simpa using h)
    simp only [List.cons_append, nextS]
    rw [ih]
    by_cases hx : x < r.hi
    · simp [hx]
    · simp only [hx, if_false]
      cases nextS b vs with
      | some l => simp
      | none =>
        dsimp only [Option.map_none]
        by_cases hy : y < s.hi
        · simp [hy]
        · simp [hy]
theorem nextF_eq (b1 b2 : List Rng) : ∀ (i : Nat) (v1 : List Int) (b0 : List Rng), b0.length = i → v1.length = i → b1 = b0 →
    nextF (b1 ++ b2) (v1 ++ b2.map (·.lo)) i = (nextS b1 v1).map (· ++ b2.map (·.lo)) := by
  intro i
  induction i generalizing b1 b2 with
  | zero =>
    intro v1 b0 h1 h2 h3
    subst h3
    have e1 : b1 = [] := List.eq_nil_of_length_eq_zero h1
    have e2 : v1 = [] := List.eq_nil_of_length_eq_zero h2
    subst e1 e2
    rfl
  | succ i ih =>
    intro v1 b0 h1 h2 h3
    subst h3
    obtain ⟨c1, r, rfl⟩ : ∃ c r, b1 = c ++ [r] := ⟨b1.dropLast, b1.getLast (by intro h; simp [h] at h1), (List.dropLast_concat_getLast _).symm⟩
    obtain ⟨u1, x, rfl⟩ : ∃ c r, v1 = c ++ [r] := ⟨v1.dropLast, v1.getLast (by intro h; simp [h] at h2), (List.dropLast_concat_getLast _).symm⟩
    have l1 : c1.length = i := by simpa using h1
    have l2 : u1.length = i := by simpa using h2
    rw [nextS_snoc c1 u1 r x (by omega)]
    unfold nextF
    have g1 : (u1 ++ [x] ++ b2.map (·.lo)).getD i 0 = x := by simp [List.getD, ← l2]
    have g2 : pick (c1 ++ [r] ++ b2) i = r := by
      rw [pick_at _ _ (by simp; omega)]
      simp [← l1]
    have g3 : ∀ y, (u1 ++ [x] ++ b2.map (·.lo)).set i y = u1 ++ [y] ++ b2.map (·.lo) := fun y => by
      simp [← l2]
    rw [g1, g2, g3, g3]
    by_cases hx : x < r.hi
    · simp [hx]
    · rw [if_neg hx, if_neg hx]
      have := ih c1 (r :: b2) u1 c1 l1 l2 rfl
      simp only [List.map_cons] at this
      rw [List.append_assoc c1 [r] b2, List.append_assoc u1 [r.lo]]
      simp only [List.singleton_append]
      rw [this, Option.map_map]
      congr 1
      funext l
      simp
theorem nextB_eq {b : List Rng} {vs : List Int} (hb : boxB b = true) (hc : containsB b vs = true) : nextB b vs = nextS b vs := by
  unfold nextB
  rw [if_pos ⟨hb, hc⟩]
  have hl := inB_len b vs ((inB_iff b vs).2 hc)
  have := nextF_eq b [] vs.length vs b hl rfl rfl
  simpa using this
def wide (b : List Rng) : Prop := ∀ r ∈ b, r.lo ≤ r.hi
theorem prodB_pos : ∀ (b : List Rng), wide b → 1 ≤ prodB b
  | [], _ => by simp [prodB]
  | r :: b, h => by
    have h1 := prodB_pos b (fun x hx => h x (by simp [hx]))
    have h2 := h r (by simp)
    unfold prodB
    have : (1 : Int) * 1 ≤ (r.hi - r.lo + 1) * prodB b := Int.mul_le_mul (by omega) h1 (by omega) (by omega)
    omega
theorem sizeL_min : ∀ (b : List Rng) (n : Int), wide b → 1 ≤ n → n ≤ 1073741824 → sizeL n b = min (n * prodB b) 1073741824
  | [], n, _, _, h2 => by simp [sizeL, prodB]; omega
  | r :: b, n, hw, h1, h2 => by
    have hw' : wide b := fun x hx => hw x (by simp [hx])
    have hr := hw r (by simp)
    have hp := prodB_pos b hw'
    unfold sizeL prodB
    have a1 : (1 : Int) * 1 ≤ n * (r.hi - r.lo + 1) := Int.mul_le_mul h1 (by omega) (by omega) (by omega)
    rw [sizeL_min b _ hw' (by omega) (by omega), ← Int.mul_assoc]
    generalize n * (r.hi - r.lo + 1) = m at *
    by_cases hm : m ≤ 1073741824
    · rw [Int.min_eq_left hm]
    · rw [Int.min_eq_right (show (1073741824 : Int) ≤ m by omega)]
      have a2 : (1073741824 : Int) * 1 ≤ 1073741824 * prodB b := Int.mul_le_mul (by omega) hp (by omega) (by omega)
      have a3 : (1073741824 : Int) * 1 ≤ m * prodB b := Int.mul_le_mul (by omega) hp (by omega) (by omega)
      omega
theorem wide_of {b : List Rng} (h : b.any emptyR = false) : wide b := fun r hr => by
  have h0 := List.any_eq_false.1 h r hr
  unfold emptyR at h0
  simpa using h0
end Go.Proofs.YtlbhidiliogflaaGreat
namespace Go.Proofs.YtlbhidiliogflaaGreat
set_option linter.unusedSimpArgs false
set_option linter.unusedVariables false
open Go.RowKit

def rngL (lo hi : Int) : List Int := (List.range (hi - lo + 1).toNat).map fun k : Nat => lo + (k : Int)
theorem rngL_nil {lo hi : Int} (h : hi < lo) : rngL lo hi = [] := by
  unfold rngL
  rw [show (hi - lo + 1).toNat = 0 by omega]
  rfl
theorem rngL_cons {lo hi : Int} (h : lo ≤ hi) : rngL lo hi = lo :: rngL (lo + 1) hi := by
  unfold rngL
  rw [show (hi - lo + 1).toNat = (hi - (lo + 1) + 1).toNat + 1 by omega, List.range_succ_eq_map, List.map_cons, List.map_map]
  congr 1
  · simp
  · apply List.map_congr_left
    intro k _
    show lo + ((k + 1 : Nat) : Int) = lo + 1 + (k : Int)
    omega
theorem rngL_mem {lo hi x : Int} : x ∈ rngL lo hi ↔ lo ≤ x ∧ x ≤ hi := by
  unfold rngL
  rw [List.mem_map]
  constructor
  · rintro ⟨k, hk, rfl⟩
    have := List.mem_range.1 hk
    omega
  · rintro ⟨h1, h2⟩
    exact ⟨(x - lo).toNat, List.mem_range.2 (by omega), by omega⟩
theorem rngL_length (lo hi : Int) : (rngL lo hi).length = (hi - lo + 1).toNat := by simp [rngL]
def allS : List Rng → List (List Int)
  | [] => [[]]
  | r :: b => (rngL r.lo r.hi).flatMap fun x => (allS b).map (x :: ·)
theorem allS_mem : ∀ (b : List Rng) (vs : List Int), vs ∈ allS b ↔ inB b vs
  | [], [] => by simp [allS, inB]
  | [], _ :: _ => by simp [allS, inB]
  | r :: b, [] => by simp [allS, inB]
  | r :: b, x :: vs => by
    have ih := allS_mem b vs
    unfold allS inB
    rw [List.mem_flatMap]
    constructor
    · rintro ⟨y, hy, h⟩
      obtain ⟨u, hu, e⟩ := List.mem_map.1 h
      injection e with e1 e2
      subst e1 e2
      exact ⟨(rngL_mem.1 hy).1, (rngL_mem.1 hy).2, ih.1 hu⟩
    · rintro ⟨h1, h2, h3⟩
      exact ⟨x, rngL_mem.2 ⟨h1, h2⟩, List.mem_map.2 ⟨vs, ih.2 h3, rfl⟩⟩
theorem allS_head : ∀ (b : List Rng), wide b → ∃ t, allS b = b.map (·.lo) :: t
  | [], _ => ⟨[], rfl⟩
  | r :: b, h => by
    obtain ⟨t, ht⟩ := allS_head b (fun x hx => h x (by simp [hx]))
    unfold allS
    rw [rngL_cons (h r (by simp)), List.flatMap_cons, ht]
    exact ⟨_, rfl⟩
theorem allS_next : ∀ (b : List Rng), wide b → ∀ pre vs rest, allS b = pre ++ vs :: rest → nextS b vs = rest.head?
  | [], _, pre, vs, rest, h => by
    unfold allS at h
    cases pre with
    | nil =>
      simp only [List.nil_append, List.cons.injEq] at h
      rw [← h.1, ← h.2]
      rfl
    | cons x pre => simp at h
  | r :: b, hw, pre, vs, rest, h => by
    have hw' : wide b := fun x hx => hw x (by simp [hx])
    have ih := allS_next b hw'
    obtain ⟨t, ht⟩ := allS_head b hw'
    have key : ∀ (m : Nat) (lo : Int), (r.hi - lo + 1).toNat = m → ∀ pre vs rest, ((rngL lo r.hi).flatMap fun x => (allS b).map (x :: ·)) = pre ++ vs :: rest → nextS (r :: b) vs = rest.head? := by
      intro m
      induction m with
      | zero =>
        intro lo hm pre vs rest h
        rw [rngL_nil (by omega)] at h
        simp at h
      | succ m ihm =>
        intro lo hm pre vs rest h
        rw [rngL_cons (by omega), List.flatMap_cons] at h
        rcases List.append_eq_append_iff.1 h with ⟨a', h1, h2⟩ | ⟨c', h1, h2⟩
        · exact ihm (lo + 1) (by omega) a' vs rest h2
        · cases c' with
          | nil => exact ihm (lo + 1) (by omega) [] vs rest (by simpa using h2.symm)
          | cons c0 c'' =>
            rw [List.cons_append] at h2
            injection h2 with e1 e2
            subst e1
            obtain ⟨p, q, hp1, hp2, hp3⟩ := List.map_eq_append_iff.1 h1
            obtain ⟨v', q', rfl, hv, hq⟩ := List.map_eq_cons_iff.1 hp3
            have h3 := ih p v' q' hp1
            rw [← hv]
            unfold nextS
            rw [h3]
            cases q' with
            | cons l q'' =>
              dsimp only [List.head?_cons]
              rw [e2, ← hq]
              rfl
            | nil =>
              dsimp only [List.head?_nil]
              have : c'' = [] := by simpa using hq.symm
              subst this
              rw [List.nil_append] at e2
              rw [e2]
              by_cases hl : lo < r.hi
              · rw [if_pos hl, rngL_cons (by omega), List.flatMap_cons, ht]
                rfl
              · rw [if_neg hl, rngL_nil (by omega)]
                rfl
    unfold allS at h
    exact key _ r.lo rfl pre vs rest h
theorem allS_length : ∀ (b : List Rng), wide b → ((allS b).length : Int) = prodB b
  | [], _ => rfl
  | r :: b, h => by
    have h1 := allS_length b (fun x hx => h x (by simp [hx]))
    have h2 := h r (by simp)
    unfold allS prodB
    rw [List.length_flatMap]
    simp only [List.length_map]
    rw [List.map_const', List.sum_replicate_nat, Int.natCast_mul, h1, rngL_length]
    congr 1
    omega
theorem size_prod2 {b : List Rng} (hb : boxB b = true) (he : b.any emptyR = false) (hs : sizeB b ≤ 65536) : sizeB b = prodB b := by
  unfold sizeB at *
  rw [if_pos ⟨hb, he⟩] at *
  rw [sizeL_min b 1 (wide_of he) (by omega) (by omega)] at *
  omega
end Go.Proofs.YtlbhidiliogflaaGreat
