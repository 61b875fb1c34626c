
/-
Brokers as plain data: priorities, needs, requests; what is given away.
-/
import Derived.Test.YtbcekihjcgnhkaaLib
namespace Go.Proofs.Ytbcekihjcgnhkaa
set_option linter.unusedSimpArgs false
set_option linter.unusedVariables false

/-- kind, index, element -/
abbrev Rt := Int × Int × Int
/-- a right and an amount -/
abbrev Nd := Rt × Int
/-- place, time, replica, serial -/
abbrev Pr := Int × Int × Int × Int
/-- to whom, what -/
abbrev Gr := Int × Nd
structure Ak where
  num : Int
  pri : Pr
  needs : List Nd
def zAk : Ak := ⟨0, (0, 0, 0, 0), []⟩
/-! priorities -/
def lessP (a b : Pr) : Prop :=
  (a.1 ≠ 0 ∧ b.1 = 0) ∨ ((a.1 = 0 ↔ b.1 = 0) ∧ (a.1 < b.1 ∨ (a.1 = b.1 ∧ (a.2.1 < b.2.1 ∨ (a.2.1 = b.2.1 ∧ (a.2.2.1 < b.2.2.1 ∨ (a.2.2.1 = b.2.2.1 ∧ a.2.2.2 < b.2.2.2)))))))
instance (a b : Pr) : Decidable (lessP a b) := by unfold lessP; infer_instance
def lessB (a b : Pr) : Bool := decide (lessP a b)
theorem less_irrefl (a : Pr) : ¬ lessP a a := by unfold lessP; omega
theorem less_trans {a b c : Pr} (h : lessP a b) (k : lessP b c) : lessP a c := by unfold lessP at *; omega
theorem less_total (a b : Pr) : lessP a b ∨ a = b ∨ lessP b a := by
  obtain ⟨a1, a2, a3, a4⟩ := a
  obtain ⟨b1, b2, b3, b4⟩ := b
  by_cases h : a1 = b1 ∧ a2 = b2 ∧ a3 = b3 ∧ a4 = b4
  · obtain ⟨rfl, rfl, rfl, rfl⟩ := h; exact .inr (.inl rfl)
  · unfold lessP; dsimp only; omega
theorem lessB_irrefl (a : Pr) : lessB a a = false := decide_eq_false (less_irrefl a)
theorem lessB_asymm {a b : Pr} (h : lessB a b = true) : lessB b a = false := decide_eq_false fun k => less_irrefl a (less_trans (of_decide_eq_true h) k)
theorem lessB_trans {a b c : Pr} (h : lessB a b = true) (k : lessB b c = true) : lessB a c = true := decide_eq_true (less_trans (of_decide_eq_true h) (of_decide_eq_true k))
theorem lessB_total {a b : Pr} (h : lessB a b = false) (k : lessB b a = false) : a = b := by
  rcases less_total a b with h1 | h1 | h1
  · exact absurd h1 (of_decide_eq_false h)
  · exact h1
  · exact absurd h1 (of_decide_eq_false k)
/-! valid needs -/
def btw (n lo hi : Int) : Bool := decide (lo ≤ n) && decide (n ≤ hi)
def mostR (r : Rt) : Int := if r.1 = 1 then 5 else 0
def okNd (x : Nd) : Bool := btw x.1.1 0 1 && btw x.1.2.2 0 (mostR x.1) && btw x.1.2.1 0 1023 && btw x.2 1 1000000
def validGo (s : Rt → Bool) : List Nd → Bool
  | [] => true
  | x :: l => if s x.1 || !okNd x then false else validGo (fun y => y == x.1 || s y) l
def validL (l : List Nd) : Bool := validGo (fun _ => false) l && decide (l.length ≤ 1024)
theorem validGo_iff : ∀ (l : List Nd) (s : Rt → Bool), validGo s l = true ↔ (∀ x ∈ l, okNd x = true ∧ s x.1 = false) ∧ (l.map (·.1)).Nodup
  | [], s => by simp [validGo]
  | x :: l, s => by
    unfold validGo
    have ih := validGo_iff l (fun y => y == x.1 || s y)
    by_cases h : (s x.1 || !okNd x) = true
    · rw [if_pos h]
      simp only [Bool.false_eq_true, false_iff]
      rintro ⟨h1, -⟩
      have := h1 x (by simp)
      simp [this.1, this.2] at h
    · rw [if_neg h, ih]
      simp only [Bool.or_eq_true, Bool.not_eq_true', not_or, Bool.not_eq_true, Bool.not_eq_false] at h
      rw [List.map_cons, List.nodup_cons]
      constructor
      · rintro ⟨h1, h2⟩
        refine ⟨fun y hy => ?_, fun hm => ?_, h2⟩
        · rcases List.mem_cons.1 hy with rfl | hy
          · exact ⟨h.2, h.1⟩
          · have := (h1 y hy).2
            simp only [Bool.or_eq_false_iff] at this
            exact ⟨(h1 y hy).1, this.2⟩
        · obtain ⟨y, hy, e⟩ := List.mem_map.1 hm
          have := (h1 y hy).2
          simp [e] at this
      · rintro ⟨h1, h2, h3⟩
        refine ⟨fun y hy => ⟨(h1 y (by simp [hy])).1, ?_⟩, h3⟩
        have : y.1 ≠ x.1 := fun e => h2 (by rw [← e]; exact List.mem_map.2 ⟨y, hy, rfl⟩)
        simp [this, (h1 y (by simp [hy])).2]
theorem validL_iff (l : List Nd) : validL l = true ↔ (∀ x ∈ l, okNd x = true) ∧ (l.map (·.1)).Nodup ∧ l.length ≤ 1024 := by
  unfold validL
  rw [Bool.and_eq_true, validGo_iff, decide_eq_true_iff]
  constructor
  · rintro ⟨⟨h1, h2⟩, h3⟩
    exact ⟨fun x hx => (h1 x hx).1, h2, h3⟩
  · rintro ⟨h1, h2, h3⟩
    exact ⟨⟨fun x hx => ⟨h1 x hx, rfl⟩, h2⟩, h3⟩
def ofB (p : Pr) (r : Int) : Bool := p.2.2.1 == r && btw p.1 0 1024 && btw p.2.1 0 1073741824 && btw p.2.2.2 1 1048576
/-- a request that is one of a replica -/
def validA (r : Int) (a : Ak) : Bool := btw a.num 1 1048576 && validL a.needs && (ofB a.pri r || (decide (a.needs = []) && decide (a.pri = (0, 0, 0, 0))))
/-! a broker -/
structure Bk where
  n : Int
  i : Int
  num : Int
  own : Option (Pr × List Nd)
  heard : Int → Option Ak
def newB (n i : Int) : Bk := ⟨n, i, 0, none, fun _ => none⟩
def badNew (n i : Int) : Bool := decide (n < 1) || decide (5 < n) || decide (i < 0) || decide (n ≤ i)
/-- what holds of every broker -/
structure OkB (b : Bk) : Prop where
  n1 : 1 ≤ b.n ∧ b.n ≤ 5
  i1 : 0 ≤ b.i ∧ b.i < b.n
  num : 0 ≤ b.num ∧ b.num ≤ 1048576
  own : ∀ p l, b.own = some (p, l) → ofB p b.i = true ∧ validL l = true
  key : ∀ k a, b.heard k = some a → 0 ≤ k ∧ k < b.n ∧ k ≠ b.i ∧ validA k a = true
theorem okB_new {n i : Int} (h : badNew n i = false) : OkB (newB n i) := by
  simp only [badNew, Bool.or_eq_false_iff, decide_eq_false_iff_not] at h
  refine ⟨by simp only [newB]; omega, by simp only [newB]; omega, by simp [newB], fun p l h => ?_, fun k a h => ?_⟩
  · cases h
  · cases h
def request (b : Bk) (p : Pr) (miss all : List Nd) : Bk × Ak × Int :=
  if !ofB p b.i || decide (miss.length = 0) || !validL miss || !validL all then (b, zAk, 1)
  else if 1048576 ≤ b.num then (b, zAk, 8)
  else ({ b with num := b.num + 1, own := some (p, all) }, ⟨b.num + 1, p, miss⟩, 0)
def rest (b : Bk) : Bk × Ak × Bool :=
  if 1048576 ≤ b.num then (b, zAk, false) else ({ b with num := b.num + 1, own := none }, ⟨b.num + 1, (0, 0, 0, 0), []⟩, true)
def setH (H : Int → Option Ak) (k : Int) (a : Ak) : Int → Option Ak := fun x => if x = k then some a else H x
def hear (b : Bk) (k : Int) (a : Ak) : Bk × Int :=
  if !btw k 0 (b.n - 1) || decide (k = b.i) then (b, 2)
  else if !validA k a then (b, 1)
  else if (b.heard k).any (fun x => x.num == a.num) then (b, 6)
  else ({ b with heard := setH b.heard k a }, 0)
/-! lists by priority -/
def insA (a : Ak) : List Ak → List Ak
  | [] => [a]
  | x :: l => if lessB a.pri x.pri then a :: x :: l else x :: insA a l
def sortA : List Ak → List Ak
  | [] => []
  | a :: l => insA a (sortA l)
def hasN (a : Ak) : Bool := decide (a.needs.length ≠ 0)
/-- the requests that have needs, by replica -/
def asked (H : Int → Option Ak) : Nat → List Ak
  | 0 => []
  | n + 1 => asked H n ++ ((H n).filter hasN).toList
def reqL (b : Bk) : List Ak := sortA (asked b.heard b.n.toNat)
def SortA (l : List Ak) : Prop := l.Pairwise fun a b => lessB a.pri b.pri = true
theorem mem_insA (a x : Ak) : ∀ l, x ∈ insA a l ↔ x = a ∨ x ∈ l
  | [] => by simp [insA]
  | y :: l => by
    unfold insA
    split
    · simp
    · simp only [List.mem_cons, mem_insA a x l]
      constructor
      · rintro (h | h | h)
        · exact .inr (.inl h)
        · exact .inl h
        · exact .inr (.inr h)
      · rintro (h | h | h)
        · exact .inr (.inl h)
        · exact .inl h
        · exact .inr (.inr h)
theorem mem_sortA (x : Ak) : ∀ l, x ∈ sortA l ↔ x ∈ l
  | [] => Iff.rfl
  | a :: l => by unfold sortA; rw [mem_insA, mem_sortA x l, List.mem_cons]
theorem sortA_ins {a : Ak} : ∀ {l : List Ak}, SortA l → (∀ x ∈ l, x.pri ≠ a.pri) → SortA (insA a l)
  | [], _, _ => List.pairwise_singleton _ _
  | y :: l, h, hn => by
    obtain ⟨h1, h2⟩ := List.pairwise_cons.1 h
    unfold insA
    by_cases hl : lessB a.pri y.pri = true
    · rw [if_pos hl]
      refine List.pairwise_cons.2 ⟨fun x hx => ?_, h⟩
      rcases List.mem_cons.1 hx with rfl | hx
      · exact hl
      · exact lessB_trans hl (h1 x hx)
    · rw [if_neg hl]
      refine List.pairwise_cons.2 ⟨fun x hx => ?_, sortA_ins h2 fun x hx => hn x (by simp [hx])⟩
      rcases (mem_insA a x l).1 hx with rfl | hx
      · have h3 : lessB x.pri y.pri = false := by simpa using hl
        cases h4 : lessB y.pri x.pri with
        | true => rfl
        | false => exact absurd (lessB_total h4 h3) (hn y (by simp))
      · exact h1 x hx
theorem sortA_sort : ∀ {l : List Ak}, l.Pairwise (fun a b => a.pri ≠ b.pri) → SortA (sortA l)
  | [], _ => List.Pairwise.nil
  | a :: l, h => by
    obtain ⟨h1, h2⟩ := List.pairwise_cons.1 h
    exact sortA_ins (sortA_sort h2) fun x hx => fun e => h1 x ((mem_sortA x l).1 hx) e.symm
/-- sorted lists with the same elements are one -/
theorem sort_ext : ∀ {l m : List Ak}, SortA l → SortA m → (∀ x, x ∈ l ↔ x ∈ m) → l = m
  | [], [], _, _, _ => rfl
  | [], y :: m, _, _, h => absurd ((h y).2 (by simp)) (by simp)
  | x :: l, [], _, _, h => absurd ((h x).1 (by simp)) (by simp)
  | x :: l, y :: m, hl, hm, h => by
    obtain ⟨l1, l2⟩ := List.pairwise_cons.1 hl
    obtain ⟨m1, m2⟩ := List.pairwise_cons.1 hm
    have hxy : x = y := by
      rcases List.mem_cons.1 ((h x).1 (by simp)) with e | hx
      · exact e
      rcases List.mem_cons.1 ((h y).2 (by simp)) with e | hy
      · exact e.symm
      have h1 := l1 y hy
      have h2 := m1 x hx
      rw [lessB_asymm h1] at h2
      cases h2
    subst hxy
    congr 1
    refine sort_ext l2 m2 fun z => ⟨fun hz => ?_, fun hz => ?_⟩
    · rcases List.mem_cons.1 ((h z).1 (by simp [hz])) with rfl | h1
      · have := l1 z hz
        rw [lessB_irrefl] at this
        cases this
      · exact h1
    · rcases List.mem_cons.1 ((h z).2 (by simp [hz])) with rfl | h1
      · have := m1 z hz
        rw [lessB_irrefl] at this
        cases this
      · exact h1
theorem mem_asked (H : Int → Option Ak) (x : Ak) : ∀ n, x ∈ asked H n ↔ ∃ k : Nat, k < n ∧ H k = some x ∧ hasN x = true
  | 0 => by simp [asked]
  | n + 1 => by
    unfold asked
    rw [List.mem_append, mem_asked H x n]
    constructor
    · rintro (⟨k, h1, h2⟩ | h)
      · exact ⟨k, by omega, h2⟩
      · simp only [Option.mem_toList, Option.filter_eq_some_iff] at h
        exact ⟨n, by omega, h.1, h.2⟩
    · rintro ⟨k, h1, h2, h3⟩
      by_cases hk : k < n
      · exact .inl ⟨k, hk, h2, h3⟩
      · obtain rfl : k = n := by omega
        right
        simp only [Option.mem_toList, Option.filter_eq_some_iff]
        exact ⟨h2, h3⟩
/-- a request with needs is one of its replica -/
theorem validA_of {k : Int} {a : Ak} (h : validA k a = true) (hn : hasN a = true) : a.pri.2.2.1 = k ∧ ofB a.pri k = true := by
  unfold validA at h
  simp only [Bool.and_eq_true, Bool.or_eq_true, decide_eq_true_eq] at h
  rcases h.2 with h1 | h1
  · refine ⟨?_, h1⟩
    unfold ofB at h1
    simp only [Bool.and_eq_true, beq_iff_eq] at h1
    exact h1.1.1.1
  · unfold hasN at hn
    rw [h1.1] at hn
    simp at hn
theorem asked_apart {b : Bk} (h : OkB b) : ∀ n, (asked b.heard n).Pairwise fun a c => a.pri ≠ c.pri
  | 0 => List.Pairwise.nil
  | n + 1 => by
    unfold asked
    refine List.pairwise_append.2 ⟨asked_apart h n, ?_, fun a ha c hc e => ?_⟩
    · cases (b.heard n).filter hasN <;> simp
    · obtain ⟨k, hk, h1, h2⟩ := (mem_asked b.heard a n).1 ha
      simp only [Option.mem_toList, Option.filter_eq_some_iff] at hc
      have e1 := (validA_of (h.key _ _ h1).2.2.2 h2).1
      have e2 := (validA_of (h.key _ _ hc.1).2.2.2 hc.2).1
      rw [e, e2] at e1
      omega
theorem reqL_sort {b : Bk} (h : OkB b) : SortA (reqL b) := sortA_sort (asked_apart h _)
theorem mem_reqL {b : Bk} (h : OkB b) (x : Ak) : x ∈ reqL b ↔ hasN x = true ∧ b.heard x.pri.2.2.1 = some x := by
  unfold reqL
  rw [mem_sortA, mem_asked]
  constructor
  · rintro ⟨k, hk, h1, h2⟩
    have := (validA_of (h.key _ _ h1).2.2.2 h2).1
    exact ⟨h2, by rw [this]; exact h1⟩
  · rintro ⟨h1, h2⟩
    have := h.key _ _ h2
    exact ⟨x.pri.2.2.1.toNat, by omega, by rw [Int.toNat_of_nonneg this.1]; exact h2, h1⟩
/-! giving away -/
def amt (l : List Nd) (x : Rt) : Int := match l with | [] => 0 | y :: l => if y.1 = x then y.2 else amt l x
/-- what is kept for the own request -/
def keeps (o : Option (Pr × List Nd)) (x : Rt) (p : Pr) : Int := match o with | none => 0 | some (q, l) => if lessB q p then amt l x else 0
def setF (f : Rt → Int) (x : Rt) (n : Int) : Rt → Int := fun y => if y = x then n else f y
/-- one request: what is left, the needs, the grants -/
def give1 (kp : Rt → Int) (to : Int) : (Rt → Int) → List Nd → (Rt → Int) × List Nd × List Gr
  | f, [] => (f, [], [])
  | f, x :: l =>
    let m := min (f x.1 - kp x.1) x.2
    if m ≤ 0 then let r := give1 kp to f l; (r.1, x :: r.2.1, r.2.2)
    else let r := give1 kp to (setF f x.1 (f x.1 - m)) l; (r.1, (x.1, x.2 - m) :: r.2.1, (to, x.1, m) :: r.2.2)
def noZ (l : List Nd) : List Nd := l.filter fun x => !(x.2 == 0)
/-- all requests: what is left, what has been heard, the grants -/
def giveA (o : Option (Pr × List Nd)) : (Rt → Int) → (Int → Option Ak) → List Ak → (Int → Option Ak) × List Gr
  | _, H, [] => (H, [])
  | f, H, a :: l =>
    let r := give1 (fun x => keeps o x a.pri) a.pri.2.2.1 f a.needs
    let s := giveA o r.1 (setH H a.pri.2.2.1 { a with needs := noZ r.2.1 }) l
    (s.1, r.2.2 ++ s.2)
def grants (b : Bk) (has : List Nd) : Bk × List Gr :=
  if !validL has then (b, []) else
  let r := giveA b.own (amt has) b.heard (reqL b)
  ({ b with heard := r.1 }, r.2)
end Go.Proofs.Ytbcekihjcgnhkaa
