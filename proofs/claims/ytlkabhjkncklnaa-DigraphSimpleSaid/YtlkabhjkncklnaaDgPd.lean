
/-
Graphs: the cycles are those of the reference, in its order; a graph is acyclic exactly if it has none: plain facts.
-/
import Derived.Test.YtlkabhjkncklnaaDgPb
import Derived.Test.YtlkabhjkncklnaaDgPc
import Derived.Test.YtlkabhjkncklnaaDgM
namespace Go.Proofs.Ytlkabhjkncklnaa
set_option linter.unusedSimpArgs false
set_option linter.unusedVariables false
open Go.RowKit

/-- a simple path from its least vertex -/
structure CycPre (n : Nat) (es : List Bool) (x : List Nat) : Prop where
  ne : x ≠ []
  walk : Walk n es x
  nd : x.Nodup
  lt : ∀ y ∈ x, y < n
  hd : ∀ y ∈ x, x.headD 0 ≤ y
def CycL (n : Nat) (es : List Bool) (x : List Nat) : Prop := CycPre n es x ∧ hasE n es (x.getLastD 0) (x.headD 0) = true
theorem headD_app {l : List Nat} (h : l ≠ []) (r : List Nat) : (l ++ r).headD 0 = l.headD 0 := by
  cases l with
  | nil => exact absurd rfl h
  | cons x l => rfl
theorem walk_edge (n : Nat) (es : List Bool) (b : Nat) (r : List Nat) : ∀ l : List Nat, l ≠ [] → Walk n es (l ++ b :: r) → b < n ∧ hasE n es (l.getLastD 0) b = true
  | [], h, _ => absurd rfl h
  | [x], _, hw => hw.1
  | x :: y :: l, _, hw => by
    have := walk_edge n es b r (y :: l) (by simp) hw.2
    simpa using this
theorem CycPre.snoc {n : Nat} {es : List Bool} {l : List Nat} (h : CycPre n es l) {v : Nat} (hv : v < n) (he : hasE n es (l.getLastD 0) v = true) (hl : l.headD 0 < v) (hn : v ∉ l) : CycPre n es (l ++ [v]) :=
  ⟨by simp, walk_snoc n es v l h.ne h.walk hv he, List.nodup_append.2 ⟨h.nd, by simp, fun x hx y hy e => hn (by rw [List.mem_singleton] at hy; rw [← hy, ← e]; exact hx)⟩, fun y hy => by
    rcases List.mem_append.1 hy with hy | hy
    · exact h.lt y hy
    · rw [List.mem_singleton] at hy; omega, fun y hy => by
    rw [headD_app h.ne]
    rcases List.mem_append.1 hy with hy | hy
    · exact h.hd y hy
    · rw [List.mem_singleton] at hy; omega⟩
theorem CycPre.init {n : Nat} {es : List Bool} : ∀ {l : List Nat} {v : Nat}, l ≠ [] → CycPre n es (l ++ [v]) → CycPre n es l ∧ v < n ∧ hasE n es (l.getLastD 0) v = true ∧ l.headD 0 < v ∧ v ∉ l := fun {l v} hl h => by
  obtain ⟨n1, -, n3⟩ := List.nodup_append.1 h.nd
  have he := walk_edge n es v [] l hl h.walk
  have hvl : v ∉ l := fun hv => n3 v hv v (by simp) rfl
  have hh := h.hd v (by simp)
  rw [headD_app hl] at hh
  have hwl : ∀ m : List Nat, Walk n es (m ++ [v]) → Walk n es m := fun m => by
    induction m with
    | nil => exact fun _ => trivial
    | cons x m ih =>
      intro hw
      cases m with
      | nil => trivial
      | cons y m => exact ⟨hw.1, ih hw.2⟩
  refine ⟨⟨hl, hwl l h.walk, n1, fun y hy => h.lt y (List.mem_append_left _ hy), fun y hy => ?_⟩, he.1, he.2, ?_, hvl⟩
  · have := h.hd y (List.mem_append_left _ hy)
    rwa [headD_app hl] at this
  · rcases Nat.lt_or_ge (l.headD 0) v with h1 | h1
    · exact h1
    · have e : l.headD 0 = v := by omega
      cases l with
      | nil => exact absurd rfl hl
      | cons x l =>
        exact absurd (show v ∈ x :: l by rw [← e]; exact List.mem_cons_self ..) hvl
theorem mem_visitF {n : Nat} {es : List Bool} (x : List Nat) : ∀ (f : Nat) (l : List Nat), CycPre n es l → l.length + f = n + 1 → (x ∈ visitF n es f l ↔ ∃ r, x = l ++ r ∧ CycL n es x)
  | 0, l, hl, hf => by
    have := nodup_len n l hl.nd hl.lt
    omega
  | f + 1, l, hl, hf => by
    rw [visitF_succ, List.mem_append]
    unfold accF
    rw [List.mem_flatMap]
    constructor
    · rintro (h | ⟨b, hb, h⟩)
      · split at h
        · rename_i he
          rw [List.mem_singleton] at h
          subst h
          exact ⟨[], by simp, hl, he⟩
        · cases h
      · unfold brF at h
        split at h
        · rename_i hc
          obtain ⟨r, h1, h2⟩ := (mem_visitF x f (l ++ [b]) (hl.snoc (List.mem_range.1 hb) hc.2.1 hc.1 hc.2.2) (by simp; omega)).1 h
          exact ⟨b :: r, by rw [h1]; simp, h2⟩
        · cases h
    · rintro ⟨r, h1, h2⟩
      cases r with
      | nil =>
        rw [List.append_nil] at h1
        subst h1
        left
        rw [if_pos h2.2]
        simp
      | cons b r =>
        have e : x = (l ++ [b]) ++ r := by rw [h1]; simp
        have hpre : CycPre n es (l ++ [b]) := by
          have key : ∀ (s m : List Nat), m ≠ [] → CycPre n es (m ++ s) → CycPre n es m := fun s => by
            induction s with
            | nil => intro m _ h; simpa using h
            | cons v s ih =>
              intro m hm h
              have e2 : m ++ v :: s = (m ++ [v]) ++ s := by simp
              rw [e2] at h
              exact (CycPre.init hm (ih _ (by simp) h)).1
          exact key r _ (by simp) (e ▸ h2.1)
        obtain ⟨-, b1, b2, b3, b4⟩ := CycPre.init hl.ne hpre
        right
        refine ⟨b, List.mem_range.2 b1, ?_⟩
        unfold brF
        rw [if_pos ⟨b3, b2, b4⟩]
        exact (mem_visitF x f (l ++ [b]) hpre (by simp; omega)).2 ⟨r, e, h2⟩
theorem pre_one {n : Nat} {es : List Bool} {a : Nat} (ha : a < n) : CycPre n es [a] := ⟨by simp, trivial, by simp, fun y hy => by rw [List.mem_singleton] at hy; omega, fun y hy => by rw [List.mem_singleton] at hy; subst hy; exact Nat.le_refl _⟩
theorem mem_allC {n : Nat} {es : List Bool} {x : List Nat} : x ∈ allC n es n ↔ CycL n es x := by
  unfold allC
  rw [List.mem_flatMap]
  constructor
  · rintro ⟨a, ha, h⟩
    obtain ⟨r, -, h2⟩ := (mem_visitF x n [a] (pre_one (List.mem_range.1 ha)) (by simp; omega)).1 h
    exact h2
  · intro h
    cases x with
    | nil => exact absurd rfl h.1.ne
    | cons a r =>
      have ha := h.1.lt a (List.mem_cons_self ..)
      exact ⟨a, List.mem_range.2 ha, (mem_visitF (a :: r) n [a] (pre_one ha) (by simp; omega)).2 ⟨r, rfl, h⟩⟩
theorem visitF_pw {n : Nat} {es : List Bool} : ∀ (f : Nat) (l : List Nat), CycPre n es l → l.length + f = n + 1 → (visitF n es f l).Nodup
  | 0, _, _, _ => List.nodup_nil
  | f + 1, l, hl, hf => by
    rw [visitF_succ]
    unfold accF
    have hsub : ∀ b, b < n → ∀ x ∈ brF n es f l b, ∃ r, x = l ++ b :: r := fun b hb x hx => by
      unfold brF at hx
      split at hx
      · rename_i hc
        obtain ⟨r, h1, -⟩ := (mem_visitF x f (l ++ [b]) (hl.snoc hb hc.2.1 hc.1 hc.2.2) (by simp; omega)).1 hx
        exact ⟨r, by rw [h1]; simp⟩
      · cases hx
    refine List.nodup_append.2 ⟨by split <;> simp, ?_, fun x hx y hy e => ?_⟩
    · refine pw_flatMap (R := fun u v => u ≠ v) _ (fun b hb => ?_) ?_
      · unfold brF
        split
        · rename_i hc
          exact visitF_pw f (l ++ [b]) (hl.snoc (List.mem_range.1 hb) hc.2.1 hc.1 hc.2.2) (by simp; omega)
        · exact List.nodup_nil
      · rw [List.pairwise_iff_getElem]
        intro i j hi hj hij u hu v hv e
        rw [List.getElem_range] at hu hv
        rw [List.length_range] at hi hj
        obtain ⟨r, h1⟩ := hsub i hi u hu
        obtain ⟨r', h2⟩ := hsub j hj v hv
        rw [h1, h2] at e
        have e2 := List.append_cancel_left e
        injection e2 with e2
        omega
    · split at hx
      · rw [List.mem_singleton] at hx
        obtain ⟨b, hb, hy⟩ := List.mem_flatMap.1 hy
        obtain ⟨r, h1⟩ := hsub b (List.mem_range.1 hb) y hy
        have e3 := congrArg List.length (hx.symm.trans (e.trans h1))
        simp at e3
      · cases hx
theorem allC_nodup {n : Nat} {es : List Bool} : (allC n es n).Nodup := by
  unfold allC
  refine pw_flatMap (R := fun u v => u ≠ v) _ (fun a ha => visitF_pw n [a] (pre_one (List.mem_range.1 ha)) (by simp; omega)) ?_
  rw [List.pairwise_iff_getElem]
  intro i j hi hj hij u hu v hv e
  rw [List.getElem_range] at hu hv
  rw [List.length_range] at hi hj
  obtain ⟨r, h1, -⟩ := (mem_visitF u n [i] (pre_one hi) (by simp; omega)).1 hu
  obtain ⟨r', h2, -⟩ := (mem_visitF v n [j] (pre_one hj) (by simp; omega)).1 hv
  rw [h1, h2] at e
  injection e with e
  omega
/-! the reference's levels -/
def levC (n : Nat) (es : List Bool) : Nat → List (List Nat)
  | 0 => startsC n
  | k + 1 => levelC n es (levC n es k) (levC n es k).length
theorem mem_levelC {n : Nat} {es : List Bool} {ls : List (List Nat)} {x : List Nat} : x ∈ levelC n es ls ls.length ↔ ∃ l ∈ ls, ∃ v, v < n ∧ l.headD 0 < v ∧ hasE n es (l.getLastD 0) v = true ∧ v ∉ l ∧ x = l ++ [v] := by
  unfold levelC extC
  simp only [List.take_length, List.mem_flatMap, List.mem_map, List.mem_filter, List.mem_range, Bool.and_eq_true, Bool.not_eq_true', decide_eq_false_iff_not, decide_eq_true_eq]
  constructor
  · rintro ⟨l, hl, v, ⟨h1, h2, h3, h4⟩, rfl⟩
    exact ⟨l, hl, v, h1, h2, h3, h4, rfl⟩
  · rintro ⟨l, hl, v, h1, h2, h3, h4, rfl⟩
    exact ⟨l, hl, v, ⟨h1, h2, h3, h4⟩, rfl⟩
theorem mem_levC {n : Nat} {es : List Bool} : ∀ (k : Nat) (x : List Nat), x ∈ levC n es k ↔ CycPre n es x ∧ x.length = k + 1
  | 0, x => by
    unfold levC startsC
    simp only [List.mem_map, List.mem_range]
    constructor
    · rintro ⟨a, ha, rfl⟩
      exact ⟨pre_one ha, rfl⟩
    · rintro ⟨h1, h2⟩
      cases x with
      | nil => cases h2
      | cons a r =>
        obtain rfl : r = [] := List.eq_nil_of_length_eq_zero (by simpa using h2)
        exact ⟨a, h1.lt a (by simp), rfl⟩
  | k + 1, x => by
    unfold levC
    rw [mem_levelC]
    constructor
    · rintro ⟨l, hl, v, h1, h2, h3, h4, rfl⟩
      obtain ⟨b1, b2⟩ := (mem_levC k l).1 hl
      exact ⟨b1.snoc h1 h3 h2 h4, by simp [b2]⟩
    · rintro ⟨h1, h2⟩
      have hne : x ≠ [] := h1.ne
      obtain ⟨l, v, rfl⟩ : ∃ l v, x = l ++ [v] := ⟨x.dropLast, x.getLast hne, (List.dropLast_concat_getLast hne).symm⟩
      have hl : l.length = k + 1 := by simpa using h2
      obtain ⟨b1, b2, b3, b4, b5⟩ := CycPre.init (List.length_pos_iff.1 (by omega)) h1
      exact ⟨l, (mem_levC k l).2 ⟨b1, hl⟩, v, b2, b4, b3, b5, rfl⟩
theorem extC_pw (n : Nat) (es : List Bool) (l : List Nat) (k : Nat) : (extC n es l k).Pairwise slt := by
  unfold extC
  rw [List.pairwise_map]
  exact ((range_pw k).filter _).imp fun h => slt_last l h
theorem levelC_pw {n : Nat} {es : List Bool} {ls : List (List Nat)} (h : ls.Pairwise slt) (k : Nat) : (levelC n es ls k).Pairwise slt := by
  unfold levelC
  refine pw_flatMap _ (fun l _ => extC_pw n es l n) ((h.sublist (List.take_sublist k ls)).imp fun {x y} hxy u hu v hv => ?_)
  unfold extC at hu hv
  simp only [List.mem_map] at hu hv
  obtain ⟨c, -, rfl⟩ := hu
  obtain ⟨d, -, rfl⟩ := hv
  exact slt_snoc hxy c d
theorem levC_pw {n : Nat} {es : List Bool} : ∀ k, (levC n es k).Pairwise slt
  | 0 => by
    unfold levC startsC
    rw [List.pairwise_map]
    exact (range_pw n).imp fun h => slt_last [] h
  | k + 1 => levelC_pw (levC_pw k) _
theorem cycR_spec {n : Nat} {es : List Bool} : ∀ (r k : Nat), (∀ x, x ∈ cycR n es r (levC n es k) ↔ CycL n es x ∧ k < x.length ∧ x.length ≤ k + r) ∧ (cycR n es r (levC n es k)).Pairwise slt
  | 0, k => ⟨fun x => ⟨fun h => (by cases h), fun ⟨_, h1, h2⟩ => (by omega)⟩, .nil⟩
  | r + 1, k => by
    have ih := cycR_spec (n := n) (es := es) r (k + 1)
    unfold cycR
    have e : levelC n es (levC n es k) (levC n es k).length = levC n es (k + 1) := rfl
    rw [e]
    have hc : ∀ x, x ∈ closeC n es (levC n es k) (levC n es k).length ↔ CycL n es x ∧ x.length = k + 1 := fun x => by
      unfold closeC
      rw [List.take_length, List.mem_filter, mem_levC]
      exact ⟨fun ⟨⟨h1, h2⟩, h3⟩ => ⟨⟨h1, h3⟩, h2⟩, fun ⟨⟨h1, h3⟩, h2⟩ => ⟨⟨h1, h2⟩, h3⟩⟩
    refine ⟨fun x => ?_, ?_⟩
    · rw [List.mem_append, hc, ih.1]
      constructor
      · rintro (⟨h1, h2⟩ | ⟨h1, h2, h3⟩)
        · exact ⟨h1, by omega, by omega⟩
        · exact ⟨h1, by omega, by omega⟩
      · rintro ⟨h1, h2, h3⟩
        by_cases h4 : x.length = k + 1
        · exact .inl ⟨h1, h4⟩
        · exact .inr ⟨h1, by omega, by omega⟩
    · rw [List.pairwise_append]
      refine ⟨?_, ih.2, fun x hx y hy => ?_⟩
      · unfold closeC
        exact ((levC_pw k).sublist (List.take_sublist _ _)).filter _
      · have h1 := ((hc x).1 hx).2
        have h2 := ((ih.1 y).1 hy).2.1
        exact slt_len (by omega)
theorem slt_nodup {L : List (List Nat)} (h : L.Pairwise slt) : L.Nodup := List.Pairwise.imp (fun {a b} (hab : slt a b) (e : a = b) => slt_irrefl b (e ▸ hab)) h
theorem cyc_eq {s : Int} {es : List Bool} {L : List (List Nat)} (h : CycP s es L) : L = cycQ s es := by
  unfold cycQ
  cases ho : openB s es.length with
  | false =>
    rw [if_neg (by simp)]
    exact h.1 ho
  | true =>
    rw [if_pos rfl]
    obtain ⟨h1, h2⟩ := h.2 ho
    have hs := cycR_spec (n := s.toNat) (es := es) s.toNat 0
    have e0 : levC s.toNat es 0 = startsC s.toNat := rfl
    rw [e0] at hs
    have hp : (allC s.toNat es s.toNat).Perm (cycR s.toNat es s.toNat (startsC s.toNat)) := by
      rw [List.perm_ext_iff_of_nodup allC_nodup (slt_nodup hs.2)]
      intro x
      rw [mem_allC, hs.1]
      constructor
      · intro hx
        exact ⟨hx, List.length_pos_iff.2 hx.1.ne, by rw [Nat.zero_add]; exact nodup_len _ x hx.1.nd hx.1.lt⟩
      · exact fun hx => hx.1
    refine List.Perm.eq_of_pairwise (le := fun a b => ¬ slt b a) (fun a b _ _ h3 h4 => ?_) h2 (hs.2.imp fun {a b} hab hba => slt_irrefl a (slt_trans hab hba)) (h1.trans hp)
    rcases slt_total a b with h5 | h5 | h5
    · exact absurd h5 h4
    · exact h5
    · exact absurd h5 h3
/-! acyclic -/
theorem walkN_add (n : Nat) (es : List Bool) : ∀ (i j a b c : Nat), walkN n es i a b → walkN n es j b c → walkN n es (i + j) a c
  | 0, j, a, b, c, h, k => by
    have h : a = b := h
    subst h
    rwa [Nat.zero_add]
  | i + 1, j, a, b, c, ⟨d, h1, h2, h3⟩, k => by
    rw [show i + 1 + j = (i + j) + 1 by omega]
    exact ⟨d, h1, h2, walkN_add n es i j d b c h3 k⟩
theorem walk_get (n : Nat) (es : List Bool) : ∀ (x : List Nat) (k : Nat) (h : k + 1 < x.length), Walk n es x → x[k + 1] < n ∧ hasE n es x[k] x[k + 1] = true
  | [], _, h, _ => absurd h (by simp)
  | [_], _, h, _ => absurd h (by simp)
  | a :: b :: r, 0, _, hw => hw.1
  | a :: b :: r, k + 1, h, hw => walk_get n es (b :: r) k (by simpa using h) hw.2
theorem walk_seg {n : Nat} {es : List Bool} {x : List Nat} (hw : Walk n es x) (i : Nat) : ∀ (d : Nat) (h : i + d < x.length), walkN n es d x[i] x[i + d]
  | 0, _ => rfl
  | d + 1, h => by
    have h1 := walk_seg hw i d (by omega)
    obtain ⟨h2, h3⟩ := walk_get n es x (i + d) (by omega) hw
    exact walkN_add n es d 1 _ _ _ h1 ⟨_, h2, h3, rfl⟩
theorem walkN_list (n : Nat) (es : List Bool) : ∀ (j a b : Nat), walkN n es (j + 1) a b → ∃ x, x.length = j + 1 ∧ x.head? = some a ∧ Walk n es x ∧ hasE n es (x.getLastD 0) b = true ∧ b < n
  | 0, a, b, ⟨c, h1, h2, h3⟩ => by
    have h3 : c = b := h3
    subst h3
    exact ⟨[a], rfl, rfl, trivial, h2, h1⟩
  | j + 1, a, b, ⟨c, h1, h2, h3⟩ => by
    obtain ⟨x, b1, b2, b3, b4, b5⟩ := walkN_list n es j c b h3
    cases x with
    | nil => cases b2
    | cons y r =>
      simp only [List.head?_cons, Option.some.injEq] at b2
      subst b2
      exact ⟨a :: y :: r, by simp at b1 ⊢; omega, rfl, ⟨⟨h1, h2⟩, b3⟩, by simpa using b4, b5⟩
theorem least_nat {P : Nat → Prop} : ∀ k, P k → ∃ m, P m ∧ ∀ i, i < m → ¬ P i := fun k => by
  induction k using Nat.strongRecOn with
  | _ k ih =>
    intro h
    by_cases h1 : ∃ i, i < k ∧ P i
    · obtain ⟨i, h2, h3⟩ := h1
      exact ih i h2 h3
    · exact ⟨k, h, fun i hi hp => h1 ⟨i, hi, hp⟩⟩
theorem cyc_of_Rp {n : Nat} {es : List Bool} {a : Nat} (ha : a < n) (h : Rp n es a a) : ∃ x, CycL n es x := by
  obtain ⟨j0, h1, -, h2⟩ := h.walk
  obtain ⟨j, ⟨hj1, b0, hb0, hb1⟩, hmin⟩ := least_nat (P := fun j => 1 ≤ j ∧ ∃ a, a < n ∧ walkN n es j a a) j0 ⟨h1, a, ha, h2⟩
  obtain ⟨b, ⟨hbn, hbw⟩, hbm⟩ := least_nat (P := fun a => a < n ∧ walkN n es j a a) b0 ⟨hb0, hb1⟩
  obtain ⟨j', rfl⟩ : ∃ j', j = j' + 1 := ⟨j - 1, by omega⟩
  obtain ⟨x, c1, c2, c3, c4, c5⟩ := walkN_list n es j' b b hbw
  have hne : x ≠ [] := by rintro rfl; cases c1
  have hx0 : x[0]'(by omega) = b := by
    cases x with
    | nil => cases c2
    | cons y r => simpa using c2
  have hhd : x.headD 0 = b := by rw [headD_eq hne]; exact hx0
  have hlast : x.getLastD 0 = x[j']'(by omega) := by rw [getLastD_eq hne]; congr 1; omega
  have hcl : ∀ i (hi : i < x.length), walkN n es (j' + 1) x[i] x[i] := fun i hi => by
    have s1 := walk_seg c3 i (j' - i) (by omega)
    have s2 : walkN n es 1 (x[i + (j' - i)]'(by omega)) b := ⟨b, c5, by have := c4; rw [hlast] at this; simp only [show i + (j' - i) = j' by omega]; exact this, rfl⟩
    have s3 := walk_seg c3 0 i (by omega)
    simp only [Nat.zero_add] at s3
    rw [hx0] at s3
    have s4 := walkN_add n es _ _ _ _ _ (walkN_add n es _ _ _ _ _ s1 s2) s3
    rwa [show j' - i + 1 + i = j' + 1 by omega] at s4
  have hlt : ∀ i (hi : i < x.length), x[i] < n := fun i hi => by
    cases i with
    | zero => rw [hx0]; exact hbn
    | succ i => exact (walk_get n es x i hi c3).1
  have hle : ∀ i (hi : i < x.length), b ≤ x[i] := fun i hi => by
    rcases Nat.lt_or_ge x[i] b with h3 | h3
    · exact absurd ⟨hlt i hi, hcl i hi⟩ (hbm _ h3)
    · exact h3
  refine ⟨x, ⟨hne, c3, ?_, fun y hy => ?_, fun y hy => ?_⟩, by rw [hhd]; exact c4⟩
  · show x.Pairwise (· ≠ ·)
    rw [List.pairwise_iff_getElem]
    intro i k hi hk hik e
    have s1 := walk_seg c3 i (k - i) (by omega)
    simp only [show i + (k - i) = k by omega] at s1
    rw [← e] at s1
    exact hmin (k - i) (by omega) ⟨by omega, _, hlt i hi, s1⟩
  · obtain ⟨i, hi, rfl⟩ := List.getElem_of_mem hy
    exact hlt i hi
  · obtain ⟨i, hi, rfl⟩ := List.getElem_of_mem hy
    rw [hhd]
    exact hle i hi
theorem Rp_of_cyc {n : Nat} {es : List Bool} {x : List Nat} (h : CycL n es x) : x.headD 0 < n ∧ Rp n es (x.headD 0) (x.headD 0) := by
  have hne := h.1.ne
  cases x with
  | nil => exact absurd rfl hne
  | cons a r =>
    have ha : a < n := h.1.lt a (List.mem_cons_self ..)
    refine ⟨ha, ?_⟩
    have he := h.2
    cases r with
    | nil => exact ⟨a, ha, by simpa using he, .refl⟩
    | cons b r =>
      have hw := h.1.walk
      refine ⟨b, hw.1.1, hw.1.2, ?_⟩
      have h1 := walkN_rs n es b _ b _ .refl (walk_walkN n es (b :: r) b _ rfl hw.2 rfl)
      exact .step h1 ha (by simpa using he)
theorem acy_eq (s : Int) (es : List Bool) : acyD s es = acyQ s es := by
  cases ho : openB s es.length with
  | false => unfold acyD acyQ; rw [ho]; rfl
  | true =>
    have h1 : acyD s es = decide (allC s.toNat es s.toNat = []) := by unfold acyD; rw [ho]; rfl
    rw [h1, Bool.eq_iff_iff, decide_eq_true_iff, acyQ_iff ho]
    constructor
    · intro h a ha hr
      obtain ⟨x, hx⟩ := cyc_of_Rp ha hr
      have := mem_allC.2 hx
      rw [h] at this
      cases this
    · intro h
      refine List.eq_nil_iff_forall_not_mem.2 fun x hx => ?_
      obtain ⟨h2, h3⟩ := Rp_of_cyc (mem_allC.1 hx)
      exact h _ h2 h3
end Go.Proofs.Ytlkabhjkncklnaa
