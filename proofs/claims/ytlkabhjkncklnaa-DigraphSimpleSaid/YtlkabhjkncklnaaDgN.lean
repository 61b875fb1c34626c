
/-
Graphs: an acyclic graph always has a next vertex: plain facts.
-/
import Derived.Test.YtlkabhjkncklnaaDgZ
namespace Go.Proofs.Ytlkabhjkncklnaa
set_option linter.unusedSimpArgs false
set_option linter.unusedVariables false
open Go.RowKit

theorem all_in_len : ∀ (n : Nat) (out : List Nat), (∀ v, v < n → v ∈ out) → n ≤ out.length
  | 0, _, _ => Nat.zero_le _
  | n + 1, out, h => by
    have h1 := h n (by omega)
    have h2 := all_in_len n (out.erase n) fun v hv => (List.mem_erase_of_ne (by omega)).2 (h v (by omega))
    rw [List.length_erase_of_mem h1] at h2
    have := List.length_pos_of_mem h1
    omega
theorem out_missing {n : Nat} {out : List Nat} (h : out.length < n) : ∃ v, v < n ∧ v ∉ out := by
  refine Classical.byContradiction fun hn => ?_
  have := all_in_len n out fun v hv => Classical.byContradiction fun h2 => hn ⟨v, hv, h2⟩
  omega
open Classical in
theorem countP_lt {p q : Nat → Prop} {l : List Nat} (h : ∀ x ∈ l, p x → q x) {y : Nat} (hy : y ∈ l) (h1 : q y) (h2 : ¬ p y) : l.countP (fun x => decide (p x)) < l.countP (fun x => decide (q x)) := by
  induction l with
  | nil => simp at hy
  | cons x l ih =>
    rw [List.countP_cons, List.countP_cons]
    have hle : l.countP (fun x => decide (p x)) ≤ l.countP (fun x => decide (q x)) := List.countP_mono_left fun x hx hp => by
      simp only [decide_eq_true_eq] at hp ⊢
      exact h x (List.mem_cons_of_mem _ hx) hp
    rcases List.mem_cons.1 hy with rfl | hy
    · simp only [h1, h2, decide_true, decide_false]
      simp
      omega
    · have hlt := ih (fun x hx => h x (List.mem_cons_of_mem _ hx)) hy
      by_cases hp : p x
      · have hq := h x (List.mem_cons_self ..) hp
        simp only [hp, hq, decide_true]
        simp
        exact hlt
      · simp only [hp, decide_false]
        by_cases hq : q x
        · simp only [hq, decide_true]
          simp
          omega
        · simp only [hq, decide_false]
          simpa using hlt
theorem freeB_iff (n : Nat) (es : List Bool) (out : List Nat) (v : Nat) : freeB n es out v = true ↔ v ∉ out ∧ ∀ u, u < n → hasE n es u v = true → u ∈ out := by
  unfold freeB
  simp only [Bool.and_eq_true, Bool.not_eq_true', decide_eq_false_iff_not, List.all_eq_true, List.mem_range, Bool.or_eq_true, decide_eq_true_eq]
  constructor
  · rintro ⟨h1, h2⟩
    exact ⟨h1, fun u hu he => (h2 u hu).resolve_left (by rw [he]; simp)⟩
  · rintro ⟨h1, h2⟩
    refine ⟨h1, fun u hu => ?_⟩
    cases he : hasE n es u v with
    | false => exact .inl rfl
    | true => exact .inr (h2 u hu he)
open Classical in
theorem exists_free {n : Nat} {es : List Bool} (hac : ∀ a, a < n → ¬ Rp n es a a) (out : List Nat) : ∀ (m v : Nat), v < n → v ∉ out → (List.range n).countP (fun u => decide (Rp n es u v)) = m → ∃ x, x < n ∧ freeB n es out x = true := by
  intro m
  induction m using Nat.strongRecOn with
  | ind m ih =>
    intro v hv hvo hm
    by_cases hf : freeB n es out v = true
    · exact ⟨v, hv, hf⟩
    · have h1 : ∃ u, u < n ∧ hasE n es u v = true ∧ u ∉ out := by
        refine Classical.byContradiction fun hn => hf ((freeB_iff n es out v).2 ⟨hvo, fun u hu he => Classical.byContradiction fun h2 => hn ⟨u, hu, he, h2⟩⟩)
      obtain ⟨u, hu, he, huo⟩ := h1
      have huv : Rp n es u v := ⟨v, hv, he, .refl⟩
      refine ih _ ?_ u hu huo rfl
      rw [← hm]
      exact countP_lt (fun x _ hx => hx.trans huv) (List.mem_range.2 hu) huv (hac u hu)
theorem nextD_none {n : Nat} {es : List Bool} {out : List Nat} : ∀ d, d ≤ n → nextD n es out d = none → ∀ x, n - d ≤ x → x < n → freeB n es out x = false
  | 0, _, _, x, h1, h2 => by omega
  | d + 1, hd, h, x, h1, h2 => by
    unfold nextD at h
    split at h
    · cases h
    · rename_i hf
      by_cases e : x = n - (d + 1)
      · rw [e]
        simpa using hf
      · exact nextD_none d (by omega) h x (by omega) h2
theorem next_some {n : Nat} {es : List Bool} (hac : ∀ a, a < n → ¬ Rp n es a a) {out : List Nat} (h : out.length < n) : nextD n es out n ≠ none := by
  intro hn
  obtain ⟨v, hv, hvo⟩ := out_missing h
  obtain ⟨x, hx, hf⟩ := exists_free hac out _ v hv hvo rfl
  rw [nextD_none n (Nat.le_refl _) hn x (by omega) hx] at hf
  cases hf
theorem acyQ_iff {s : Int} {es : List Bool} (ho : openB s es.length = true) : acyQ s es = true ↔ ∀ a, a < s.toNat → ¬ Rp s.toNat es a a := by
  obtain ⟨n, rfl, -, -, hl⟩ := openB_iff ho
  unfold acyQ
  rw [ho, Bool.true_and, List.all_eq_true]
  show (∀ x, x ∈ List.range n → _) ↔ ∀ a, a < n → ¬ Rp n es a a
  constructor
  · intro h a ha h2
    have h3 := h a (List.mem_range.2 ha)
    have h4 := (reachW_iff hl ha ha).2 ((reachesF_iff n es a a).2 h2)
    unfold mt at h4
    have h4 : (reachW ((n : Int)).toNat es).getD (a * ((n : Int)).toNat + a) false = true := h4
    rw [h4] at h3
    cases h3
  · intro h a ha
    have ha := List.mem_range.1 ha
    rw [Bool.not_eq_true']
    refine Bool.eq_false_iff.2 fun h2 => h a ha ?_
    exact (reachesF_iff n es a a).1 ((reachW_iff hl ha ha).1 h2)
theorem nodup_len : ∀ (n : Nat) (l : List Nat), l.Nodup → (∀ x ∈ l, x < n) → l.length ≤ n
  | 0, l, _, h => by
    cases l with
    | nil => exact Nat.le_refl _
    | cons x l => exact absurd (h x (List.mem_cons_self ..)) (by omega)
  | n + 1, l, hn, h => by
    have h2 := nodup_len n (l.erase n) (hn.erase _) fun x hx => by
      have h3 := hn.mem_erase_iff.1 hx
      have := h x h3.2
      omega
    have h4 : l.length ≤ (l.erase n).length + 1 := by
      rw [List.length_erase]
      split <;> omega
    omega
theorem nextD_free {n : Nat} {es : List Bool} {out : List Nat} : ∀ d, d ≤ n → ∀ v, nextD n es out d = some v → freeB n es out v = true
  | 0, _, v, h => by cases h
  | d + 1, hd, v, h => by
    unfold nextD at h
    split at h
    · rename_i hf
      injection h with h
      exact h ▸ hf
    · exact nextD_free d (by omega) v h
theorem Rp.last' {n : Nat} {es : List Bool} {a b : Nat} (h : Rp n es a b) : ∃ u, (u = a ∨ Rp n es a u) ∧ hasE n es u b = true ∧ b < n := by
  obtain ⟨c, h1, h2, h3⟩ := h
  cases h3 with
  | refl => exact ⟨a, .inl rfl, h2, h1⟩
  | step h4 h5 h6 => exact ⟨_, .inr ⟨c, h1, h2, h4⟩, h6, h5⟩
theorem orderF_acyc {n : Nat} {es : List Bool} (hac : ∀ a, a < n → ¬ Rp n es a a) : ∀ (f : Nat) (out : List Nat), out.length + f = n → (orderF n es f out).2 = true
  | 0, _, _ => rfl
  | f + 1, out, h => by
    unfold orderF
    cases hN : nextD n es out n with
    | none => exact absurd hN (next_some hac (by omega))
    | some v => exact orderF_acyc hac f (out ++ [v]) (by simp; omega)
theorem orderF_fail {n : Nat} {es : List Bool} : ∀ (f : Nat) (out : List Nat), (orderF n es f out).2 = false → orderF n es f out = ([], false)
  | 0, _, h => by cases h
  | f + 1, out, h => by
    unfold orderF at h ⊢
    cases hN : nextD n es out n with
    | none => rfl
    | some v =>
      rw [hN] at h
      exact orderF_fail f (out ++ [v]) h
theorem orderF_cyc {n : Nat} {es : List Bool} : ∀ (f : Nat) (out : List Nat), out.length + f = n → out.Nodup → (∀ x ∈ out, x < n ∧ ¬ Rp n es x x) → (orderF n es f out).2 = true → ∀ a, a < n → ¬ Rp n es a a
  | 0, out, hl, hn, ho, _, a, ha => by
    have hin : a ∈ out := Classical.byContradiction fun h => by
      have h2 := nodup_len n (a :: out) (List.nodup_cons.2 ⟨h, hn⟩) fun x hx => by
        rcases List.mem_cons.1 hx with rfl | hx
        · exact ha
        · exact (ho x hx).1
      simp at h2
      omega
    exact (ho a hin).2
  | f + 1, out, hl, hn, ho, h, a0, ha0 => by
    unfold orderF at h
    cases hN : nextD n es out n with
    | none => rw [hN] at h; cases h
    | some v =>
      rw [hN] at h
      have hv := nextD_lt n es out n (Nat.le_refl _) v hN
      obtain ⟨hv1, hv2⟩ := (freeB_iff n es out v).1 (nextD_free n (Nat.le_refl _) v hN)
      refine orderF_cyc f (out ++ [v]) (by simp; omega) (List.nodup_append.2 ⟨hn, by simp, fun x hx y hy e => ?_⟩) (fun x hx => ?_) h a0 ha0
      · simp only [List.mem_singleton] at hy
        subst hy e
        exact hv1 hx
      · rcases List.mem_append.1 hx with hx | hx
        · exact ho x hx
        · simp only [List.mem_singleton] at hx
          subst hx
          refine ⟨hv, fun hr => ?_⟩
          obtain ⟨u, hu, he, -⟩ := hr.last'
          rcases hu with rfl | hu
          · exact hv1 (hv2 _ hv he)
          · have hun : u < n := by
              obtain ⟨_, _, _, h7⟩ := hu.last'
              exact h7
            exact (ho u (hv2 u hun he)).2 (Rp.trans ⟨x, hv, he, .refl⟩ hu)
/-- the package's order, and whether the graph is acyclic -/
theorem orderPub_eq {s : Int} {es : List Bool} : orderPub s es = if acyQ s es = true then (castL (orderF s.toNat es s.toNat []).1, true) else ([], false) := by
  unfold orderPub
  by_cases ho : openB s es.length = true
  · rw [if_pos ho]
    by_cases ha : acyQ s es = true
    · rw [if_pos ha, orderF_acyc ((acyQ_iff ho).1 ha) s.toNat [] (by simp)]
    · rw [if_neg ha]
      have h2 : (orderF s.toNat es s.toNat []).2 = false := Bool.eq_false_iff.2 fun h => ha ((acyQ_iff ho).2 (orderF_cyc s.toNat [] (by simp) List.nodup_nil (fun x hx => by simp at hx) h))
      rw [orderF_fail _ _ h2]
      rfl
  · rw [if_neg ho, if_neg]
    intro h
    unfold acyQ at h
    simp only [Bool.and_eq_true] at h
    exact ho h.1
end Go.Proofs.Ytlkabhjkncklnaa
