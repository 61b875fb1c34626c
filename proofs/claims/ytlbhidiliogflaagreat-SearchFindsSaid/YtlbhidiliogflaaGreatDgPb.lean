
/-
Graphs: the first path is that of the reference: plain facts.
-/
import Derived.Test.YtlbhidiliogflaaGreatDB
import Derived.Test.YtlbhidiliogflaaGreatDA
import Derived.Test.YtlbhidiliogflaaGreatDgLt
namespace Go.Proofs.YtlbhidiliogflaaGreat
set_option linter.unusedSimpArgs false
set_option linter.unusedVariables false
open Go.RowKit

/-! the order of paths: by length, then lexicographically -/
theorem ltI_app : ∀ (a b s t : List Int), a.length = b.length → ltI a b → ltI (a ++ s) (b ++ t)
  | [], [], _, _, _, h => by simp [ltI] at h
  | [], _ :: _, _, _, hl, _ => by simp at hl
  | _ :: _, [], _, _, hl, _ => by simp at hl
  | x :: a, y :: b, s, t, hl, h => by
    unfold ltI at h
    rw [List.cons_append, List.cons_append]
    unfold ltI
    rcases h with h | ⟨h, h'⟩
    · exact .inl h
    · exact .inr ⟨h, ltI_app a b s t (by simpa using hl) h'⟩
theorem ltI_pre : ∀ (a s t : List Int), ltI s t → ltI (a ++ s) (a ++ t)
  | [], _, _, h => h
  | x :: a, s, t, h => by
    rw [List.cons_append, List.cons_append]
    unfold ltI
    exact .inr ⟨rfl, ltI_pre a s t h⟩
def slt (l m : List Nat) : Prop := ltLL (castL l) (castL m)
theorem slt_irrefl (l : List Nat) : ¬ slt l l := ltLL_irrefl _
theorem slt_trans {a b c : List Nat} (h : slt a b) (k : slt b c) : slt a c := ltLL_trans h k
theorem slt_total (a b : List Nat) : slt a b ∨ a = b ∨ slt b a := by
  rcases ltLL_total (castL a) (castL b) with h | h | h
  · exact .inl h
  · exact .inr (.inl (castL_inj.1 h))
  · exact .inr (.inr h)
theorem slt_len {a b : List Nat} (h : a.length < b.length) : slt a b := .inl (by rw [castL_len, castL_len]; exact h)
theorem slt_le {a b : List Nat} (h : slt a b) : a.length ≤ b.length := by
  rcases h with h | ⟨h, -⟩ <;> rw [castL_len, castL_len] at h <;> omega
theorem slt_snoc {a b : List Nat} (h : slt a b) (x y : Nat) : slt (a ++ [x]) (b ++ [y]) := by
  rcases h with h | ⟨h, h'⟩
  · rw [castL_len, castL_len] at h
    exact slt_len (by simp; omega)
  · refine .inr ⟨?_, ?_⟩
    · rw [castL_len, castL_len] at h ⊢
      simp [h]
    · rw [castL_snoc, castL_snoc]
      exact ltI_app _ _ _ _ h h'
theorem slt_last (a : List Nat) {x y : Nat} (h : x < y) : slt (a ++ [x]) (a ++ [y]) := by
  refine .inr ⟨by rw [castL_len, castL_len]; simp, ?_⟩
  rw [castL_snoc, castL_snoc]
  refine ltI_pre _ _ _ ?_
  unfold ltI
  exact .inl (by omega)
theorem slt_of_not {a b : List Nat} (h : ¬ slt a b) : b = a ∨ slt b a := by
  rcases slt_total a b with h1 | h1 | h1
  · exact absurd h1 h
  · exact .inl h1.symm
  · exact .inr h1
/-! walks from a vertex, built from behind -/
inductive Wk (n : Nat) (es : List Bool) (a : Nat) : List Nat → Prop
  | one : Wk n es a [a]
  | snoc {l : List Nat} {c : Nat} : Wk n es a l → c < n → hasE n es (l.getLastD 0) c = true → Wk n es a (l ++ [c])
theorem last_snoc (l : List Nat) (c : Nat) : (l ++ [c]).getLastD 0 = c := by simp
theorem Wk.ne {n : Nat} {es : List Bool} {a : Nat} {l : List Nat} (h : Wk n es a l) : l ≠ [] := by cases h <;> simp
theorem Wk.rs {n : Nat} {es : List Bool} {a : Nat} {l : List Nat} (h : Wk n es a l) : Rs n es a (l.getLastD 0) := by
  induction h with
  | one => exact .refl
  | snoc _ h1 h2 ih => rw [last_snoc]; exact .step ih h1 h2
theorem Wk.lt {n : Nat} {es : List Bool} {a : Nat} {l : List Nat} (ha : a < n) (h : Wk n es a l) : ∀ x ∈ l, x < n := by
  induction h with
  | one => intro x hx; simp only [List.mem_singleton] at hx; omega
  | snoc _ h1 _ ih =>
    intro x hx
    rcases List.mem_append.1 hx with hx | hx
    · exact ih x hx
    · simp only [List.mem_singleton] at hx
      omega
theorem wk_of_walk (n : Nat) (es : List Bool) (a : Nat) : ∀ (r p : List Nat), Wk n es a p → Walk n es (p.getLastD 0 :: r) → Wk n es a (p ++ r)
  | [], p, h, _ => by simpa using h
  | b :: r, p, h, hw => by
    obtain ⟨⟨h1, h2⟩, h3⟩ := hw
    have := wk_of_walk n es a r (p ++ [b]) (h.snoc h1 h2) (by rw [last_snoc]; exact h3)
    simpa using this
theorem Walk.wk {n : Nat} {es : List Bool} {a : Nat} {l : List Nat} (h : l.head? = some a) (hw : Walk n es l) : Wk n es a l := by
  cases l with
  | nil => cases h
  | cons x r =>
    simp only [List.head?_cons, Option.some.injEq] at h
    subst h
    exact wk_of_walk n es x r [x] .one hw
/-- a least walk to its end -/
def MinW (n : Nat) (es : List Bool) (a : Nat) (p : List Nat) : Prop := Wk n es a p ∧ ∀ w, Wk n es a w → w.getLastD 0 = p.getLastD 0 → ¬ slt w p
theorem Wk.cross {n : Nat} {es : List Bool} {a : Nat} {s : List Bool} {w : List Nat} (h : Wk n es a w) (ha : seenB s a) (hn : ¬ seenB s (w.getLastD 0)) :
    ∃ w1 y, Wk n es a w1 ∧ seenB s (w1.getLastD 0) ∧ ¬ seenB s y ∧ y < n ∧ hasE n es (w1.getLastD 0) y = true ∧ w1.length + 1 ≤ w.length := by
  induction h with
  | one => exact absurd ha hn
  | snoc hw h1 h2 ih =>
    rename_i l c
    rw [last_snoc] at hn
    by_cases hs : seenB s (l.getLastD 0)
    · exact ⟨l, c, hw, hs, hn, h1, h2, by simp⟩
    · obtain ⟨w1, y, b1, b2, b3, b4, b5, b6⟩ := ih hs
      exact ⟨w1, y, b1, b2, b3, b4, b5, by simp; omega⟩
structure BI (n : Nat) (es : List Bool) (a : Nat) (s : List Bool) (q : List (List Nat)) (Pd : Nat → Prop) : Prop where
  ln : s.length = n
  mn : ∀ x ∈ q, MinW n es a x
  pw : q.Pairwise slt
  sn : ∀ v, seenB s v ↔ Pd v ∨ ∃ x ∈ q, x.getLastD 0 = v
  ed : ∀ v, Pd v → ∀ c, c < n → hasE n es v c = true → seenB s c
  sa : seenB s a
  dl : ∀ x ∈ q, ∀ h, q.head? = some h → slt x.dropLast h
structure RI (n : Nat) (es : List Bool) (a : Nat) (l : List Nat) (k : Nat) (s : List Bool) (q : List (List Nat)) (Pd : Nat → Prop) : Prop where
  ln : s.length = n
  mn : ∀ x ∈ q, MinW n es a x
  pw : q.Pairwise slt
  sn : ∀ v, seenB s v ↔ (Pd v ∨ v = l.getLastD 0) ∨ ∃ x ∈ q, x.getLastD 0 = v
  ed : ∀ v, Pd v → ∀ c, c < n → hasE n es v c = true → seenB s c
  el : ∀ c, c < k → hasE n es (l.getLastD 0) c = true → seenB s c
  sa : seenB s a
  gt : ∀ x ∈ q, slt l x
  dl : ∀ x ∈ q, slt x.dropLast l ∨ ∃ c, c < k ∧ x = l ++ [c]
section
variable {n : Nat} {es : List Bool} {a : Nat} {l : List Nat} {s : List Bool} {q : List (List Nat)} {Pd : Nat → Prop}
theorem RI.new {k : Nat} (hl : MinW n es a l) (h : RI n es a l k s q Pd) (hk : k < n) (he : hasE n es (l.getLastD 0) k = true) (hs : ¬ seenB s k) : MinW n es a (l ++ [k]) := by
  refine ⟨hl.1.snoc hk he, fun w hw hlast => ?_⟩
  rw [last_snoc] at hlast
  cases hw with
  | one =>
    simp only [List.getLastD_cons, List.getLastD_nil] at hlast
    subst hlast
    exact absurd h.sa hs
  | snoc hw h1 h2 =>
    rename_i w' c
    rw [last_snoc] at hlast
    subst hlast
    have key : ∀ y, MinW n es a y → y.getLastD 0 = w'.getLastD 0 → (y = l ∨ slt l y) → ¬ slt (w' ++ [c]) (l ++ [c]) := fun y hy hyl hyo hlt => by
      have h3 : w' = l ∨ slt l w' := by
        rcases slt_of_not (hy.2 w' hw hyl.symm) with h4 | h4
        · rw [← h4]; exact hyo
        · rcases hyo with rfl | h5
          · exact .inr h4
          · exact .inr (slt_trans h5 h4)
      rcases h3 with rfl | h3
      · exact slt_irrefl _ hlt
      · exact slt_irrefl _ (slt_trans hlt (slt_snoc h3 c c))
    by_cases hu : seenB s (w'.getLastD 0)
    · rcases (h.sn _).1 hu with (h3 | h3) | ⟨y, hy, h3⟩
      · exact absurd (h.ed _ h3 c h1 h2) hs
      · exact key l hl h3.symm (.inl rfl)
      · exact key y (h.mn y hy) h3 (.inr (h.gt y hy))
    · obtain ⟨w1, y, b1, b2, b3, b4, b5, b6⟩ := hw.cross h.sa hu
      have h4 : w1 = l ∨ slt l w1 := by
        rcases (h.sn _).1 b2 with (h3 | h3) | ⟨z, hz, h3⟩
        · exact absurd (h.ed _ h3 y b4 b5) b3
        · rcases slt_of_not (hl.2 w1 b1 h3) with h5 | h5
          · exact .inl h5.symm
          · exact .inr h5
        · rcases slt_of_not ((h.mn z hz).2 w1 b1 h3.symm) with h5 | h5
          · exact .inr (h5 ▸ h.gt z hz)
          · exact .inr (slt_trans (h.gt z hz) h5)
      have h5 : l.length ≤ w1.length := by
        rcases h4 with rfl | h4
        · exact Nat.le_refl _
        · exact slt_le h4
      exact fun hlt => slt_irrefl _ (slt_trans hlt (slt_snoc (slt_len (by omega)) c c))
theorem RI.row (hb : BI n es a s (l :: q) Pd) : ∀ k, k ≤ n → RI n es a l k (bfsRow n es l (s, q) k).1 (bfsRow n es l (s, q) k).2 Pd
  | 0, _ => by
    have hpw := List.pairwise_cons.1 hb.pw
    refine ⟨hb.ln, fun x hx => hb.mn x (List.mem_cons_of_mem _ hx), hpw.2, fun v => ?_, hb.ed, fun c hc => absurd hc (by omega), hb.sa, hpw.1, fun x hx => .inl (hb.dl x (List.mem_cons_of_mem _ hx) l rfl)⟩
    show seenB s v ↔ _
    rw [hb.sn v]
    constructor
    · rintro (h | ⟨x, hx, h⟩)
      · exact .inl (.inl h)
      · rcases List.mem_cons.1 hx with rfl | hx
        · exact .inl (.inr h.symm)
        · exact .inr ⟨x, hx, h⟩
    · rintro ((h | h) | ⟨x, hx, h⟩)
      · exact .inl h
      · exact .inr ⟨l, List.mem_cons_self .., h.symm⟩
      · exact .inr ⟨x, List.mem_cons_of_mem _ hx, h⟩
  | k + 1, hk => by
    have ih := RI.row hb k (by omega)
    have hl := hb.mn l (List.mem_cons_self ..)
    rw [bfsRow_succ]
    generalize bfsRow n es l (s, q) k = p at *
    obtain ⟨s1, q1⟩ := p
    dsimp only at ih
    unfold bfsIn
    dsimp only
    have hks : k < s1.length := by rw [ih.ln]; omega
    split
    · rename_i hc
      obtain ⟨he, hg⟩ := hc
      have hns := (not_seen hks).1 hg
      have hnew := ih.new hl (by omega) he hns
      refine ⟨by simpa using ih.ln, fun x hx => ?_, ?_, fun v => ?_, fun v hv c hc hec => (seen_set hks c).2 (.inl (ih.ed v hv c hc hec)), fun c hc hec => ?_, (seen_set hks a).2 (.inl ih.sa), fun x hx => ?_, fun x hx => ?_⟩
      · rcases List.mem_append.1 hx with hx | hx
        · exact ih.mn x hx
        · rw [List.mem_singleton] at hx
          exact hx ▸ hnew
      · rw [List.pairwise_append]
        refine ⟨ih.pw, List.pairwise_singleton _ _, fun x hx y hy => ?_⟩
        rw [List.mem_singleton] at hy
        subst hy
        rcases ih.dl x hx with h1 | ⟨c, h1, rfl⟩
        · have hxne : x ≠ [] := (ih.mn x hx).1.ne
          have := slt_snoc h1 (x.getLast hxne) k
          rwa [List.dropLast_concat_getLast] at this
        · exact slt_last l h1
      · rw [seen_set hks, ih.sn]
        constructor
        · rintro ((h | ⟨x, hx, h⟩) | h)
          · exact .inl h
          · exact .inr ⟨x, List.mem_append_left _ hx, h⟩
          · exact .inr ⟨l ++ [k], by simp, by rw [last_snoc]; exact h.symm⟩
        · rintro (h | ⟨x, hx, h⟩)
          · exact .inl (.inl h)
          · rcases List.mem_append.1 hx with hx | hx
            · exact .inl (.inr ⟨x, hx, h⟩)
            · rw [List.mem_singleton] at hx
              subst hx
              rw [last_snoc] at h
              exact .inr h.symm
      · rcases Nat.lt_or_ge c k with h1 | h1
        · exact (seen_set hks c).2 (.inl (ih.el c h1 hec))
        · exact (seen_set hks c).2 (.inr (by omega))
      · rcases List.mem_append.1 hx with hx | hx
        · exact ih.gt x hx
        · rw [List.mem_singleton] at hx
          subst hx
          exact slt_len (by simp)
      · rcases List.mem_append.1 hx with hx | hx
        · rcases ih.dl x hx with h1 | ⟨c, h1, h2⟩
          · exact .inl h1
          · exact .inr ⟨c, by omega, h2⟩
        · rw [List.mem_singleton] at hx
          exact .inr ⟨k, by omega, hx⟩
    · rename_i hc
      refine ⟨ih.ln, ih.mn, ih.pw, ih.sn, ih.ed, fun c hc2 hec => ?_, ih.sa, ih.gt, fun x hx => ?_⟩
      · rcases Nat.lt_or_ge c k with h1 | h1
        · exact ih.el c h1 hec
        · obtain rfl : c = k := by omega
          refine Classical.byContradiction fun h2 => hc ⟨hec, (not_seen hks).2 h2⟩
      · rcases ih.dl x hx with h1 | ⟨c, h1, h2⟩
        · exact .inl h1
        · exact .inr ⟨c, by omega, h2⟩
theorem RI.next (h : RI n es a l n s q Pd) : BI n es a s q fun v => Pd v ∨ v = l.getLastD 0 := by
  refine ⟨h.ln, h.mn, h.pw, h.sn, fun v hv c hc hec => ?_, h.sa, fun x hx y hy => ?_⟩
  · rcases hv with hv | rfl
    · exact h.ed v hv c hc hec
    · exact h.el c hc hec
  · have hyq : y ∈ q := List.mem_of_head? hy
    rcases h.dl x hx with h1 | ⟨c, -, rfl⟩
    · exact slt_trans h1 (h.gt y hyq)
    · rw [List.dropLast_concat]
      exact h.gt y hyq
end
theorem bfs_min {n : Nat} {es : List Bool} {a t : Nat} : ∀ (g : Nat) (s : List Bool) (q : List (List Nat)) (Pd : Nat → Prop), BI n es a s q Pd → bfs n es t g s q ≠ [] → MinW n es a (bfs n es t g s q)
  | 0, _, _, _, _, h => absurd rfl h
  | g + 1, s, [], _, _, h => absurd rfl h
  | g + 1, s, l :: q, Pd, hb, h => by
    unfold bfs at h ⊢
    split
    · exact hb.mn l (List.mem_cons_self ..)
    · rename_i hne
      rw [if_neg hne] at h
      exact bfs_min g _ _ _ (RI.row hb n (Nat.le_refl _)).next h
theorem path_min {n : Nat} {es : List Bool} {a t : Nat} (ha : a < n) (h : pathF n es a t ≠ []) : MinW n es a (pathF n es a t) := by
  refine bfs_min n _ _ (fun _ => False) ⟨by simp, fun x hx => ?_, List.pairwise_singleton _ _, fun v => ?_, fun v hv => hv.elim, (seen_set (by simpa using ha) a).2 (.inr rfl), fun x hx y hy => ?_⟩ h
  · rw [List.mem_singleton] at hx
    subst hx
    refine ⟨.one, fun w hw _ hlt => ?_⟩
    have h1 := slt_le hlt
    rcases hlt with h2 | ⟨h2, h3⟩
    · rw [castL_len, castL_len] at h2
      have : 0 < w.length := List.length_pos_iff.2 hw.ne
      have e : [a].length = 1 := rfl
      omega
    · cases hw with
      | one => exact ltI_irrefl _ h3
      | snoc hw _ _ =>
        have := List.length_pos_iff.2 hw.ne
        have e : [a].length = 1 := rfl
        rw [List.length_append, List.length_singleton] at h1
        omega
  · rw [seen_set (by simpa using ha)]
    have h0 : ¬ seenB (List.replicate n false) v := fun hv => by
      unfold seenB at hv
      rw [List.getD_eq_getElem?_getD, List.getElem?_replicate] at hv
      split at hv <;> cases hv
    constructor
    · rintro (h1 | h1)
      · exact absurd h1 h0
      · exact .inr ⟨[a], by simp, by simp [h1]⟩
    · rintro (h1 | ⟨x, hx, h1⟩)
      · exact h1.elim
      · rw [List.mem_singleton] at hx
        subst hx
        exact .inr (by simpa using h1.symm)
  · rw [List.mem_singleton] at hx
    subst hx
    simp only [List.head?_cons, Option.some.injEq] at hy
    subst hy
    exact slt_len (by simp)
/-! the reference's levels -/
def levR (n : Nat) (es : List Bool) (a : Nat) : Nat → List (List Nat)
  | 0 => [[a]]
  | k + 1 => levelR n es (levR n es a k) (levR n es a k).length
theorem mem_levelR {n : Nat} {es : List Bool} {ls : List (List Nat)} {x : List Nat} : x ∈ levelR n es ls ls.length ↔ ∃ l ∈ ls, ∃ v, v < n ∧ hasE n es (l.getLastD 0) v = true ∧ v ∉ l ∧ x = l ++ [v] := by
  unfold levelR extR
  simp only [List.take_length, List.mem_flatMap, List.mem_map, List.mem_filter, List.mem_range, Bool.and_eq_true, Bool.not_eq_true', decide_eq_false_iff_not]
  constructor
  · rintro ⟨l, hl, v, ⟨h1, h2, h3⟩, rfl⟩
    exact ⟨l, hl, v, h1, h2, h3, rfl⟩
  · rintro ⟨l, hl, v, h1, h2, h3, rfl⟩
    exact ⟨l, hl, v, ⟨h1, h2, h3⟩, rfl⟩
theorem levR_sound {n : Nat} {es : List Bool} {a : Nat} : ∀ (k : Nat) (x : List Nat), x ∈ levR n es a k → Wk n es a x ∧ x.Nodup ∧ x.length = k + 1
  | 0, x, h => by
    have h : x = [a] := by simpa [levR] using h
    subst h
    exact ⟨.one, by simp, rfl⟩
  | k + 1, x, h => by
    obtain ⟨l, hl, v, h1, h2, h3, rfl⟩ := mem_levelR.1 h
    obtain ⟨b1, b2, b3⟩ := levR_sound k l hl
    exact ⟨b1.snoc h1 h2, List.nodup_append.2 ⟨b2, by simp, fun x hx y hy e => h3 (by rw [List.mem_singleton] at hy; rw [← hy, ← e]; exact hx)⟩, by simp [b3]⟩
theorem levR_complete {n : Nat} {es : List Bool} {a : Nat} {x : List Nat} (h : Wk n es a x) (hn : x.Nodup) : x ∈ levR n es a (x.length - 1) := by
  induction h with
  | one => simp [levR]
  | snoc hw h1 h2 ih =>
    rename_i l c
    obtain ⟨n1, -, n3⟩ := List.nodup_append.1 hn
    have h3 := ih n1
    have hl : 0 < l.length := List.length_pos_iff.2 hw.ne
    have e : (l ++ [c]).length - 1 = (l.length - 1) + 1 := by simp; omega
    rw [e]
    exact mem_levelR.2 ⟨l, h3, c, h1, h2, fun hc => n3 c hc c (by simp) rfl, rfl⟩
theorem pw_flatMap {α : Type} {R : List Nat → List Nat → Prop} {f : α → List (List Nat)} : ∀ (l : List α), (∀ x ∈ l, (f x).Pairwise R) → l.Pairwise (fun x y => ∀ u ∈ f x, ∀ v ∈ f y, R u v) → (l.flatMap f).Pairwise R
  | [], _, _ => .nil
  | x :: l, h1, h2 => by
    rw [List.flatMap_cons, List.pairwise_append]
    have h3 := List.pairwise_cons.1 h2
    refine ⟨h1 x (List.mem_cons_self ..), pw_flatMap l (fun y hy => h1 y (List.mem_cons_of_mem _ hy)) h3.2, fun u hu v hv => ?_⟩
    obtain ⟨y, hy, hv⟩ := List.mem_flatMap.1 hv
    exact h3.1 y hy u hu v hv
theorem range_pw : ∀ n : Nat, (List.range n).Pairwise (· < ·)
  | n => List.pairwise_lt_range
theorem extR_pw (n : Nat) (es : List Bool) (l : List Nat) (k : Nat) : (extR n es l k).Pairwise slt := by
  unfold extR
  rw [List.pairwise_map]
  exact ((range_pw k).filter _).imp fun h => slt_last l h
theorem levelR_pw {n : Nat} {es : List Bool} {ls : List (List Nat)} (h : ls.Pairwise slt) (k : Nat) : (levelR n es ls k).Pairwise slt := by
  unfold levelR
  refine pw_flatMap _ (fun l _ => extR_pw n es l n) ((h.sublist (List.take_sublist k ls)).imp fun {x y} hxy u hu v hv => ?_)
  unfold extR at hu hv
  simp only [List.mem_map] at hu hv
  obtain ⟨c, -, rfl⟩ := hu
  obtain ⟨d, -, rfl⟩ := hv
  exact slt_snoc hxy c d
theorem levR_pw {n : Nat} {es : List Bool} {a : Nat} : ∀ k, (levR n es a k).Pairwise slt
  | 0 => List.pairwise_singleton _ _
  | k + 1 => levelR_pw (levR_pw k) _
/-- the first path of the reference -/
theorem pathR_spec {n : Nat} {es : List Bool} {a t : Nat} : ∀ (r k : Nat), (pathR n es t r (levR n es a k) = [] → ∀ j, k ≤ j → j < k + r → ∀ x ∈ levR n es a j, x.getLastD 0 ≠ t) ∧
    (pathR n es t r (levR n es a k) ≠ [] → (∃ j, pathR n es t r (levR n es a k) ∈ levR n es a j) ∧ (pathR n es t r (levR n es a k)).getLastD 0 = t ∧ ∀ j, k ≤ j → ∀ x ∈ levR n es a j, x.getLastD 0 = t → ¬ slt x (pathR n es t r (levR n es a k)))
  | 0, k => ⟨fun _ j h1 h2 => absurd h2 (by omega), fun h => absurd rfl h⟩
  | r + 1, k => by
    unfold pathR
    cases hf : (levR n es a k).find? (fun l => l.getLastD 0 == t) with
    | some l =>
      obtain ⟨h1, as1, bs1, h2, h3⟩ := List.find?_eq_some_iff_append.1 hf
      have hl : l ∈ levR n es a k := by rw [h2]; simp
      have hne : l ≠ [] := (levR_sound k l hl).1.ne
      refine ⟨fun h => absurd h hne, fun _ => ⟨⟨k, hl⟩, by simpa using h1, fun j hj x hx hxt hlt => ?_⟩⟩
      rcases Nat.lt_or_ge k j with h4 | h4
      · have e1 := (levR_sound j x hx).2.2
        have e2 := (levR_sound k l hl).2.2
        have hlt : slt x l := hlt
        have := slt_le hlt
        omega
      · have hlt : slt x l := hlt
        obtain rfl : j = k := by omega
        rw [h2] at hx
        have hpw := levR_pw (n := n) (es := es) (a := a) j
        rw [h2, List.pairwise_append, List.pairwise_cons] at hpw
        rcases List.mem_append.1 hx with hx | hx
        · have := h3 x hx
          rw [hxt] at this
          simp at this
        · rcases List.mem_cons.1 hx with rfl | hx
          · exact slt_irrefl _ hlt
          · exact slt_irrefl _ (slt_trans hlt (hpw.2.1.1 x hx))
    | none =>
      have h0 := List.find?_eq_none.1 hf
      have ih := pathR_spec (n := n) (es := es) (a := a) (t := t) r (k + 1)
      dsimp only
      have e : levelR n es (levR n es a k) (levR n es a k).length = levR n es a (k + 1) := rfl
      rw [e]
      refine ⟨fun h j hj hjr x hx => ?_, fun h => ?_⟩
      · rcases Nat.lt_or_ge k j with h4 | h4
        · exact ih.1 h j (by omega) (by omega) x hx
        · obtain rfl : j = k := by omega
          have := h0 x hx
          simpa using this
      · obtain ⟨b1, b2, b3⟩ := ih.2 h
        refine ⟨b1, b2, fun j hj x hx hxt => ?_⟩
        rcases Nat.lt_or_ge k j with h4 | h4
        · exact b3 j (by omega) x hx hxt
        · obtain rfl : j = k := by omega
          have := h0 x hx
          rw [hxt] at this
          simp at this
/-- a least walk has no vertex twice -/
theorem wk_cut {n : Nat} {es : List Bool} {a : Nat} {w : List Nat} (h : Wk n es a w) : ∀ x ∈ w, ∃ w', Wk n es a w' ∧ w'.getLastD 0 = x ∧ w'.length ≤ w.length := by
  induction h with
  | one =>
    intro x hx
    rw [List.mem_singleton] at hx
    subst hx
    exact ⟨[x], .one, rfl, Nat.le_refl _⟩
  | snoc hw h1 h2 ih =>
    rename_i l c
    intro x hx
    rcases List.mem_append.1 hx with hx | hx
    · obtain ⟨w', b1, b2, b3⟩ := ih x hx
      exact ⟨w', b1, b2, by simp; omega⟩
    · rw [List.mem_singleton] at hx
      subst hx
      exact ⟨l ++ [x], hw.snoc h1 h2, by simp, Nat.le_refl _⟩
theorem wk_simple {n : Nat} {es : List Bool} {a : Nat} {w : List Nat} (h : Wk n es a w) : w.Nodup ∨ ∃ w', Wk n es a w' ∧ w'.getLastD 0 = w.getLastD 0 ∧ w'.length < w.length := by
  induction h with
  | one => exact .inl (by simp)
  | snoc hw h1 h2 ih =>
    rename_i l c
    rcases ih with ih | ⟨w', b1, b2, b3⟩
    · by_cases hc : c ∈ l
      · obtain ⟨w', b1, b2, b3⟩ := wk_cut hw c hc
        exact .inr ⟨w', b1, by rw [b2]; simp, by simp; omega⟩
      · exact .inl (List.nodup_append.2 ⟨ih, by simp, fun x hx y hy e => hc (by rw [List.mem_singleton] at hy; rw [← hy, ← e]; exact hx)⟩)
    · exact .inr ⟨w' ++ [c], b1.snoc h1 (by rw [b2]; exact h2), by simp, by simp; omega⟩
theorem MinW.nodup {n : Nat} {es : List Bool} {a : Nat} {w : List Nat} (h : MinW n es a w) : w.Nodup := by
  rcases wk_simple h.1 with h1 | ⟨w', b1, b2, b3⟩
  · exact h1
  · exact absurd (slt_len b3) (h.2 w' b1 b2)
theorem path_eq {n : Nat} {es : List Bool} {a t : Nat} (ha : a < n) : pathF n es a t = pathR n es t n [[a]] := by
  have hs := pathR_spec (n := n) (es := es) (a := a) (t := t) n 0
  have e0 : levR n es a 0 = [[a]] := rfl
  rw [e0] at hs
  by_cases hp : pathF n es a t = []
  · have hno := path_none ha hp
    rw [hp]
    by_cases hq : pathR n es t n [[a]] = []
    · exact hq.symm
    · obtain ⟨⟨j, h1⟩, h2, -⟩ := hs.2 hq
      exact absurd (h2 ▸ (levR_sound j _ h1).1.rs) hno
  · have hm := path_min ha hp
    obtain ⟨-, -, hlast, hlen⟩ := path_some ha hp
    have hin := levR_complete hm.1 hm.nodup
    have hq : pathR n es t n [[a]] ≠ [] := fun hq => hs.1 hq _ (Nat.zero_le _) (by have := List.length_pos_iff.2 hp; omega) _ hin hlast
    obtain ⟨⟨j, h1⟩, h2, h3⟩ := hs.2 hq
    have h4 := h3 _ (Nat.zero_le _) _ hin hlast
    have h5 := hm.2 _ (levR_sound j _ h1).1 (h2.trans hlast.symm)
    rcases slt_total (pathF n es a t) (pathR n es t n [[a]]) with h6 | h6 | h6
    · exact absurd h6 h4
    · exact h6
    · exact absurd h6 h5
theorem pathPub_eq (s : Int) (es : List Bool) (a b : Int) : pathPub s es a b = pathQ s es a b := by
  unfold pathPub pathQ
  split
  · rename_i h
    obtain ⟨-, ⟨h1, h2⟩, -, -⟩ := h
    rw [path_eq (by omega)]
  · rfl
end Go.Proofs.YtlbhidiliogflaaGreat
