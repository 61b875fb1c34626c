
/-
Sorting in place, plain: swaps, insertion, rotation, merging. Nothing here speaks of the program.
-/
import Derived.Test.YtcddllaljgfjbaaLib
namespace Go.Proofs.Ytcddllaljgfjbaa.St
set_option linter.unusedSimpArgs false
set_option linter.unusedVariables false
variable {α : Type}

/-- a rearrangement of the places from a to b -/
structure Mv (a b : Nat) (σ : Nat → Nat) : Prop where
  inv : ∃ τ : Nat → Nat, (∀ i, τ (σ i) = i) ∧ (∀ i, σ (τ i) = i)
  out : ∀ i, i < a ∨ b ≤ i → σ i = i
theorem Mv.refl (a b : Nat) : Mv a b (fun i => i) := ⟨⟨fun i => i, fun _ => rfl, fun _ => rfl⟩, fun _ _ => rfl⟩
theorem Mv.comp {a b : Nat} {σ τ : Nat → Nat} (h : Mv a b σ) (k : Mv a b τ) : Mv a b (fun i => σ (τ i)) := by
  obtain ⟨s, s1, s2⟩ := h.inv
  obtain ⟨t, t1, t2⟩ := k.inv
  refine ⟨⟨fun i => t (s i), fun i => ?_, fun i => ?_⟩, fun i hi => ?_⟩
  · show t (s (σ (τ i))) = i
    rw [s1, t1]
  · show σ (τ (t (s i))) = i
    rw [t2, s2]
  · show σ (τ i) = i
    rw [k.out i hi, h.out i hi]
theorem Mv.wide {a b a' b' : Nat} {σ : Nat → Nat} (h : Mv a b σ) (h1 : a' ≤ a) (h2 : b ≤ b') : Mv a' b' σ := ⟨h.inv, fun i hi => h.out i (by omega)⟩
theorem Mv.inj {a b : Nat} {σ : Nat → Nat} (h : Mv a b σ) {i j : Nat} (e : σ i = σ j) : i = j := by
  obtain ⟨s, s1, s2⟩ := h.inv
  rw [← s1 i, e, s1]
theorem Mv.within {a b : Nat} {σ : Nat → Nat} (h : Mv a b σ) {i : Nat} (h1 : a ≤ i) (h2 : i < b) : a ≤ σ i ∧ σ i < b := by
  by_cases hc : a ≤ σ i ∧ σ i < b
  · exact hc
  · have h3 := h.out (σ i) (by omega)
    have h4 := h.inj h3
    omega
def sw (i j k : Nat) : Nat := if k = i then j else if k = j then i else k
theorem sw_sw (i j k : Nat) : sw i j (sw i j k) = k := by
  unfold sw
  by_cases h1 : k = i
  · subst h1
    by_cases h2 : j = k
    · simp [h2]
    · simp [h2]
  · by_cases h2 : k = j
    · subst h2; simp [h1]
    · simp [h1, h2]
theorem Mv.swap {a b i j : Nat} (h1 : a ≤ i ∧ i < b) (h2 : a ≤ j ∧ j < b) : Mv a b (sw i j) :=
  ⟨⟨sw i j, sw_sw i j, sw_sw i j⟩, fun k hk => by unfold sw; rw [if_neg (by omega), if_neg (by omega)]⟩
/-- d' holds what d holds, rearranged between a and b -/
def Re (a b : Nat) (d d' : Nat → α) : Prop := ∃ σ, Mv a b σ ∧ ∀ k, d' k = d (σ k)
theorem Re.refl (a b : Nat) (d : Nat → α) : Re a b d d := ⟨_, Mv.refl a b, fun _ => rfl⟩
theorem Re.trans {a b : Nat} {d d' d2 : Nat → α} (h : Re a b d d') (k : Re a b d' d2) : Re a b d d2 := by
  obtain ⟨σ, s1, s2⟩ := h
  obtain ⟨τ, t1, t2⟩ := k
  exact ⟨_, s1.comp t1, fun i => by rw [t2, s2]⟩
theorem Re.wide {a b a' b' : Nat} {d d' : Nat → α} (h : Re a b d d') (h1 : a' ≤ a) (h2 : b ≤ b') : Re a' b' d d' := by
  obtain ⟨σ, s1, s2⟩ := h
  exact ⟨σ, s1.wide h1 h2, s2⟩
theorem Re.out {a b : Nat} {d d' : Nat → α} (h : Re a b d d') {i : Nat} (hi : i < a ∨ b ≤ i) : d' i = d i := by
  obtain ⟨σ, s1, s2⟩ := h
  rw [s2, s1.out i hi]
theorem Re.all {a b : Nat} {d d' : Nat → α} (h : Re a b d d') (p : α → Prop) (hp : ∀ i, a ≤ i → i < b → p (d i)) : ∀ i, a ≤ i → i < b → p (d' i) := by
  obtain ⟨σ, s1, s2⟩ := h
  intro i h1 h2
  rw [s2]
  obtain ⟨h3, h4⟩ := s1.within h1 h2
  exact hp _ h3 h4
theorem Re.swap {a b i j : Nat} (d : Nat → α) (h1 : a ≤ i ∧ i < b) (h2 : a ≤ j ∧ j < b) : Re a b d (fun k => d (sw i j k)) := ⟨_, Mv.swap h1 h2, fun _ => rfl⟩
/-- an order with ties -/
structure Od (lt : α → α → Bool) : Prop where
  tr : ∀ x y z, lt y x = false → lt z y = false → lt z x = false
  asy : ∀ x y, lt x y = true → lt y x = false
def So (lt : α → α → Bool) (a b : Nat) (d : Nat → α) : Prop := ∀ i j, a ≤ i → i < j → j < b → lt (d j) (d i) = false
theorem So.sub {lt : α → α → Bool} {a b a' b' : Nat} {d : Nat → α} (h : So lt a b d) (h1 : a ≤ a') (h2 : b' ≤ b) : So lt a' b' d := fun i j h3 h4 h5 => h i j (by omega) h4 (by omega)
theorem So.eqv {lt : α → α → Bool} {a b : Nat} {d d' : Nat → α} (h : So lt a b d) (he : ∀ i, a ≤ i → i < b → d' i = d i) : So lt a b d' := fun i j h3 h4 h5 => by
  rw [he i h3 (by omega), he j (by omega) h5]
  exact h i j h3 h4 h5
theorem So.one {lt : α → α → Bool} {a b : Nat} {d : Nat → α} (h : b ≤ a + 1) : So lt a b d := fun i j h3 h4 h5 => by omega
theorem So.join {lt : α → α → Bool} {a m b : Nat} {d : Nat → α} (h1 : So lt a m d) (h2 : So lt m b d) (h3 : ∀ i j, a ≤ i → i < m → m ≤ j → j < b → lt (d j) (d i) = false) : So lt a b d := fun i j h4 h5 h6 => by
  by_cases hj : j < m
  · exact h1 i j h4 h5 hj
  · by_cases hi : i < m
    · exact h3 i j h4 hi (by omega) h6
    · exact h2 i j (by omega) h5 h6
/-! insertion -/
structure In (lt : α → α → Bool) (a i j : Nat) (d : Nat → α) : Prop where
  le : a ≤ j ∧ j ≤ i
  oth : ∀ x y, a ≤ x → x < y → y ≤ i → x ≠ j → y ≠ j → lt (d y) (d x) = false
  up : ∀ y, j < y → y ≤ i → lt (d y) (d j) = false
theorem In.start {lt : α → α → Bool} {a i : Nat} {d : Nat → α} (h : So lt a i d) (hi : a ≤ i) : In lt a i i d :=
  ⟨⟨hi, Nat.le_refl _⟩, fun x y h1 h2 h3 _ h5 => h x y h1 h2 (by omega), fun y h1 h2 => by omega⟩
theorem In.step {lt : α → α → Bool} (O : Od lt) {a i j : Nat} {d : Nat → α} (h : In lt a i j d) (hj : a < j) (hl : lt (d j) (d (j - 1)) = true) : In lt a i (j - 1) (fun k => d (sw j (j - 1) k)) := by
  have e1 : sw j (j - 1) j = j - 1 := by simp [sw]
  have e2 : sw j (j - 1) (j - 1) = j := by unfold sw; rw [if_neg (by omega), if_pos rfl]
  have e3 : ∀ k, k ≠ j → k ≠ j - 1 → sw j (j - 1) k = k := fun k h1 h2 => by unfold sw; rw [if_neg h1, if_neg h2]
  have hle := h.le
  refine ⟨by omega, fun x y h1 h2 h3 h4 h5 => ?_, fun y h1 h2 => ?_⟩
  · try dsimp only
    by_cases hx : x = j
    · subst hx
      rw [e1, e3 y (by omega) (by omega)]
      exact h.oth _ _ (by omega) (by omega) h3 (by omega) (by omega)
    · rw [e3 x hx h4]
      by_cases hy : y = j
      · subst hy
        rw [e1]
        exact h.oth _ _ h1 (by omega) (by omega) hx (by omega)
      · rw [e3 y hy h5]
        exact h.oth _ _ h1 h2 h3 hx hy
  · try dsimp only
    rw [e2]
    by_cases hy : y = j
    · subst hy
      rw [e1]
      exact O.asy _ _ hl
    · rw [e3 y hy (by omega)]
      exact h.up y (by omega) h2
theorem In.done {lt : α → α → Bool} (O : Od lt) {a i j : Nat} {d : Nat → α} (h : In lt a i j d) (hd : j = a ∨ lt (d j) (d (j - 1)) = false) : So lt a (i + 1) d := fun x y h1 h2 h3 => by
  have hle := h.le
  by_cases hx : x = j
  · subst hx; exact h.up y h2 (by omega)
  · by_cases hy : y = j
    · subst hy
      rcases hd with hd | hd
      · omega
      · by_cases e : x = y - 1
        · rw [e]; exact hd
        · exact O.tr _ _ _ (h.oth x (y - 1) h1 (by omega) (by omega) hx (by omega)) hd
    · exact h.oth x y h1 h2 (by omega) hx hy
/-! ranges that change places, rotations -/
def sr (a b n k : Nat) : Nat := if a ≤ k ∧ k < a + n then k - a + b else if b ≤ k ∧ k < b + n then k - b + a else k
theorem sr_sr {a b n : Nat} (h : a + n ≤ b) (k : Nat) : sr a b n (sr a b n k) = k := by
  unfold sr
  by_cases h1 : a ≤ k ∧ k < a + n
  · rw [if_pos h1, if_neg (by omega), if_pos (by omega)]; omega
  · rw [if_neg h1]
    by_cases h2 : b ≤ k ∧ k < b + n
    · rw [if_pos h2, if_pos (by omega)]; omega
    · rw [if_neg h2, if_neg h1, if_neg h2]
theorem Re.ranges {lo hi a b n : Nat} (d : Nat → α) (h : a + n ≤ b) (h1 : lo ≤ a) (h2 : b + n ≤ hi) : Re lo hi d (fun k => d (sr a b n k)) :=
  ⟨_, ⟨⟨sr a b n, sr_sr h, sr_sr h⟩, fun k hk => by unfold sr; rw [if_neg (by omega), if_neg (by omega)]⟩, fun _ => rfl⟩
theorem sr_zero (a b k : Nat) : sr a b 0 k = k := by unfold sr; rw [if_neg (by omega), if_neg (by omega)]
theorem sr_succ {a b i : Nat} (h : a + i < b) (k : Nat) : sr a b (i + 1) k = sr a b i (sw (a + i) (b + i) k) := by
  unfold sr sw
  by_cases h1 : k = a + i
  · subst h1
    rw [if_pos (by omega), if_pos rfl, if_neg (by omega), if_neg (by omega)]; omega
  · rw [if_neg h1]
    by_cases h2 : k = b + i
    · subst h2
      rw [if_neg (by omega), if_pos (by omega), if_pos rfl, if_neg (by omega), if_neg (by omega)]; omega
    · rw [if_neg h2]
      by_cases h3 : a ≤ k ∧ k < a + i
      · rw [if_pos (by omega), if_pos h3]
      · rw [if_neg (by omega), if_neg h3]
        by_cases h4 : b ≤ k ∧ k < b + i
        · rw [if_pos (by omega), if_pos h4]
        · rw [if_neg (by omega), if_neg h4]
/-- the rotation of lo .. hi that brings m to lo -/
def ro (lo m hi k : Nat) : Nat := if lo ≤ k ∧ k < lo + (hi - m) then k + (m - lo) else if lo + (hi - m) ≤ k ∧ k < hi then k - (hi - m) else k
theorem ro_left {m i j : Nat} (hi : i ≤ m) (hj : j < i) (k : Nat) : sr (m - i) m j (ro (m - i + j) m (m + j) k) = ro (m - i) m (m + j) k := by
  unfold ro sr
  repeat' split
  all_goals omega
theorem ro_right {m i j : Nat} (hi : i ≤ m) (hj : i < j) (k : Nat) : sr (m - i) (m + j - i) i (ro (m - i) m (m + j - i) k) = ro (m - i) m (m + j) k := by
  unfold ro sr
  repeat' split
  all_goals omega
theorem ro_same {m i : Nat} (hi : i ≤ m) (k : Nat) : sr (m - i) m i k = ro (m - i) m (m + i) k := by
  unfold ro sr
  repeat' split
  all_goals omega
theorem Mv.ro {lo m hi : Nat} (h1 : lo ≤ m) (h2 : m ≤ hi) : Mv lo hi (ro lo m hi) := by
  refine ⟨⟨St.ro lo (lo + (hi - m)) hi, fun k => ?_, fun k => ?_⟩, fun k hk => ?_⟩
  · unfold St.ro
    repeat' split
    all_goals omega
  · unfold St.ro
    repeat' split
    all_goals omega
  · unfold St.ro
    repeat' split
    all_goals omega
/-! merging -/
/-- one element in front of a sorted range -/
structure Fl (lt : α → α → Bool) (d : Nat → α) (x : α) (m b i j : Nat) : Prop where
  le : m ≤ i ∧ i ≤ j ∧ j ≤ b
  lo : ∀ k, m ≤ k → k < i → lt (d k) x = true
  hi : ∀ k, j ≤ k → k < b → lt (d k) x = false
theorem Fl.start {lt : α → α → Bool} {d : Nat → α} {x : α} {m b : Nat} (h : m ≤ b) : Fl lt d x m b m b := ⟨by omega, fun k _ _ => by omega, fun k _ _ => by omega⟩
theorem lt_le {lt : α → α → Bool} (O : Od lt) {x y z : α} (h1 : lt y x = false) (h2 : lt y z = true) : lt x z = true := by
  cases h : lt x z with
  | true => rfl
  | false => rw [O.tr _ _ _ h h1] at h2; cases h2
theorem Fl.lower {lt : α → α → Bool} (O : Od lt) {d : Nat → α} {x : α} {m b i j h : Nat} (H : Fl lt d x m b i j) (hs : So lt m b d) (h1 : i ≤ h) (h2 : h < j) (hl : lt (d h) x = true) : Fl lt d x m b (h + 1) j := by
  have hle := H.le
  refine ⟨by omega, fun k h3 h4 => ?_, H.hi⟩
  by_cases e : k = h
  · rw [e]; exact hl
  · exact lt_le O (hs k h h3 (by omega) (by omega)) hl
theorem Fl.upper {lt : α → α → Bool} (O : Od lt) {d : Nat → α} {x : α} {m b i j h : Nat} (H : Fl lt d x m b i j) (hs : So lt m b d) (h1 : i ≤ h) (h2 : h < j) (hl : lt (d h) x = false) : Fl lt d x m b i h := by
  have hle := H.le
  refine ⟨by omega, H.lo, fun k h3 h4 => ?_⟩
  by_cases e : k = h
  · rw [e]; exact hl
  · exact O.tr _ _ _ hl (hs h k (by omega) (by omega) h4)
/-- the element of a is brought to i - 1 -/
def fl (a i k : Nat) : Nat := if a ≤ k ∧ k + 1 < i then k + 1 else if k + 1 = i then a else k
theorem fl_start (a k : Nat) : fl a (a + 1) k = k := by
  unfold fl
  repeat' split
  all_goals omega
theorem fl_step {a x : Nat} (h : a ≤ x) (k : Nat) : fl a (x + 1) (sw x (x + 1) k) = fl a (x + 2) k := by
  unfold fl sw
  repeat' split
  all_goals omega
theorem fl_so {lt : α → α → Bool} (O : Od lt) {a b i : Nat} {d : Nat → α} (hs : So lt (a + 1) b d) (H : Fl lt d (d a) (a + 1) b i i) : So lt a b (fun k => d (fl a i k)) := by
  have hle := H.le
  have e1 : ∀ k, a ≤ k → k + 1 < i → fl a i k = k + 1 := fun k h1 h2 => by unfold fl; rw [if_pos ⟨h1, h2⟩]
  have e2 : fl a i (i - 1) = a := by unfold fl; rw [if_neg (by omega), if_pos (by omega)]
  have e3 : ∀ k, i ≤ k → fl a i k = k := fun k h1 => by unfold fl; rw [if_neg (by omega), if_neg (by omega)]
  intro x y h1 h2 h3
  dsimp only
  by_cases hx : x + 1 < i
  · rw [e1 x h1 hx]
    by_cases hy : y + 1 < i
    · rw [e1 y (by omega) hy]; exact hs _ _ (by omega) (by omega) (by omega)
    · by_cases hy2 : y = i - 1
      · subst hy2; rw [e2]; exact O.asy _ _ (H.lo _ (by omega) (by omega))
      · rw [e3 y (by omega)]; exact hs _ _ (by omega) (by omega) h3
  · rw [e3 y (by omega)]
    by_cases hx2 : x = i - 1
    · subst hx2; rw [e2]; exact H.hi y (by omega) h3
    · rw [e3 x (by omega)]; exact hs _ _ (by omega) (by omega) h3
theorem Re.fl {a b i : Nat} (d : Nat → α) (h1 : a < i) (h2 : i ≤ b) : Re a b d (fun k => d (fl a i k)) := by
  refine ⟨_, ⟨⟨fun k => if a < k ∧ k < i then k - 1 else if k = a then i - 1 else k, fun k => ?_, fun k => ?_⟩, fun k hk => ?_⟩, fun _ => rfl⟩
  · dsimp only
    unfold St.fl
    repeat' split
    all_goals omega
  · dsimp only
    unfold St.fl
    repeat' split
    all_goals omega
  · unfold St.fl
    repeat' split
    all_goals omega
/-- one element behind a sorted range -/
structure Fr (lt : α → α → Bool) (d : Nat → α) (x : α) (a m i j : Nat) : Prop where
  le : a ≤ i ∧ i ≤ j ∧ j ≤ m
  lo : ∀ k, a ≤ k → k < i → lt x (d k) = false
  hi : ∀ k, j ≤ k → k < m → lt x (d k) = true
theorem Fr.start {lt : α → α → Bool} {d : Nat → α} {x : α} {a m : Nat} (h : a ≤ m) : Fr lt d x a m a m := ⟨by omega, fun k _ _ => by omega, fun k _ _ => by omega⟩
theorem le_lt {lt : α → α → Bool} (O : Od lt) {x y z : α} (h1 : lt x y = true) (h2 : lt z y = false) : lt x z = true := by
  cases h : lt x z with
  | true => rfl
  | false => rw [O.tr _ _ _ h2 h] at h1; cases h1
theorem Fr.lower {lt : α → α → Bool} (O : Od lt) {d : Nat → α} {x : α} {a m i j h : Nat} (H : Fr lt d x a m i j) (hs : So lt a m d) (h1 : i ≤ h) (h2 : h < j) (hl : lt x (d h) = false) : Fr lt d x a m (h + 1) j := by
  have hle := H.le
  refine ⟨by omega, fun k h3 h4 => ?_, H.hi⟩
  by_cases e : k = h
  · rw [e]; exact hl
  · exact O.tr _ _ _ (hs k h h3 (by omega) (by omega)) hl
theorem Fr.upper {lt : α → α → Bool} (O : Od lt) {d : Nat → α} {x : α} {a m i j h : Nat} (H : Fr lt d x a m i j) (hs : So lt a m d) (h1 : i ≤ h) (h2 : h < j) (hl : lt x (d h) = true) : Fr lt d x a m i h := by
  have hle := H.le
  refine ⟨by omega, H.lo, fun k h3 h4 => ?_⟩
  by_cases e : k = h
  · rw [e]; exact hl
  · exact le_lt O hl (hs h k (by omega) (by omega) h4)
/-- the element of m is brought to k -/
def fr (i m k : Nat) : Nat := if k = i then m else if i < k ∧ k ≤ m then k - 1 else k
theorem fr_start (m k : Nat) : fr m m k = k := by
  unfold fr
  repeat' split
  all_goals omega
theorem fr_step {x m : Nat} (h0 : 0 < x) (h : x ≤ m) (k : Nat) : fr x m (sw x (x - 1) k) = fr (x - 1) m k := by
  unfold fr sw
  repeat' split
  all_goals omega
theorem fr_so {lt : α → α → Bool} (O : Od lt) {a m i : Nat} {d : Nat → α} (hs : So lt a m d) (H : Fr lt d (d m) a m i i) : So lt a (m + 1) (fun k => d (fr i m k)) := by
  have hle := H.le
  have e1 : fr i m i = m := by unfold fr; rw [if_pos rfl]
  have e2 : ∀ k, i < k → k ≤ m → fr i m k = k - 1 := fun k h1 h2 => by unfold fr; rw [if_neg (by omega), if_pos ⟨h1, h2⟩]
  have e3 : ∀ k, k < i → fr i m k = k := fun k h1 => by unfold fr; rw [if_neg (by omega), if_neg (by omega)]
  intro x y h1 h2 h3
  dsimp only
  by_cases hx : x < i
  · rw [e3 x hx]
    by_cases hy : y < i
    · rw [e3 y hy]; exact hs _ _ h1 h2 (by omega)
    · by_cases hy2 : y = i
      · subst hy2; rw [e1]; exact H.lo x h1 hx
      · rw [e2 y (by omega) (by omega)]; exact hs _ _ h1 (by omega) (by omega)
  · by_cases hx2 : x = i
    · subst hx2; rw [e1, e2 y (by omega) (by omega)]; exact O.asy _ _ (H.hi _ (by omega) (by omega))
    · rw [e2 x (by omega) (by omega), e2 y (by omega) (by omega)]; exact hs _ _ (by omega) (by omega) (by omega)
theorem Re.fr {a b i m : Nat} (d : Nat → α) (h1 : a ≤ i) (h2 : i ≤ m) (h3 : m < b) : Re a b d (fun k => d (fr i m k)) := by
  refine ⟨_, ⟨⟨fun k => if i ≤ k ∧ k < m then k + 1 else if k = m then i else k, fun k => ?_, fun k => ?_⟩, fun k hk => ?_⟩, fun _ => rfl⟩
  · dsimp only
    unfold St.fr
    repeat' split
    all_goals omega
  · dsimp only
    unfold St.fr
    repeat' split
    all_goals omega
  · unfold St.fr
    repeat' split
    all_goals omega
/-- looking for the place at which two ranges change -/
structure Sy (lt : α → α → Bool) (d : Nat → α) (p lo hi s r : Nat) : Prop where
  le : lo ≤ s ∧ s ≤ r ∧ r ≤ hi
  l : ∀ c, lo ≤ c → c < s → lt (d (p - c)) (d c) = false
  h : ∀ c, r ≤ c → c < hi → lt (d (p - c)) (d c) = true
theorem Sy.start {lt : α → α → Bool} {d : Nat → α} {p lo hi : Nat} (h : lo ≤ hi) : Sy lt d p lo hi lo hi := ⟨by omega, fun c _ _ => by omega, fun c _ _ => by omega⟩
/-- where one looks: left of m there and right of m here -/
structure Ar (a m b p lo hi : Nat) : Prop where
  x : a ≤ lo ∧ hi ≤ m ∧ lo ≤ hi
  y : ∀ c, lo ≤ c → c < hi → m ≤ p - c ∧ p - c < b
  z : hi ≤ p
theorem Sy.lower {lt : α → α → Bool} (O : Od lt) {d : Nat → α} {a m b p lo hi s r c : Nat} (A : Ar a m b p lo hi) (H : Sy lt d p lo hi s r) (h1 : So lt a m d) (h2 : So lt m b d) (h3 : s ≤ c) (h4 : c < r) (hl : lt (d (p - c)) (d c) = false) : Sy lt d p lo hi (c + 1) r := by
  have hle := H.le
  have hx := A.x
  have hz := A.z
  have hc := A.y c (by omega) (by omega)
  refine ⟨by omega, fun x h5 h6 => ?_, H.h⟩
  by_cases e : x = c
  · rw [e]; exact hl
  · have hx' := A.y x (by omega) (by omega)
    exact O.tr _ _ _ (O.tr _ _ _ (h1 x c (by omega) (by omega) (by omega)) hl) (h2 (p - c) (p - x) hc.1 (by omega) hx'.2)
theorem Sy.upper {lt : α → α → Bool} (O : Od lt) {d : Nat → α} {a m b p lo hi s r c : Nat} (A : Ar a m b p lo hi) (H : Sy lt d p lo hi s r) (h1 : So lt a m d) (h2 : So lt m b d) (h3 : s ≤ c) (h4 : c < r) (hl : lt (d (p - c)) (d c) = true) : Sy lt d p lo hi s c := by
  have hle := H.le
  have hx := A.x
  have hz := A.z
  have hc := A.y c (by omega) (by omega)
  refine ⟨by omega, H.l, fun x h5 h6 => ?_⟩
  by_cases e : x = c
  · rw [e]; exact hl
  · have hx' := A.y x (by omega) (by omega)
    exact lt_le O (h2 (p - x) (p - c) hx'.1 (by omega) hc.2) (le_lt O hl (h1 c x (by omega) (by omega) (by omega)))
def Cr (lt : α → α → Bool) (a m b : Nat) (d : Nat → α) : Prop := ∀ i j, a ≤ i → i < m → m ≤ j → j < b → lt (d j) (d i) = false
theorem Cr.re {lt : α → α → Bool} {a m b : Nat} {d d' d2 : Nat → α} (h : Cr lt a m b d) (h1 : Re a m d d') (h2 : Re m b d' d2) : Cr lt a m b d2 := by
  obtain ⟨σ, s1, s2⟩ := h1
  obtain ⟨τ, t1, t2⟩ := h2
  intro i j h3 h4 h5 h6
  obtain ⟨h7, h8⟩ := s1.within h3 h4
  obtain ⟨h9, h10⟩ := t1.within h5 h6
  rw [t2, t2, t1.out i (by omega), s2, s2, s1.out (τ j) (by omega)]
  exact h _ _ h7 h8 h9 h10
structure Mg (lt : α → α → Bool) (a s m e mid b : Nat) (d : Nat → α) : Prop where
  xz1 : So lt a s d
  xz2 : So lt s mid d
  yw1 : So lt mid e d
  yw2 : So lt e b d
  cr : Cr lt a mid b d
theorem mg_of {lt : α → α → Bool} (O : Od lt) {d : Nat → α} {a m b mid lo hi s : Nat} (hm : mid = (a + b) / 2) (ha : a < m) (hb : m < b) (hlo : lo = if mid < m then mid + m - b else a) (hhi : hi = if mid < m then mid else m)
    (H : Sy lt d (mid + m - 1) lo hi s s) (h1 : So lt a m d) (h2 : So lt m b d) : s ≤ m ∧ a ≤ s ∧ m ≤ mid + m - s ∧ mid + m - s ≤ b ∧ s ≤ mid ∧ Mg lt a s m (mid + m - s) mid b (fun k => d (ro s m (mid + m - s) k)) := by
  have hle := H.le
  have hs : s ≤ m ∧ a ≤ s ∧ s ≤ mid ∧ mid + m - s ≤ b := by
    split at hlo <;> split at hhi <;> omega
  obtain ⟨g1, g2, g3, g4⟩ := hs
  have e1 : ∀ k, k < s → ro s m (mid + m - s) k = k := fun k hk => by unfold ro; rw [if_neg (by omega), if_neg (by omega)]
  have e2 : ∀ k, s ≤ k → k < mid → ro s m (mid + m - s) k = k + (m - s) := fun k h3 h4 => by unfold ro; rw [if_pos (by omega)]
  have e3 : ∀ k, mid ≤ k → k < mid + m - s → ro s m (mid + m - s) k = k - (mid - s) := fun k h3 h4 => by unfold ro; rw [if_neg (by omega), if_pos (by omega)]; omega
  have e4 : ∀ k, mid + m - s ≤ k → ro s m (mid + m - s) k = k := fun k hk => by unfold ro; rw [if_neg (by omega), if_neg (by omega)]
  refine ⟨g1, g2, by omega, g4, g3, ?_, ?_, ?_, ?_, ?_⟩
  · intro x y h3 h4 h5
    dsimp only
    rw [e1 x (by omega), e1 y (by omega)]
    exact h1 x y h3 h4 (by omega)
  · intro x y h3 h4 h5
    dsimp only
    rw [e2 x h3 (by omega), e2 y (by omega) h5]
    exact h2 _ _ (by omega) (by omega) (by omega)
  · intro x y h3 h4 h5
    dsimp only
    rw [e3 x h3 (by omega), e3 y (by omega) h5]
    exact h1 _ _ (by omega) (by omega) (by omega)
  · intro x y h3 h4 h5
    dsimp only
    rw [e4 x h3, e4 y (by omega)]
    exact h2 _ _ (by omega) (by omega) (by omega)
  · intro i j h3 h4 h5 h6
    dsimp only
    by_cases hi' : i < s
    · rw [e1 i hi']
      by_cases hj : j < mid + m - s
      · rw [e3 j h5 hj]
        exact h1 _ _ h3 (by omega) (by omega)
      · rw [e4 j (by omega)]
        have hlo' : lo < s := by
          by_cases e : lo < s
          · exact e
          · split at hlo <;> omega
        have hq := H.l (s - 1) (by omega) (by omega)
        have e : mid + m - 1 - (s - 1) = mid + m - s := by omega
        rw [e] at hq
        have q1 : lt (d (s - 1)) (d i) = false := by
          by_cases e : i = s - 1
          · rw [e]
            cases hh : lt (d (s - 1)) (d (s - 1)) with
            | false => rfl
            | true => rw [O.asy _ _ hh] at hh; cases hh
          · exact h1 _ _ h3 (by omega) (by omega)
        have q2 : lt (d j) (d (mid + m - s)) = false := by
          by_cases e : j = mid + m - s
          · rw [e]
            cases hh : lt (d (mid + m - s)) (d (mid + m - s)) with
            | false => rfl
            | true => rw [O.asy _ _ hh] at hh; cases hh
          · exact h2 _ _ (by omega) (by omega) h6
        exact O.tr _ _ _ (O.tr _ _ _ q1 hq) q2
    · rw [e2 i (by omega) h4]
      by_cases hj : j < mid + m - s
      · rw [e3 j h5 hj]
        have hhi' : s < hi := by
          by_cases e : s < hi
          · exact e
          · split at hhi <;> omega
        have hq := O.asy _ _ (H.h s (Nat.le_refl _) hhi')
        have q1 : lt (d (mid + m - 1 - s)) (d (i + (m - s))) = false := by
          by_cases e : i + (m - s) = mid + m - 1 - s
          · rw [e]
            cases hh : lt (d (mid + m - 1 - s)) (d (mid + m - 1 - s)) with
            | false => rfl
            | true => rw [O.asy _ _ hh] at hh; cases hh
          · exact h2 _ _ (by omega) (by omega) (by omega)
        have q2 : lt (d (j - (mid - s))) (d s) = false := by
          by_cases e : j - (mid - s) = s
          · rw [e]
            cases hh : lt (d s) (d s) with
            | false => rfl
            | true => rw [O.asy _ _ hh] at hh; cases hh
          · exact h1 _ _ (by omega) (by omega) (by omega)
        exact O.tr _ _ _ (O.tr _ _ _ q1 hq) q2
      · rw [e4 j (by omega)]
        exact h2 _ _ (by omega) (by omega) h6
theorem ar_of {a m b mid lo hi : Nat} (hm : mid = (a + b) / 2) (ha : a < m) (hb : m < b) (hlo : lo = if mid < m then mid + m - b else a) (hhi : hi = if mid < m then mid else m) : Ar a m b (mid + m - 1) lo hi := by
  refine ⟨?_, fun c h1 h2 => ?_, ?_⟩ <;> (split at hlo <;> split at hhi <;> omega)
theorem mg_done {lt : α → α → Bool} {a s m e mid b : Nat} {d d' d2 : Nat → α} (M : Mg lt a s m e mid b d) (h1 : Re a mid d d') (g1 : So lt a mid d') (h2 : Re mid b d' d2) (g2 : So lt mid b d2) : So lt a b d2 :=
  So.join (g1.eqv fun i h3 h4 => h2.out (by omega)) g2 (M.cr.re h1 h2)
/-! blocks -/
/-- blocks of s places are sorted, up to n -/
def Bs (lt : α → α → Bool) (s n : Nat) (d : Nat → α) : Prop := ∀ q, So lt (q * s) (min ((q + 1) * s) n) d
/-- up to a = q (2 s) in blocks of 2 s, behind it in blocks of s -/
structure Bm (lt : α → α → Bool) (s n q : Nat) (d : Nat → α) : Prop where
  lo : ∀ x, x < q → So lt (x * (2 * s)) ((x + 1) * (2 * s)) d
  hi : ∀ x, 2 * q ≤ x → So lt (x * s) (min ((x + 1) * s) n) d
theorem Bm.start {lt : α → α → Bool} {s n : Nat} {d : Nat → α} (h : Bs lt s n d) : Bm lt s n 0 d := ⟨fun x hx => by omega, fun x _ => h x⟩
theorem mul2 (x s : Nat) : x * (2 * s) = 2 * x * s := by rw [Nat.mul_comm 2 x, Nat.mul_assoc]
theorem Bm.two {lt : α → α → Bool} {s n q : Nat} {d : Nat → α} (h : Bm lt s n q d) (hn : (q + 1) * (2 * s) ≤ n) : So lt (q * (2 * s)) (q * (2 * s) + s) d ∧ So lt (q * (2 * s) + s) ((q + 1) * (2 * s)) d := by
  have h1 := h.hi (2 * q) (Nat.le_refl _)
  have h2 := h.hi (2 * q + 1) (by omega)
  have e1 := mul2 q s
  have e2 : (2 * q + 1) * s = q * (2 * s) + s := by rw [Nat.succ_mul (2 * q) s, e1]
  have e3 : (2 * q + 1 + 1) * s = (q + 1) * (2 * s) := by rw [Nat.succ_mul (2 * q + 1) s, e2, Nat.succ_mul q (2 * s)]; omega
  have e4 : (q + 1) * (2 * s) = q * (2 * s) + 2 * s := Nat.succ_mul _ _
  rw [← e1, e2] at h1
  rw [e2, e3] at h2
  generalize (q + 1) * (2 * s) = u at *
  generalize q * (2 * s) = v at *
  exact ⟨h1.sub (Nat.le_refl _) (by omega), h2.sub (Nat.le_refl _) (by omega)⟩
theorem Bm.step {lt : α → α → Bool} {s n q : Nat} {d d' : Nat → α} (h : Bm lt s n q d) (hr : Re (q * (2 * s)) ((q + 1) * (2 * s)) d d') (hs : So lt (q * (2 * s)) ((q + 1) * (2 * s)) d') : Bm lt s n (q + 1) d' := by
  refine ⟨fun x hx => ?_, fun x hx => ?_⟩
  · by_cases e : x = q
    · rw [e]; exact hs
    · refine (h.lo x (by omega)).eqv fun i h1 h2 => hr.out (.inl ?_)
      have : (x + 1) * (2 * s) ≤ q * (2 * s) := Nat.mul_le_mul_right _ (by omega)
      omega
  · refine (h.hi x (by omega)).eqv fun i h1 h2 => hr.out (.inr ?_)
    have h3 : (2 * (q + 1)) * s ≤ x * s := Nat.mul_le_mul_right _ hx
    have e1 := mul2 (q + 1) s
    omega
theorem Bm.tail {lt : α → α → Bool} {s n q : Nat} {d : Nat → α} (h : Bm lt s n q d) (h1 : q * (2 * s) + s < n) (h2 : n < (q + 1) * (2 * s)) : So lt (q * (2 * s)) (q * (2 * s) + s) d ∧ So lt (q * (2 * s) + s) n d := by
  have g1 := h.hi (2 * q) (Nat.le_refl _)
  have g2 := h.hi (2 * q + 1) (by omega)
  have e1 := mul2 q s
  have e2 : (2 * q + 1) * s = q * (2 * s) + s := by rw [Nat.succ_mul (2 * q) s, e1]
  have e3 : (2 * q + 1 + 1) * s = (q + 1) * (2 * s) := by rw [Nat.succ_mul (2 * q + 1) s, e2, Nat.succ_mul q (2 * s)]; omega
  have e4 : (q + 1) * (2 * s) = q * (2 * s) + 2 * s := Nat.succ_mul _ _
  rw [← e1, e2] at g1
  rw [e2, e3] at g2
  generalize (q + 1) * (2 * s) = u at *
  generalize q * (2 * s) = v at *
  exact ⟨g1.sub (Nat.le_refl _) (by omega), g2.sub (Nat.le_refl _) (by omega)⟩
theorem Bm.last {lt : α → α → Bool} {s n q : Nat} {d d' : Nat → α} (h : Bm lt s n q d) (h2 : n < (q + 1) * (2 * s)) (hr : Re (q * (2 * s)) n d d') (hs : So lt (q * (2 * s)) n d') : Bs lt (2 * s) n d' := fun x => by
  by_cases h3 : x < q
  · have : (x + 1) * (2 * s) ≤ q * (2 * s) := Nat.mul_le_mul_right _ (by omega)
    exact ((h.lo x h3).eqv fun i h4 h5 => hr.out (.inl (by omega))).sub (Nat.le_refl _) (by omega)
  · by_cases e : x = q
    · rw [e]; exact hs.sub (Nat.le_refl _) (by omega)
    · have : (q + 1) * (2 * s) ≤ x * (2 * s) := Nat.mul_le_mul_right _ (by omega)
      exact So.one (by omega)
theorem Bm.none {lt : α → α → Bool} {s n q : Nat} {d : Nat → α} (h : Bm lt s n q d) (h1 : n ≤ q * (2 * s) + s) : So lt (q * (2 * s)) n d := by
  have g1 := h.hi (2 * q) (Nat.le_refl _)
  have e1 := mul2 q s
  rw [Nat.succ_mul (2 * q) s, ← e1] at g1
  exact g1.sub (Nat.le_refl _) (by omega)
theorem Bs.done {lt : α → α → Bool} {s n : Nat} {d : Nat → α} (h : Bs lt s n d) (hn : n ≤ s) : So lt 0 n d := by
  have := h 0
  rw [Nat.zero_mul, Nat.zero_add, Nat.one_mul] at this
  exact this.sub (Nat.le_refl _) (by omega)
/-- insertion in blocks of s: those below a are sorted -/
def Bi (lt : α → α → Bool) (s q : Nat) (d : Nat → α) : Prop := ∀ x, x < q → So lt (x * s) ((x + 1) * s) d
theorem Bi.start {lt : α → α → Bool} {s : Nat} {d : Nat → α} : Bi lt s 0 d := fun x hx => by omega
theorem Bi.step {lt : α → α → Bool} {s q : Nat} {d d' : Nat → α} (h : Bi lt s q d) (hr : Re (q * s) ((q + 1) * s) d d') (hs : So lt (q * s) ((q + 1) * s) d') : Bi lt s (q + 1) d' := fun x hx => by
  by_cases e : x = q
  · rw [e]; exact hs
  · refine (h x (by omega)).eqv fun i h1 h2 => hr.out (.inl ?_)
    have : (x + 1) * s ≤ q * s := Nat.mul_le_mul_right _ (by omega)
    omega
theorem Bi.last {lt : α → α → Bool} {s n q : Nat} {d d' : Nat → α} (h : Bi lt s q d) (h1 : q * s ≤ n) (h2 : n < (q + 1) * s) (hr : Re (q * s) n d d') (hs : So lt (q * s) n d') : Bs lt s n d' := fun x => by
  by_cases h3 : x < q
  · have : (x + 1) * s ≤ q * s := Nat.mul_le_mul_right _ (by omega)
    exact ((h x h3).eqv fun i h4 h5 => hr.out (.inl (by omega))).sub (Nat.le_refl _) (by omega)
  · by_cases e : x = q
    · rw [e]; exact hs.sub (Nat.le_refl _) (by omega)
    · have : (q + 1) * s ≤ x * s := Nat.mul_le_mul_right _ (by omega)
      exact So.one (by omega)
end Go.Proofs.Ytcddllaljgfjbaa.St
