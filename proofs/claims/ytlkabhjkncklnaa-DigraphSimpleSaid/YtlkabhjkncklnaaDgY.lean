
/-
Graphs: the reference's Reach is that of the package: plain facts.
-/
import Derived.Test.YtlkabhjkncklnaaDgX
import Derived.Test.YtlkabhjkncklnaaDgW
namespace Go.Proofs.Ytlkabhjkncklnaa
set_option linter.unusedSimpArgs false
set_option linter.unusedVariables false
open Go.RowKit

/-- a walk of so many edges -/
def walkN (n : Nat) (es : List Bool) : Nat → Nat → Nat → Prop
  | 0, a, b => a = b
  | j + 1, a, b => ∃ c, c < n ∧ hasE n es a c = true ∧ walkN n es j c b
theorem walkN_split (n : Nat) (es : List Bool) : ∀ (i j a b : Nat), walkN n es (i + j) a b → ∃ c, (0 < i → c < n) ∧ walkN n es i a c ∧ walkN n es j c b
  | 0, j, a, b, h => ⟨a, fun h => absurd h (by omega), rfl, by rwa [Nat.zero_add] at h⟩
  | i + 1, j, a, b, h => by
    rw [show i + 1 + j = (i + j) + 1 by omega] at h
    obtain ⟨c, h1, h2, h3⟩ := h
    obtain ⟨d, h4, h5, h6⟩ := walkN_split n es i j c b h3
    refine ⟨d, fun _ => ?_, ⟨c, h1, h2, h5⟩, h6⟩
    rcases Nat.eq_zero_or_pos i with h0 | h0
    · subst h0
      have h5 : c = d := h5
      exact h5 ▸ h1
    · exact h4 h0
theorem walkN_rs (n : Nat) (es : List Bool) (a0 : Nat) : ∀ (j a b : Nat), Rs n es a0 a → walkN n es j a b → Rs n es a0 b
  | 0, a, b, h, hw => by
    have hw : a = b := hw
    exact hw ▸ h
  | j + 1, a, b, h, ⟨c, h1, h2, h3⟩ => walkN_rs n es a0 j c b (.step h h1 h2) h3
theorem walk_walkN (n : Nat) (es : List Bool) : ∀ (l : List Nat) (a b : Nat), l.head? = some a → Walk n es l → l.getLastD 0 = b → walkN n es (l.length - 1) a b
  | [], _, _, h, _, _ => by cases h
  | [x], a, b, h, _, hb => by
    simp at h hb
    show a = b
    omega
  | x :: y :: r, a, b, h, hw, hb => by
    simp only [List.head?_cons, Option.some.injEq] at h
    subst h
    exact ⟨y, hw.1.1, hw.1.2, by simpa using walk_walkN n es (y :: r) y b rfl hw.2 (by simpa using hb)⟩
theorem Rs.trans {n : Nat} {es : List Bool} {a b c : Nat} (h : Rs n es a b) (h2 : Rs n es b c) : Rs n es a c := by
  induction h2 with
  | refl => exact h
  | step _ h3 h4 ih => exact .step ih h3 h4
/-- with at least one edge -/
def Rp (n : Nat) (es : List Bool) (a b : Nat) : Prop := ∃ c, c < n ∧ hasE n es a c = true ∧ Rs n es c b
theorem Rp.rs {n : Nat} {es : List Bool} {a b : Nat} (h : Rp n es a b) : Rs n es a b := by
  obtain ⟨c, h1, h2, h3⟩ := h
  exact (Rs.step .refl h1 h2).trans h3
theorem Rp.trans {n : Nat} {es : List Bool} {a b c : Nat} (h : Rp n es a b) (h2 : Rp n es b c) : Rp n es a c := by
  obtain ⟨d, h3, h4, h5⟩ := h
  exact ⟨d, h3, h4, h5.trans h2.rs⟩
theorem reachesF_iff (n : Nat) (es : List Bool) (a b : Nat) : reachesF n es a b = true ↔ Rp n es a b := by
  unfold reachesF
  rw [List.any_eq_true]
  constructor
  · rintro ⟨c, hc, h⟩
    simp only [Bool.and_eq_true, Bool.not_eq_true', decide_eq_false_iff_not] at h
    have hc := List.mem_range.1 hc
    have hne : pathF n es c b ≠ [] := fun e => h.2 (by rw [e]; rfl)
    obtain ⟨p1, p2, p3, -⟩ := path_some hc hne
    exact ⟨c, hc, h.1, walkN_rs n es c _ c b .refl (walk_walkN n es _ c b p1 p2 p3)⟩
  · rintro ⟨c, h1, h2, h3⟩
    refine ⟨c, List.mem_range.2 h1, ?_⟩
    simp only [Bool.and_eq_true, Bool.not_eq_true', decide_eq_false_iff_not]
    exact ⟨h2, fun e => path_none h1 (List.eq_nil_of_length_eq_zero e) h3⟩
theorem Rp.walk {n : Nat} {es : List Bool} {a b : Nat} (h : Rp n es a b) : ∃ j, 1 ≤ j ∧ j ≤ n ∧ walkN n es j a b := by
  obtain ⟨c, h1, h2, h3⟩ := h
  have hne : pathF n es c b ≠ [] := fun e => path_none h1 e h3
  obtain ⟨p1, p2, p3, p4⟩ := path_some h1 hne
  have hl : 0 < (pathF n es c b).length := List.length_pos_iff.2 hne
  refine ⟨(pathF n es c b).length - 1 + 1, by omega, by omega, c, h1, h2, walk_walkN n es _ c b p1 p2 p3⟩
/-! the matrix -/
def mt (n : Nat) (m : List Bool) (a b : Nat) : Prop := m.getD (a * n + b) false = true
def leM (m m' : List Bool) : Prop := m'.length = m.length ∧ ∀ i, m.getD i false = true → m'.getD i false = true
theorem leM.refl (m : List Bool) : leM m m := ⟨rfl, fun _ h => h⟩
theorem leM.trans {a b c : List Bool} (h : leM a b) (h2 : leM b c) : leM a c := ⟨h2.1.trans h.1, fun i hi => h2.2 i (h.2 i hi)⟩
theorem getD_set_true {m : List Bool} {k i : Nat} (hk : k < m.length) : (m.set k true).getD i false = true ↔ m.getD i false = true ∨ i = k := by
  rw [List.getD_eq_getElem?_getD, List.getD_eq_getElem?_getD, List.getElem?_set]
  by_cases h : k = i
  · subst h
    simp [hk]
  · have : ¬ i = k := fun e => h e.symm
    simp [h, this]
theorem fold_le {f : List Bool → Nat → List Bool} (hf : ∀ m k, leM m (f m k)) (m : List Bool) : ∀ k, leM m ((List.range k).foldl f m)
  | 0 => leM.refl m
  | k + 1 => by
    rw [foldR_succ]
    exact (fold_le hf m k).trans (hf _ _)
theorem fold_at {f : List Bool → Nat → List Bool} (hf : ∀ m k, leM m (f m k)) (m : List Bool) (i : Nat) : ∀ k, i < k → ∃ m', leM m m' ∧ leM (f m' i) ((List.range k).foldl f m)
  | 0, h => absurd h (by omega)
  | k + 1, h => by
    rw [foldR_succ]
    by_cases e : i = k
    · subst e
      exact ⟨_, fold_le hf m i, leM.refl _⟩
    · obtain ⟨m', h1, h2⟩ := fold_at hf m i k (by omega)
      exact ⟨m', h1, h2.trans (hf _ _)⟩
theorem warC_le (n a b : Nat) (m : List Bool) (c : Nat) : leM m (warC n a b m c) := by
  unfold warC
  split
  · refine ⟨by simp, fun i hi => ?_⟩
    rw [List.getD_eq_getElem?_getD] at hi ⊢
    rw [List.getElem?_set]
    split
    · rename_i e
      subst e
      split
      · rfl
      · rename_i h
        rw [List.getElem?_eq_none (by omega)] at hi
        exact hi
    · exact hi
  · exact leM.refl m
theorem warB_le (n a : Nat) (m : List Bool) (b : Nat) : leM m (warB n a m b) := fold_le (warC_le n a b) m n
theorem warA_le (n : Nat) (m : List Bool) (a : Nat) : leM m (warA n m a) := fold_le (warB_le n a) m n
theorem warR_le (n : Nat) (m : List Bool) (r : Nat) : leM m (warR n m r) := fold_le (warA_le n) m n
theorem warR_trans {n : Nat} {m : List Bool} (hl : m.length = n * n) (r : Nat) {a b c : Nat} (ha : a < n) (hb : b < n) (hc : c < n) (h1 : mt n m a b) (h2 : mt n m b c) : mt n (warR n m r) a c := by
  obtain ⟨m1, q1, q2⟩ := fold_at (warA_le n) m a n ha
  obtain ⟨m2, q3, q4⟩ := fold_at (warB_le n a) m1 b n hb
  obtain ⟨m3, q5, q6⟩ := fold_at (warC_le n a b) m2 c n hc
  have q := (q1.trans q3).trans q5
  have : mt n (warC n a b m3 c) a c := by
    unfold mt warC
    rw [if_pos ⟨q.2 _ h1, q.2 _ h2⟩, getD_set_true (by rw [q.1, hl]; exact idx_lt ha hc)]
    exact .inr rfl
  exact q2.2 _ (q4.2 _ (q6.2 _ this))
theorem rounds_complete {n : Nat} {es : List Bool} (hl : es.length = n * n) : ∀ (r j a b : Nat), 1 ≤ j → j ≤ 2 ^ r → a < n → b < n → walkN n es j a b → mt n ((List.range r).foldl (warR n) es) a b
  | 0, j, a, b, h1, h2, ha, hb, hw => by
    obtain rfl : j = 1 := by simp at h2; omega
    obtain ⟨c, h3, h4, h5⟩ := hw
    have h5 : c = b := h5
    subst h5
    exact h4
  | r + 1, j, a, b, h1, h2, ha, hb, hw => by
    rw [foldR_succ]
    have hlr : ((List.range r).foldl (warR n) es).length = n * n := by rw [(fold_le (warR_le n) es r).1, hl]
    have h2' : j ≤ 2 ^ r + 2 ^ r := by rw [Nat.pow_succ] at h2; omega
    by_cases hj : j ≤ 2 ^ r
    · exact (warR_le n _ r).2 _ (rounds_complete hl r j a b h1 hj ha hb hw)
    · obtain ⟨c, h3, h4, h5⟩ := walkN_split n es (2 ^ r) (j - 2 ^ r) a b (by rwa [show 2 ^ r + (j - 2 ^ r) = j by omega])
      have hp : 0 < 2 ^ r := Nat.two_pow_pos r
      have hc := h3 hp
      exact warR_trans hlr r ha hc hb (rounds_complete hl r _ a c hp (Nat.le_refl _) ha hc h4) (rounds_complete hl r _ c b (by omega) (by omega) hc hb h5)
/-! nothing else is in it -/
def SndM (n : Nat) (es m : List Bool) : Prop := m.length = n * n ∧ ∀ a b, a < n → b < n → mt n m a b → Rp n es a b
theorem idx_inj {n a b a' b' : Nat} (hb : b < n) (hb' : b' < n) (h : a * n + b = a' * n + b') : a = a' ∧ b = b' := by
  have h1 : (a * n + b) / n = (a' * n + b') / n := by rw [h]
  have h2 : (a * n + b) % n = (a' * n + b') % n := by rw [h]
  rw [Nat.mul_comm a, Nat.mul_comm a', Nat.mul_add_div (by omega), Nat.mul_add_div (by omega), Nat.div_eq_of_lt hb, Nat.div_eq_of_lt hb'] at h1
  rw [Nat.mul_comm a, Nat.mul_comm a', Nat.mul_add_mod, Nat.mul_add_mod, Nat.mod_eq_of_lt hb, Nat.mod_eq_of_lt hb'] at h2
  exact ⟨by omega, h2⟩
theorem warC_snd {n : Nat} {es m : List Bool} {a b c : Nat} (ha : a < n) (hb : b < n) (hc : c < n) (h : SndM n es m) : SndM n es (warC n a b m c) := by
  unfold warC
  split
  · rename_i hm
    refine ⟨by simp [h.1], fun x y hx hy hxy => ?_⟩
    unfold mt at hxy
    rw [getD_set_true (by rw [h.1]; exact idx_lt ha hc)] at hxy
    rcases hxy with hxy | e
    · exact h.2 x y hx hy hxy
    · obtain ⟨rfl, rfl⟩ := idx_inj hy hc e
      exact (h.2 x b hx hb hm.1).trans (h.2 b y hb hy hm.2)
  · exact h
theorem fold_inv {I : List Bool → Prop} {f : List Bool → Nat → List Bool} (n : Nat) (hf : ∀ m k, k < n → I m → I (f m k)) {m : List Bool} (h : I m) : ∀ k, k ≤ n → I ((List.range k).foldl f m)
  | 0, _ => h
  | k + 1, hk => by
    rw [foldR_succ]
    exact hf _ _ (by omega) (fold_inv n hf h k (by omega))
theorem warB_snd {n : Nat} {es m : List Bool} {a b : Nat} (ha : a < n) (hb : b < n) (h : SndM n es m) : SndM n es (warB n a m b) :=
  fold_inv (I := SndM n es) (f := warC n a b) n (fun _ _ hc h => warC_snd ha hb hc h) h n (Nat.le_refl _)
theorem warA_snd {n : Nat} {es m : List Bool} {a : Nat} (ha : a < n) (h : SndM n es m) : SndM n es (warA n m a) :=
  fold_inv (I := SndM n es) (f := warB n a) n (fun _ _ hb h => warB_snd ha hb h) h n (Nat.le_refl _)
theorem warR_snd {n : Nat} {es m : List Bool} (r : Nat) (h : SndM n es m) : SndM n es (warR n m r) :=
  fold_inv (I := SndM n es) (f := warA n) n (fun _ _ ha h => warA_snd ha h) h n (Nat.le_refl _)
theorem reachW_snd {n : Nat} {es : List Bool} (hl : es.length = n * n) : SndM n es (reachW n es) :=
  fold_inv (I := SndM n es) (f := warR n) n (fun _ r _ h => warR_snd r h) ⟨hl, fun a b ha hb h => ⟨b, hb, h, .refl⟩⟩ n (Nat.le_refl _)
theorem reachW_iff {n : Nat} {es : List Bool} (hl : es.length = n * n) {a b : Nat} (ha : a < n) (hb : b < n) : mt n (reachW n es) a b ↔ reachesF n es a b = true := by
  rw [reachesF_iff]
  constructor
  · exact (reachW_snd hl).2 a b ha hb
  · intro h
    obtain ⟨j, h1, h2, h3⟩ := h.walk
    exact rounds_complete hl n j a b h1 (Nat.le_trans h2 (Nat.le_of_lt Nat.lt_two_pow_self)) ha hb h3
theorem reachRows_get (n : Nat) (es : List Bool) {b : Nat} (hb : b < n) : ∀ (k a : Nat), a < k → (reachRows n es k)[a * n + b]? = some (reachesF n es a b)
  | 0, a, h => absurd h (by omega)
  | k + 1, a, h => by
    rw [reachRows_succ]
    by_cases e : a = k
    · subst e
      rw [List.getElem?_append_right (by rw [reachRows_len]; omega), reachRows_len, Nat.add_sub_cancel_left, List.getElem?_map, List.getElem?_range hb]
      rfl
    · have h1 : a < k := by omega
      have h2 : a * n + b < k * n := by
        have := Nat.mul_le_mul_right n (show a + 1 ≤ k by omega)
        rw [Nat.add_mul, Nat.one_mul] at this
        omega
      rw [List.getElem?_append_left (by rw [reachRows_len]; exact h2)]
      exact reachRows_get n es hb k a h1
theorem reach_eq {n : Nat} {es : List Bool} (hl : es.length = n * n) : reachRows n es n = reachW n es := by
  have hlw := (reachW_snd hl).1
  refine List.ext_getElem? fun i => ?_
  by_cases hi : i < n * n
  · have hn : 0 < n := Nat.pos_of_ne_zero fun e => by subst e; simp at hi
    have ha : i / n < n := (Nat.div_lt_iff_lt_mul hn).2 hi
    have hb : i % n < n := Nat.mod_lt _ hn
    have e : i / n * n + i % n = i := by rw [Nat.mul_comm]; exact Nat.div_add_mod i n
    have h1 := reachRows_get n es hb n (i / n) ha
    rw [e] at h1
    have h2 := reachW_iff hl ha hb
    unfold mt at h2
    rw [e] at h2
    rw [h1, List.getElem?_eq_getElem (by rw [hlw]; exact hi)]
    congr 1
    rw [Bool.eq_iff_iff, ← h2]
    rw [List.getD_eq_getElem?_getD, List.getElem?_eq_getElem (by rw [hlw]; exact hi)]
    rfl
  · rw [List.getElem?_eq_none (by rw [reachRows_len]; omega), List.getElem?_eq_none (by rw [hlw]; omega)]
theorem reachPub_eq (s : Int) (es : List Bool) : reachPub s es = reachQ s es := by
  unfold reachPub reachQ
  split
  · rename_i h
    obtain ⟨n, rfl, -, -, hl⟩ := openB_iff h
    exact reach_eq hl
  · rfl
end Go.Proofs.Ytlkabhjkncklnaa
