
/-
Search: propagation keeps solutions: plain.
-/
import Derived.Test.YtlbhidiliogflaaSfP
import Derived.Test.YtlbhidiliogflaaPlain10
namespace Go.Proofs.Ytlbhidiliogflaa
set_option linter.unusedSimpArgs false
set_option linter.unusedVariables false
open Go.RowKit

/-- what can be reached by edges, or none -/
inductive Rch (s : Nat) (E : Nat → Nat → Bool) (a : Nat) : Nat → Prop
  | refl : Rch s E a a
  | step {b c : Nat} : Rch s E a b → c < s → E b c = true → Rch s E a c
theorem Rch.lt {s : Nat} {E : Nat → Nat → Bool} {a v : Nat} (ha : a < s) (h : Rch s E a v) : v < s := by
  cases h with
  | refl => exact ha
  | step _ h2 _ => exact h2
theorem Rch.cons {s : Nat} {E : Nat → Nat → Bool} {a b v : Nat} (hb : b < s) (he : E a b = true) (h : Rch s E b v) : Rch s E a v := by
  induction h with
  | refl => exact .step .refl hb he
  | step _ h2 h3 ih => exact .step ih h2 h3
theorem Rch.trans {s : Nat} {E : Nat → Nat → Bool} {a b v : Nat} (h1 : Rch s E a b) (h : Rch s E b v) : Rch s E a v := by
  induction h with
  | refl => exact h1
  | step _ h2 h3 ih => exact .step ih h2 h3
theorem Rch.of_rs {n : Nat} {es : List Bool} {E : Nat → Nat → Bool} {a v : Nat} (ha : a < n) (h : Rs n es a v) (hE : ∀ u c, u < n → c < n → hasE n es u c = true → E u c = true) : Rch n E a v := by
  induction h with
  | refl => exact .refl
  | step _ h2 h3 ih => exact .step ih h2 (hE _ _ (ih.lt ha) h2 h3)
theorem walk_rs {n : Nat} {es : List Bool} : ∀ (l : List Nat) (x a : Nat), Rs n es a x → Walk n es (x :: l) → Rs n es a ((x :: l).getLastD 0)
  | [], x, a, h, _ => by simpa using h
  | y :: r, x, a, h, hw => by
    have h2 := walk_rs r y a (.step h hw.1.1 hw.1.2) hw.2
    simpa using h2
theorem path_rs {n : Nat} {es : List Bool} {a t : Nat} (ha : a < n) (h : pathF n es a t ≠ []) : Rs n es a t := by
  obtain ⟨h1, h2, h3, -⟩ := path_some ha h
  cases hp : pathF n es a t with
  | nil => exact absurd hp h
  | cons x l =>
    rw [hp] at h1 h2 h3
    simp only [List.head?_cons, Option.some.injEq] at h1
    subst h1
    have := walk_rs l x x .refl h2
    rwa [h3] at this
/-- what closes asks -/
theorem closB_iff {n : Nat} {g : Gr} (hok : grOk n g = true) (box : List Rng) {k : Nat} (hk : k < g.least.length) : closB g box k = true ↔ Rs g.size.toNat (presB g box) (k % g.size.toNat) (k / g.size.toNat) := by
  obtain ⟨f, m, h1, h2, h3, h4, h5, h6, -⟩ := grOk_parts hok
  have hm : 0 < m := h3
  have hq : k / m < m := (Nat.div_lt_iff_lt_mul hm).2 (by rw [← h5]; exact hk)
  have hr : k % m < m := Nat.mod_lt _ hm
  have ho : openB (m : Int) (presB g box).length = true := by
    have hmm : ((m * m : Nat) : Int) = (m : Int) * (m : Int) := by push_cast; rfl
    unfold openB
    rw [presB_len, h5, hmm, decide_eq_true (show (1 : Int) ≤ (m : Int) by omega), decide_eq_true (show (m : Int) ≤ 6 by omega), decide_eq_true rfl]
    rfl
  have etd : (k : Int).tdiv (m : Int) = ((k / m : Nat) : Int) := by rw [Int.tdiv_eq_ediv_of_nonneg (by omega)]; simp
  have etm : (k : Int).tmod (m : Int) = ((k % m : Nat) : Int) := by rw [Int.tmod_eq_emod_of_nonneg (by omega)]; simp
  unfold closB
  rw [h2, etd, etm, Int.toNat_natCast]
  generalize k % m = r at *
  generalize k / m = q at *
  unfold pathPub
  rw [if_pos ⟨ho, ⟨by omega, by omega⟩, by omega, by omega⟩]
  simp only [Int.toNat_natCast]
  rw [Bool.not_eq_true', decide_eq_false_iff_not]
  constructor
  · intro h
    exact path_rs hr fun e => h (by rw [e]; rfl)
  · intro h e
    have : pathF m (presB g box) r q = [] := by
      unfold castL at e
      simpa using e
    exact path_none hr this h
theorem pres_at {g : Gr} {box : List Rng} {f i : Nat} (hf : g.first = (f : Int)) (hi : i < g.least.length) : (presB g box).getD i false = decide (g.least.getD i 0 ≤ (pick box ((f + i : Nat) : Int)).lo) := by
  have e : g.first + (i : Int) = ((f + i : Nat) : Int) := by rw [hf]; push_cast; rfl
  unfold presB
  rw [List.getD_eq_getElem?_getD, List.getElem?_map, List.getElem?_range hi]
  simp [e]
/-- no edge of a graph without cycles closes a cycle -/
theorem acy_edge {g : Gr} {vs : List Int} (ha : acyG g vs = true) {a b : Nat} (hA : a < g.size.toNat) (hB : b < g.size.toNat) (he : edgB g.first.toNat g.size.toNat g.least vs a b = true) : ¬ Rch g.size.toNat (edgB g.first.toNat g.size.toNat g.least vs) b a := by
  intro hr
  unfold acyG at ha
  have h := acyF_iff.1 ha (fun v => Rch g.size.toNat (edgB g.first.toNat g.size.toNat g.least vs) b v ∧ Rch g.size.toNat (edgB g.first.toNat g.size.toNat g.least vs) v a) (fun v hv hS => ?_) b hB
  · exact h ⟨.refl, hr⟩
  · obtain ⟨h1, h2⟩ := hS
    cases h1 with
    | refl => exact ⟨a, hA, ⟨hr, .refl⟩, he⟩
    | step h3 h4 h5 => exact ⟨_, h3.lt hB, ⟨h3, .cons hv h5 h2⟩, h5⟩
theorem cut_keeps {n : Nat} {g : Gr} (hok : grOk n g = true) {box : List Rng} (hb : box.length = n) {vs : List Int} (hc : containsB box vs = true) (ha : acyG g vs = true) {f k : Nat} (hf : g.first = (f : Int)) (hk : k < g.least.length) :
    (cutG g box k).lo ≤ vs.getD (f + k) 0 ∧ vs.getD (f + k) 0 ≤ (cutG g box k).hi := by
  obtain ⟨f', m, h1, h2, h3, h4, h5, h6, -⟩ := grOk_parts hok
  obtain rfl : f' = f := by omega
  obtain ⟨hl, hv⟩ := not_badV hc
  have hfk : f' + k < vs.length := by omega
  have e : g.first + (k : Int) = ((f' + k : Nat) : Int) := by rw [h1]; push_cast; rfl
  have hvk := hv (f' + k) hfk
  unfold cutG
  rw [e]
  split
  · rename_i h
    refine ⟨hvk.1, ?_⟩
    refine Classical.byContradiction fun hno => ?_
    dsimp only at hno
    have hm : 0 < m := h3
    have hsz : g.size.toNat = m := by rw [h2, Int.toNat_natCast]
    have hft : g.first.toNat = f' := by rw [h1, Int.toNat_natCast]
    have hq : k / m < m := (Nat.div_lt_iff_lt_mul hm).2 (by rw [← h5]; exact hk)
    have hr : k % m < m := Nat.mod_lt _ hm
    have hdm : k / m * m + k % m = k := by rw [Nat.mul_comm]; exact Nat.div_add_mod k m
    have hrs := (closB_iff hok box hk).1 h.2
    rw [hsz] at hrs
    have hE : ∀ u c, u < m → c < m → hasE m (presB g box) u c = true → edgB f' m g.least vs u c = true := fun u c hu hc' hh => by
      have hi : u * m + c < g.least.length := by rw [h5]; exact at_row hu hc' (Nat.le_refl _)
      unfold hasE at hh
      rw [pres_at h1 hi, decide_eq_true_eq] at hh
      have h8 := hv (f' + (u * m + c)) (by omega)
      unfold edgB
      rw [decide_eq_true_eq, show f' + u * m + c = f' + (u * m + c) by omega]
      omega
    have hrch := Rch.of_rs hr hrs hE
    have hedge : edgB f' m g.least vs (k / m) (k % m) = true := by
      unfold edgB
      rw [decide_eq_true_eq, hdm, show f' + k / m * m + k % m = f' + (k / m * m + k % m) by omega, hdm]
      omega
    have := acy_edge ha (a := k / m) (b := k % m) (by rw [hsz]; exact hq) (by rw [hsz]; exact hr) (by rw [hsz, hft]; exact hedge)
    rw [hsz, hft] at this
    exact this hrch
  · exact hvk
theorem contains_set {box : List Rng} {vs : List Int} (hc : containsB box vs = true) {j : Nat} {r : Rng} (h1 : r.lo ≤ vs.getD j 0) (h2 : vs.getD j 0 ≤ r.hi) : containsB (box.set j r) vs = true := by
  obtain ⟨hl, hv⟩ := not_badV hc
  refine containsB_of (by rw [List.length_set]; exact hl) fun k hk => ?_
  rw [pick_set box j k r (by omega)]
  by_cases hjk : j = k
  · subst hjk
    rw [if_pos rfl]
    exact ⟨h1, h2⟩
  · rw [if_neg hjk]
    exact hv k hk
/-- what holds of the values -/
def TskHolds (n : Nat) (vs : List Int) : Tsk → Prop
  | .dead _ => False
  | .row _ r _ => valueL vs 0 r.terms ≤ r.bound
  | .gr _ g k => grOk n g = true ∧ acyG g vs = true ∧ k < g.least.length
theorem tasks_hold {n : Nat} {rows : List Row} {grs : List Gr} {vs : List Int} (hr : ∀ r ∈ rows, valueL vs 0 r.terms ≤ r.bound) (hg : ∀ g ∈ grs, grOk n g = true) (ha : ∀ g ∈ grs, acyG g vs = true) : ∀ t ∈ tasks rows grs, TskHolds n vs t := by
  intro t ht
  unfold tasks at ht
  rw [List.mem_append] at ht
  rcases ht with ht | ht
  · obtain ⟨j, hj, ht⟩ := rowsT_mem rows 0 ht
    have h1 := hr _ (List.getElem_mem hj)
    rcases rowT_mem ht with ⟨rfl, h2, h3⟩ | ⟨u, hu, rfl⟩
    · rw [h2] at h1
      simp [valueL] at h1
      omega
    · exact h1
  · obtain ⟨j, hj, ht⟩ := grsT_mem grs 0 ht
    obtain ⟨k, hk, rfl⟩ := grT_mem ht
    exact ⟨hg _ (List.getElem_mem hj), ha _ (List.getElem_mem hj), hk⟩
theorem tsk_keeps {n : Nat} {box : List Rng} (hf : fineBox n box) (hn : n ≤ 128) {vs : List Int} (hc : containsB box vs = true) {t : Tsk} (ht : TskOk n t) (hh : TskHolds n vs t) : (tskR box t).2.lo ≤ vs.getD (tskR box t).1 0 ∧ vs.getD (tskR box t).1 0 ≤ (tskR box t).2.hi := by
  cases t with
  | dead i => exact absurd hh (fun h => h)
  | row i r c =>
    obtain ⟨h1, j, rfl, hj⟩ := ht
    simp only [tskR, Int.toNat_natCast]
    exact keeps_tight (valid_fine hf hn h1) hc hh j (by rw [← (not_badV hc).1, hf.1]; exact hj)
  | gr i g k =>
    obtain ⟨f, h1, hj⟩ := ht
    have e : (g.first + (k : Int)).toNat = f + k := by rw [h1]; omega
    simp only [tskR, e]
    exact cut_keeps hh.1 hf.1 hc hh.2.1 h1 hh.2.2
theorem doT_keeps {n b : Nat} {x : PX} (hf : fineBox n x.box) (hn : n ≤ 128) {vs : List Int} (hc : containsB x.box vs = true) (ho : x.opn = true) (hfi : x.fine = true) {t : Tsk} (ht : TskOk n t) (hh : TskHolds n vs t) :
    (doT b x t).fine = false ∨ ((doT b x t).fine = true ∧ (doT b x t).opn = true ∧ containsB (doT b x t).box vs = true ∧ fineBox n (doT b x t).box) := by
  have hk := tsk_keeps hf hn hc ht hh
  rcases doT_cases (b := b) ho hfi hf hn ht with ⟨-, e⟩ | ⟨-, e⟩ | ⟨he, -, s, e⟩ | ⟨he, -, s, e⟩
  · rw [e]
    exact .inr ⟨hfi, ho, hc, hf⟩
  · rw [e]
    exact .inl rfl
  · unfold emptyR at he
    rw [decide_eq_true_eq] at he
    omega
  · rw [e]
    obtain ⟨g1, g2, g3, g4⟩ := tight_sub' hf hn ht he
    exact .inr ⟨rfl, rfl, contains_set hc hk.1 hk.2, fineBox_set hf g1 g2 g3 g4⟩
theorem runT_keeps {n b : Nat} (hn : n ≤ 128) {vs : List Int} : ∀ (l : List Tsk) (x : PX), (∀ t ∈ l, TskOk n t) → (∀ t ∈ l, TskHolds n vs t) → fineBox n x.box → containsB x.box vs = true → x.opn = true → x.fine = true →
    (runT b x l).fine = false ∨ ((runT b x l).fine = true ∧ (runT b x l).opn = true ∧ containsB (runT b x l).box vs = true ∧ fineBox n (runT b x l).box)
  | [], x, _, _, hf, hc, ho, hfi => .inr ⟨hfi, ho, hc, hf⟩
  | t :: l, x, hl, hh, hf, hc, ho, hfi => by
    rw [runT_cons]
    rcases doT_keeps (b := b) hf hn hc ho hfi (hl t (by simp)) (hh t (by simp)) with h | ⟨h1, h2, h3, h4⟩
    · exact .inl (runT_unfine l h)
    · exact runT_keeps hn l _ (fun u hu => hl u (by simp [hu])) (fun u hu => hh u (by simp [hu])) h4 h3 h2 h1
theorem runX_keeps {n b : Nat} (hn : n ≤ 128) {vs : List Int} {rows : List Row} {grs : List Gr} (hok : ∀ t ∈ tasks rows grs, TskOk n t) (hh : ∀ t ∈ tasks rows grs, TskHolds n vs t) : ∀ (N : Nat) (x : PX), fineBox n x.box → containsB x.box vs = true → x.opn = true → x.fine = true →
    (runX b rows grs N x).fine = false ∨ ((runX b rows grs N x).opn = true ∧ containsB (runX b rows grs N x).box vs = true)
  | 0, x, _, hc, ho, _ => .inr ⟨ho, hc⟩
  | N + 1, x, hf, hc, ho, hfi => by
    have h := runT_keeps (b := b) hn (tasks rows grs) x hok hh hf hc ho hfi
    rw [runX]
    rcases h with h | ⟨h1, h2, h3, h4⟩
    · split
      · rename_i hc2
        have := (runT_len b (tasks rows grs) x).2 h hfi
        rw [this] at hc2
        simp at hc2
      · exact .inl h
    · split
      · exact runX_keeps hn hok hh N _ h4 h3 h2 h1
      · exact .inr ⟨h2, h3⟩
/-- values for which all rows and graphs hold stay in the box -/
theorem runB_keeps {n : Nat} (hn : n ≤ 128) (b : Nat) {rows : List Row} {grs : List Gr} (hr : ∀ r ∈ rows, fitsB n r = true) (hg : ∀ g ∈ grs, grOk n g = true) {box : List Rng} (hf : fineBox n box) {vs : List Int} (hc : containsB box vs = true)
    (hv : ∀ r ∈ rows, valueL vs 0 r.terms ≤ r.bound) (ha : ∀ g ∈ grs, acyG g vs = true) (hfi : (runB b rows grs box).fine = true) : (runB b rows grs box).opn = true ∧ containsB (runB b rows grs box).box vs = true := by
  rcases runX_keeps (b := b) hn (tasks_ok hr hg) (tasks_hold hv hg ha) (b + 1) ⟨[], box, true, true⟩ hf hc rfl rfl with h | h
  · unfold runB at hfi
    rw [h] at hfi
    cases hfi
  · exact h
end Go.Proofs.Ytlbhidiliogflaa
