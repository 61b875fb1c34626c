/-
Search: propagation keeps solutions: plain.
Search: a node finds the least solution in its box, or there is none: plain.
Search: what is found is the least solution of the first branch that has one, or there is none: plain.
Search: what the law on solutions asks: plain.
Search: the reference's cost of a tree.
Search: the facts that the law on solutions asks for: plain.
-/
import Derived.Test.YtlbhidiliogflaaSfP
import Derived.Test.YtlbhidiliogflaaPlain10
import Derived.Test.YtlbhidiliogflaaPlain3
import Derived.Test.YtlbhidiliogflaaSfS
import Derived.Test.YtlbhidiliogflaaPL
import Derived.Test.YtlbhidiliogflaaRefS16
import Derived.Test.YtlbhidiliogflaaSfA
import Derived.Test.YtlbhidiliogflaaSeX
namespace Go.Proofs.Ytlbhidiliogflaa
set_option linter.unusedSimpArgs false
set_option linter.unusedVariables false
open Go.RowKit

/-- what can be reached by edges, or none -/
inductive Rch (s : Nat) (E : Nat → Nat → Bool) (a : Nat) : Nat → Prop
  | refl : Rch s E a a
  | step {b c : Nat} : Rch s E a b → c < s → E b c = true → Rch s E a c
theorem Rch.lt {s : Nat} {E : Nat → Nat → Bool} {a v : Nat} (ha : a < s) (h : Rch s E a v) : v < s := by
  cases h with
  | refl => exact ha
  | step _ h2 _ => exact h2
theorem Rch.cons {s : Nat} {E : Nat → Nat → Bool} {a b v : Nat} (hb : b < s) (he : E a b = true) (h : Rch s E b v) : Rch s E a v := by
  induction h with
  | refl => exact .step .refl hb he
  | step _ h2 h3 ih => exact .step ih h2 h3
theorem Rch.trans {s : Nat} {E : Nat → Nat → Bool} {a b v : Nat} (h1 : Rch s E a b) (h : Rch s E b v) : Rch s E a v := by
  induction h with
  | refl => exact h1
  | step _ h2 h3 ih => exact .step ih h2 h3
theorem Rch.of_rs {n : Nat} {es : List Bool} {E : Nat → Nat → Bool} {a v : Nat} (ha : a < n) (h : Rs n es a v) (hE : ∀ u c, u < n → c < n → hasE n es u c = true → E u c = true) : Rch n E a v := by
  induction h with
  | refl => exact .refl
  | step _ h2 h3 ih => exact .step ih h2 (hE _ _ (ih.lt ha) h2 h3)
theorem walk_rs {n : Nat} {es : List Bool} : ∀ (l : List Nat) (x a : Nat), Rs n es a x → Walk n es (x :: l) → Rs n es a ((x :: l).getLastD 0)
  | [], x, a, h, _ => by simpa using h
  | y :: r, x, a, h, hw => by
    have h2 := walk_rs r y a (.step h hw.1.1 hw.1.2) hw.2
    simpa using h2
theorem path_rs {n : Nat} {es : List Bool} {a t : Nat} (ha : a < n) (h : pathF n es a t ≠ []) : Rs n es a t := by
  obtain ⟨h1, h2, h3, -⟩ := path_some ha h
  cases hp : pathF n es a t with
  | nil => exact absurd hp h
  | cons x l =>
    rw [hp] at h1 h2 h3
    simp only [List.head?_cons, Option.some.injEq] at h1
    subst h1
    have := walk_rs l x x .refl h2
    rwa [h3] at this
/-- what closes asks -/
theorem closB_iff {n : Nat} {g : Gr} (hok : grOk n g = true) (box : List Rng) {k : Nat} (hk : k < g.least.length) : closB g box k = true ↔ Rs g.size.toNat (presB g box) (k % g.size.toNat) (k / g.size.toNat) := by
  obtain ⟨f, m, h1, h2, h3, h4, h5, h6, -⟩ := grOk_parts hok
  have hm : 0 < m := h3
  have hq : k / m < m := (Nat.div_lt_iff_lt_mul hm).2 (by rw [← h5]; exact hk)
  have hr : k % m < m := Nat.mod_lt _ hm
  have ho : openB (m : Int) (presB g box).length = true := by
    have hmm : ((m * m : Nat) : Int) = (m : Int) * (m : Int) := by push_cast; rfl
    unfold openB
    rw [presB_len, h5, hmm, decide_eq_true (show (1 : Int) ≤ (m : Int) by omega), decide_eq_true (show (m : Int) ≤ 6 by omega), decide_eq_true rfl]
    rfl
  have etd : (k : Int).tdiv (m : Int) = ((k / m : Nat) : Int) := by rw [Int.tdiv_eq_ediv_of_nonneg (by omega)]; simp
  have etm : (k : Int).tmod (m : Int) = ((k % m : Nat) : Int) := by rw [Int.tmod_eq_emod_of_nonneg (by omega)]; simp
  unfold closB
  rw [h2, etd, etm, Int.toNat_natCast]
  generalize k % m = r at *
  generalize k / m = q at *
  unfold pathPub
  rw [if_pos ⟨ho, ⟨by omega, by omega⟩, by omega, by omega⟩]
  simp only [Int.toNat_natCast]
  rw [Bool.not_eq_true', decide_eq_false_iff_not]
  constructor
  · intro h
    exact path_rs hr fun e => h (by rw [e]; rfl)
  · intro h e
    have : pathF m (presB g box) r q = [] := by
      unfold castL at e
      simpa using e
    exact path_none hr this h
theorem pres_at {g : Gr} {box : List Rng} {f i : Nat} (hf : g.first = (f : Int)) (hi : i < g.least.length) : (presB g box).getD i false = decide (g.least.getD i 0 ≤ (pick box ((f + i : Nat) : Int)).lo) := by
  have e : g.first + (i : Int) = ((f + i : Nat) : Int) := by rw [hf]; push_cast; rfl
  unfold presB
  rw [List.getD_eq_getElem?_getD, List.getElem?_map, List.getElem?_range hi]
  simp [e]
/-- no edge of a graph without cycles closes a cycle -/
theorem acy_edge {g : Gr} {vs : List Int} (ha : acyG g vs = true) {a b : Nat} (hA : a < g.size.toNat) (hB : b < g.size.toNat) (he : edgB g.first.toNat g.size.toNat g.least vs a b = true) : ¬ Rch g.size.toNat (edgB g.first.toNat g.size.toNat g.least vs) b a := by
  intro hr
  unfold acyG at ha
  have h := acyF_iff.1 ha (fun v => Rch g.size.toNat (edgB g.first.toNat g.size.toNat g.least vs) b v ∧ Rch g.size.toNat (edgB g.first.toNat g.size.toNat g.least vs) v a) (fun v hv hS => ?_) b hB
  · exact h ⟨.refl, hr⟩
  · obtain ⟨h1, h2⟩ := hS
    cases h1 with
    | refl => exact ⟨a, hA, ⟨hr, .refl⟩, he⟩
    | step h3 h4 h5 => exact ⟨_, h3.lt hB, ⟨h3, .cons hv h5 h2⟩, h5⟩
theorem cut_keeps {n : Nat} {g : Gr} (hok : grOk n g = true) {box : List Rng} (hb : box.length = n) {vs : List Int} (hc : containsB box vs = true) (ha : acyG g vs = true) {f k : Nat} (hf : g.first = (f : Int)) (hk : k < g.least.length) :
    (cutG g box k).lo ≤ vs.getD (f + k) 0 ∧ vs.getD (f + k) 0 ≤ (cutG g box k).hi := by
  obtain ⟨f', m, h1, h2, h3, h4, h5, h6, -⟩ := grOk_parts hok
  obtain rfl : f' = f := by omega
  obtain ⟨hl, hv⟩ := not_badV hc
  have hfk : f' + k < vs.length := by omega
  have e : g.first + (k : Int) = ((f' + k : Nat) : Int) := by rw [h1]; push_cast; rfl
  have hvk := hv (f' + k) hfk
  unfold cutG
  rw [e]
  split
  · rename_i h
    refine ⟨hvk.1, ?_⟩
    refine Classical.byContradiction fun hno => ?_
    dsimp only at hno
    have hm : 0 < m := h3
    have hsz : g.size.toNat = m := by rw [h2, Int.toNat_natCast]
    have hft : g.first.toNat = f' := by rw [h1, Int.toNat_natCast]
    have hq : k / m < m := (Nat.div_lt_iff_lt_mul hm).2 (by rw [← h5]; exact hk)
    have hr : k % m < m := Nat.mod_lt _ hm
    have hdm : k / m * m + k % m = k := by rw [Nat.mul_comm]; exact Nat.div_add_mod k m
    have hrs := (closB_iff hok box hk).1 h.2
    rw [hsz] at hrs
    have hE : ∀ u c, u < m → c < m → hasE m (presB g box) u c = true → edgB f' m g.least vs u c = true := fun u c hu hc' hh => by
      have hi : u * m + c < g.least.length := by rw [h5]; exact at_row hu hc' (Nat.le_refl _)
      unfold hasE at hh
      rw [pres_at h1 hi, decide_eq_true_eq] at hh
      have h8 := hv (f' + (u * m + c)) (by omega)
      unfold edgB
      rw [decide_eq_true_eq, show f' + u * m + c = f' + (u * m + c) by omega]
      omega
    have hrch := Rch.of_rs hr hrs hE
    have hedge : edgB f' m g.least vs (k / m) (k % m) = true := by
      unfold edgB
      rw [decide_eq_true_eq, hdm, show f' + k / m * m + k % m = f' + (k / m * m + k % m) by omega, hdm]
      omega
    have := acy_edge ha (a := k / m) (b := k % m) (by rw [hsz]; exact hq) (by rw [hsz]; exact hr) (by rw [hsz, hft]; exact hedge)
    rw [hsz, hft] at this
    exact this hrch
  · exact hvk
theorem contains_set {box : List Rng} {vs : List Int} (hc : containsB box vs = true) {j : Nat} {r : Rng} (h1 : r.lo ≤ vs.getD j 0) (h2 : vs.getD j 0 ≤ r.hi) : containsB (box.set j r) vs = true := by
  obtain ⟨hl, hv⟩ := not_badV hc
  refine containsB_of (by rw [List.length_set]; exact hl) fun k hk => ?_
  rw [pick_set box j k r (by omega)]
  by_cases hjk : j = k
  · subst hjk
    rw [if_pos rfl]
    exact ⟨h1, h2⟩
  · rw [if_neg hjk]
    exact hv k hk
/-- what holds of the values -/
def TskHolds (n : Nat) (vs : List Int) : Tsk → Prop
  | .dead _ => False
  | .row _ r _ => valueL vs 0 r.terms ≤ r.bound
  | .gr _ g k => grOk n g = true ∧ acyG g vs = true ∧ k < g.least.length
theorem tasks_hold {n : Nat} {rows : List Row} {grs : List Gr} {vs : List Int} (hr : ∀ r ∈ rows, valueL vs 0 r.terms ≤ r.bound) (hg : ∀ g ∈ grs, grOk n g = true) (ha : ∀ g ∈ grs, acyG g vs = true) : ∀ t ∈ tasks rows grs, TskHolds n vs t := by
  intro t ht
  unfold tasks at ht
  rw [List.mem_append] at ht
  rcases ht with ht | ht
  · obtain ⟨j, hj, ht⟩ := rowsT_mem rows 0 ht
    have h1 := hr _ (List.getElem_mem hj)
    rcases rowT_mem ht with ⟨rfl, h2, h3⟩ | ⟨u, hu, rfl⟩
    · rw [h2] at h1
      simp [valueL] at h1
      omega
    · exact h1
  · obtain ⟨j, hj, ht⟩ := grsT_mem grs 0 ht
    obtain ⟨k, hk, rfl⟩ := grT_mem ht
    exact ⟨hg _ (List.getElem_mem hj), ha _ (List.getElem_mem hj), hk⟩
theorem tsk_keeps {n : Nat} {box : List Rng} (hf : fineBox n box) (hn : n ≤ 128) {vs : List Int} (hc : containsB box vs = true) {t : Tsk} (ht : TskOk n t) (hh : TskHolds n vs t) : (tskR box t).2.lo ≤ vs.getD (tskR box t).1 0 ∧ vs.getD (tskR box t).1 0 ≤ (tskR box t).2.hi := by
  cases t with
  | dead i => exact absurd hh (fun h => h)
  | row i r c =>
    obtain ⟨h1, j, rfl, hj⟩ := ht
    simp only [tskR, Int.toNat_natCast]
    exact keeps_tight (valid_fine hf hn h1) hc hh j (by rw [← (not_badV hc).1, hf.1]; exact hj)
  | gr i g k =>
    obtain ⟨f, h1, hj⟩ := ht
    have e : (g.first + (k : Int)).toNat = f + k := by rw [h1]; omega
    simp only [tskR, e]
    exact cut_keeps hh.1 hf.1 hc hh.2.1 h1 hh.2.2
theorem doT_keeps {n b : Nat} {x : PX} (hf : fineBox n x.box) (hn : n ≤ 128) {vs : List Int} (hc : containsB x.box vs = true) (ho : x.opn = true) (hfi : x.fine = true) {t : Tsk} (ht : TskOk n t) (hh : TskHolds n vs t) :
    (doT b x t).fine = false ∨ ((doT b x t).fine = true ∧ (doT b x t).opn = true ∧ containsB (doT b x t).box vs = true ∧ fineBox n (doT b x t).box) := by
  have hk := tsk_keeps hf hn hc ht hh
  rcases doT_cases (b := b) ho hfi hf hn ht with ⟨-, e⟩ | ⟨-, e⟩ | ⟨he, -, s, e⟩ | ⟨he, -, s, e⟩
  · rw [e]
    exact .inr ⟨hfi, ho, hc, hf⟩
  · rw [e]
    exact .inl rfl
  · unfold emptyR at he
    rw [decide_eq_true_eq] at he
    omega
  · rw [e]
    obtain ⟨g1, g2, g3, g4⟩ := tight_sub' hf hn ht he
    exact .inr ⟨rfl, rfl, contains_set hc hk.1 hk.2, fineBox_set hf g1 g2 g3 g4⟩
theorem runT_keeps {n b : Nat} (hn : n ≤ 128) {vs : List Int} : ∀ (l : List Tsk) (x : PX), (∀ t ∈ l, TskOk n t) → (∀ t ∈ l, TskHolds n vs t) → fineBox n x.box → containsB x.box vs = true → x.opn = true → x.fine = true →
    (runT b x l).fine = false ∨ ((runT b x l).fine = true ∧ (runT b x l).opn = true ∧ containsB (runT b x l).box vs = true ∧ fineBox n (runT b x l).box)
  | [], x, _, _, hf, hc, ho, hfi => .inr ⟨hfi, ho, hc, hf⟩
  | t :: l, x, hl, hh, hf, hc, ho, hfi => by
    rw [runT_cons]
    rcases doT_keeps (b := b) hf hn hc ho hfi (hl t (by simp)) (hh t (by simp)) with h | ⟨h1, h2, h3, h4⟩
    · exact .inl (runT_unfine l h)
    · exact runT_keeps hn l _ (fun u hu => hl u (by simp [hu])) (fun u hu => hh u (by simp [hu])) h4 h3 h2 h1
theorem runX_keeps {n b : Nat} (hn : n ≤ 128) {vs : List Int} {rows : List Row} {grs : List Gr} (hok : ∀ t ∈ tasks rows grs, TskOk n t) (hh : ∀ t ∈ tasks rows grs, TskHolds n vs t) : ∀ (N : Nat) (x : PX), fineBox n x.box → containsB x.box vs = true → x.opn = true → x.fine = true →
    (runX b rows grs N x).fine = false ∨ ((runX b rows grs N x).opn = true ∧ containsB (runX b rows grs N x).box vs = true)
  | 0, x, _, hc, ho, _ => .inr ⟨ho, hc⟩
  | N + 1, x, hf, hc, ho, hfi => by
    have h := runT_keeps (b := b) hn (tasks rows grs) x hok hh hf hc ho hfi
    rw [runX]
    rcases h with h | ⟨h1, h2, h3, h4⟩
    · split
      · rename_i hc2
        have := (runT_len b (tasks rows grs) x).2 h hfi
        rw [this] at hc2
        simp at hc2
      · exact .inl h
    · split
      · exact runX_keeps hn hok hh N _ h4 h3 h2 h1
      · exact .inr ⟨h2, h3⟩
/-- values for which all rows and graphs hold stay in the box -/
theorem runB_keeps {n : Nat} (hn : n ≤ 128) (b : Nat) {rows : List Row} {grs : List Gr} (hr : ∀ r ∈ rows, fitsB n r = true) (hg : ∀ g ∈ grs, grOk n g = true) {box : List Rng} (hf : fineBox n box) {vs : List Int} (hc : containsB box vs = true)
    (hv : ∀ r ∈ rows, valueL vs 0 r.terms ≤ r.bound) (ha : ∀ g ∈ grs, acyG g vs = true) (hfi : (runB b rows grs box).fine = true) : (runB b rows grs box).opn = true ∧ containsB (runB b rows grs box).box vs = true := by
  rcases runX_keeps (b := b) hn (tasks_ok hr hg) (tasks_hold hv hg ha) (b + 1) ⟨[], box, true, true⟩ hf hc rfl rfl with h | h
  · unfold runB at hfi
    rw [h] at hfi
    cases hfi
  · exact h
end Go.Proofs.Ytlbhidiliogflaa
namespace Go.Proofs.Ytlbhidiliogflaa
set_option linter.unusedSimpArgs false
set_option linter.unusedVariables false
open Go.RowKit

/-! values in a box, in order -/
theorem rngL_append : ∀ (n : Nat) (lo m hi : Int), (m + 1 - lo).toNat = n → lo ≤ m + 1 → m ≤ hi → rngL lo hi = rngL lo m ++ rngL (m + 1) hi
  | 0, lo, m, hi, hn, h1, h2 => by
    have : lo = m + 1 := by omega
    subst this
    rw [rngL_nil (show m < m + 1 by omega)]
    rfl
  | n + 1, lo, m, hi, hn, h1, h2 => by
    rw [rngL_cons (show lo ≤ hi by omega), rngL_cons (show lo ≤ m by omega), rngL_append n (lo + 1) m hi (by omega) (by omega) h2]
    rfl
theorem rngL_one (x : Int) : rngL x x = [x] := by
  rw [rngL_cons (Int.le_refl _), rngL_nil (by omega)]
theorem filter_map' {α β : Type} (f : α → β) (p : β → Bool) (l : List α) : (l.map f).filter p = (l.filter fun x => p (f x)).map f := by
  rw [List.filter_map]
  rfl
theorem fm_congr {α β : Type} {f g : α → List β} : ∀ (l : List α), (∀ x ∈ l, f x = g x) → l.flatMap f = l.flatMap g
  | [], _ => rfl
  | x :: l, h => by
    rw [List.flatMap_cons, List.flatMap_cons, h x (by simp), fm_congr l (fun y hy => h y (by simp [hy]))]
/-- a smaller box that keeps what p takes -/
theorem allS_sub : ∀ (b b' : List Rng) (p : List Int → Bool), b'.length = b.length → (∀ k : Nat, k < b.length → (pick b k).lo ≤ (pick b' k).lo ∧ (pick b' k).hi ≤ (pick b k).hi) → (∀ vs ∈ allS b, p vs = true → vs ∈ allS b') →
    (allS b).filter p = (allS b').filter p
  | [], [], p, _, _, _ => rfl
  | r :: b, r' :: b', p, hl, hs, hk => by
    have h0 := hs 0 (by simp)
    simp only [pick, Int.toNat_natCast, List.getD_cons_zero, Int.natCast_zero, Int.toNat_zero] at h0
    have hs' : ∀ k : Nat, k < b.length → (pick b k).lo ≤ (pick b' k).lo ∧ (pick b' k).hi ≤ (pick b k).hi := fun k hk => by
      have := hs (k + 1) (by simpa using hk)
      simpa [pick] using this
    have hin : ∀ x vs, x ∈ rngL r.lo r.hi → vs ∈ allS b → p (x :: vs) = true → x ∈ rngL r'.lo r'.hi ∧ vs ∈ allS b' := fun x vs hx hv hp => by
      have h1 := hk (x :: vs) (by unfold allS; rw [List.mem_flatMap]; exact ⟨x, hx, List.mem_map.2 ⟨vs, hv, rfl⟩⟩) hp
      unfold allS at h1
      rw [List.mem_flatMap] at h1
      obtain ⟨y, hy, h2⟩ := h1
      obtain ⟨us, hu, e⟩ := List.mem_map.1 h2
      injection e with e1 e2
      subst e1 e2
      exact ⟨hy, hu⟩
    have hout : ∀ x, x ∈ rngL r.lo r.hi → x ∉ rngL r'.lo r'.hi → ((allS b).map (x :: ·)).filter p = [] := fun x hx hn => by
      rw [filter_map', List.map_eq_nil_iff, List.filter_eq_nil_iff]
      intro vs hv hp
      exact hn (hin x vs hx hv hp).1
    have hsame : ∀ x, x ∈ rngL r.lo r.hi → x ∈ rngL r'.lo r'.hi → ((allS b).map (x :: ·)).filter p = ((allS b').map (x :: ·)).filter p := fun x hx hx' => by
      rw [filter_map', filter_map', allS_sub b b' (fun vs => p (x :: vs)) (by simpa using hl) hs' (fun vs hv hp => (hin x vs hx hv hp).2)]
    unfold allS
    rw [List.filter_flatMap, List.filter_flatMap]
    by_cases he : r'.hi < r'.lo
    · rw [rngL_nil he, List.flatMap_nil, List.flatMap_eq_nil_iff]
      intro x hx
      exact hout x hx (by rw [rngL_nil he]; simp)
    · rw [rngL_append _ r.lo (r'.lo - 1) r.hi rfl (by omega) (by omega), rngL_append _ (r'.lo - 1 + 1) r'.hi r.hi rfl (by omega) (by omega), show r'.lo - 1 + 1 = r'.lo by omega, List.flatMap_append, List.flatMap_append]
      have e1 : (rngL r.lo (r'.lo - 1)).flatMap (fun x => ((allS b).map (x :: ·)).filter p) = [] := by
        rw [List.flatMap_eq_nil_iff]
        intro x hx
        have := rngL_mem.1 hx
        exact hout x (rngL_mem.2 (by omega)) (fun h => by have := rngL_mem.1 h; omega)
      have e2 : (rngL (r'.hi + 1) r.hi).flatMap (fun x => ((allS b).map (x :: ·)).filter p) = [] := by
        rw [List.flatMap_eq_nil_iff]
        intro x hx
        have := rngL_mem.1 hx
        exact hout x (rngL_mem.2 (by omega)) (fun h => by have := rngL_mem.1 h; omega)
      rw [e1, e2, List.nil_append, List.append_nil]
      refine fm_congr _ fun x hx => ?_
      have := rngL_mem.1 hx
      exact hsame x (rngL_mem.2 (by omega)) hx
/-- a range cut in two; the ranges before it hold one value each -/
theorem allS_split : ∀ (b : List Rng) (j : Nat) (m : Int), j < b.length → (∀ i : Nat, i < j → (pick b i).lo = (pick b i).hi) → (pick b j).lo ≤ m + 1 → m ≤ (pick b j).hi →
    allS b = allS (b.set j ⟨(pick b j).lo, m⟩) ++ allS (b.set j ⟨m + 1, (pick b j).hi⟩)
  | [], j, m, hj, _, _, _ => absurd hj (by simp)
  | r :: b, 0, m, _, _, h1, h2 => by
    simp only [pick, Int.natCast_zero, Int.toNat_zero, List.getD_cons_zero] at h1 h2 ⊢
    rw [List.set_cons_zero, List.set_cons_zero]
    unfold allS
    dsimp only
    rw [rngL_append _ r.lo m r.hi rfl h1 h2, List.flatMap_append]
  | r :: b, j + 1, m, hj, hs, h1, h2 => by
    have h0 := hs 0 (by omega)
    simp only [pick, Int.natCast_zero, Int.toNat_zero, List.getD_cons_zero] at h0
    have hp : pick (r :: b) ((j + 1 : Nat) : Int) = pick b (j : Int) := by simp [pick]
    rw [hp] at h1 h2 ⊢
    have ih := allS_split b j m (by simpa using hj) (fun i hi => by
      have := hs (i + 1) (by omega)
      simpa [pick] using this) h1 h2
    rw [List.set_cons_succ, List.set_cons_succ]
    unfold allS
    rw [← h0, rngL_one, List.flatMap_singleton, List.flatMap_singleton, List.flatMap_singleton, ih, List.map_append]
theorem allS_one : ∀ (b : List Rng), (∀ r ∈ b, r.lo = r.hi) → allS b = [b.map (·.lo)]
  | [], _ => rfl
  | r :: b, h => by
    have h0 := h r (by simp)
    unfold allS
    rw [← h0, rngL_one, List.flatMap_singleton, allS_one b (fun x hx => h x (by simp [hx]))]
    rfl
/-- whether values satisfy rows and graphs -/
def solvB (rows : List Row) (grs : List Gr) (vs : List Int) : Bool := !rows.any (badR vs) && !grs.any (badG vs)
theorem solvB_iff {rows : List Row} {grs : List Gr} {vs : List Int} : solvB rows grs vs = true ↔ (∀ r ∈ rows, valueL vs 0 r.terms ≤ r.bound) ∧ ∀ g ∈ grs, acyG g vs = true := by
  unfold solvB
  simp only [Bool.and_eq_true, Bool.not_eq_true', List.any_eq_false]
  constructor
  · rintro ⟨h1, h2⟩
    exact ⟨fun r hr => by have := h1 r hr; unfold badR holdsR at this; simpa using this, fun g hg => by have := h2 g hg; unfold badG at this; simpa using this⟩
  · rintro ⟨h1, h2⟩
    exact ⟨fun r hr => by have := h1 r hr; unfold badR holdsR; simpa using this, fun g hg => by have := h2 g hg; unfold badG; simpa using this⟩
/-! a fixed box of single values -/
theorem filter_lt {α : Type} {p q : α → Bool} : ∀ (l : List α), (∀ x ∈ l, p x = true → q x = true) → (∃ x ∈ l, q x = true ∧ p x = false) → (l.filter p).length < (l.filter q).length
  | [], _, ⟨x, hx, _⟩ => absurd hx (by simp)
  | y :: l, h, ⟨x, hx, h1, h2⟩ => by
    have hle : (l.filter p).length ≤ (l.filter q).length := by
      have : ∀ l : List α, (∀ x ∈ l, p x = true → q x = true) → (l.filter p).length ≤ (l.filter q).length := fun l => by
        induction l with
        | nil => intro _; exact Nat.le_refl _
        | cons z l ih =>
          intro h
          have h3 := ih fun x hx => h x (by simp [hx])
          have h4 := h z (by simp)
          rw [List.filter_cons, List.filter_cons]
          cases hp : p z <;> cases hq : q z
          · simpa using h3
          · simp; omega
          · rw [h4 hp] at hq; cases hq
          · simp; omega
      exact this l fun x hx => h x (by simp [hx])
    rw [List.filter_cons, List.filter_cons]
    rcases List.mem_cons.1 hx with rfl | hx
    · rw [h1, h2]
      simp
      omega
    · have ih := filter_lt l (fun x hx => h x (by simp [hx])) ⟨x, hx, h1, h2⟩
      have h4 := h y (by simp)
      cases hp : p y <;> cases hq : q y
      · simpa using ih
      · simp; omega
      · rw [h4 hp] at hq; cases hq
      · simp; omega
open Classical in
/-- no edge closes a cycle: then no vertices are stuck -/
theorem no_stuck {s : Nat} {E : Nat → Nat → Bool} (h : ∀ a b, a < s → b < s → E a b = true → ¬ Rch s E b a) {S : Nat → Prop} (hS : Stuck s E S) : ∀ (n v : Nat), ((List.range s).filter fun x => decide (Rch s E x v)).length ≤ n → v < s → ¬ S v
  | 0, v, hn, hv, _ => by
    have h1 : v ∈ (List.range s).filter fun x => decide (Rch s E x v) := List.mem_filter.2 ⟨List.mem_range.2 hv, by simpa using Rch.refl⟩
    have hz := List.length_eq_zero_iff.1 (Nat.le_zero.1 hn)
    rw [hz] at h1
    simp at h1
  | n + 1, v, hn, hv, hSv => by
    obtain ⟨u, hu, hSu, hE⟩ := hS v hv hSv
    refine no_stuck h hS n u ?_ hu hSu
    have := filter_lt (p := fun x => decide (Rch s E x u)) (q := fun x => decide (Rch s E x v)) (List.range s) (fun x _ hx => by
      rw [decide_eq_true_eq] at hx ⊢
      exact .step hx hv hE) ⟨v, List.mem_range.2 hv, by simpa using Rch.refl, by simpa using h u v hu hv hE⟩
    omega
theorem pick_mem {box : List Rng} {k : Nat} (hk : k < box.length) : pick box (k : Int) ∈ box := by
  rw [pick_at box k hk]
  exact List.getElem_mem hk
theorem sing_eq : ∀ (box : List Rng), (∀ r ∈ box, r.lo = r.hi) → sing (box.map (·.lo)) = box
  | [], _ => rfl
  | r :: b, h => by
    have h0 := h r (by simp)
    have ih := sing_eq b (fun x hx => h x (by simp [hx]))
    unfold sing at ih ⊢
    rw [List.map_cons, List.map_cons, ih]
    obtain ⟨lo, hi⟩ := r
    dsimp only at h0
    subst h0
    rfl
theorem leaf_solves {n : Nat} (hn : n ≤ 128) {rows : List Row} {grs : List Gr} (hr : ∀ r ∈ rows, fitsB n r = true) (hg : ∀ g ∈ grs, grOk n g = true) {box : List Rng} (hf : fineBox n box) (hx : Fixed rows grs box) (h1 : ∀ r ∈ box, r.lo = r.hi) :
    solvB rows grs (box.map (·.lo)) = true := by
  have hsg := sing_eq box h1
  have hvl : (box.map (·.lo)).length = n := by rw [List.length_map]; exact hf.1
  have hvat : ∀ k : Nat, k < n → (box.map (·.lo)).getD k 0 = (pick box (k : Int)).lo ∧ (pick box (k : Int)).lo = (pick box (k : Int)).hi := fun k hk => by
    have hk' : k < box.length := by rw [hf.1]; exact hk
    refine ⟨?_, h1 _ (pick_mem hk')⟩
    rw [pick_at box k hk', List.getD_eq_getElem?_getD, List.getElem?_map, List.getElem?_eq_getElem hk']
    rfl
  refine solvB_iff.2 ⟨fun r hrr => ?_, fun g hgg => ?_⟩
  · obtain ⟨i, hi, rfl⟩ := List.getElem_of_mem hrr
    have hmem : ∀ t ∈ rowT (0 + i) rows[i], NoOp box t := fun t ht => hx t (List.mem_append.2 (.inl (rowsT_at rows 0 i hi ht)))
    cases hts : rows[i].terms with
    | nil =>
      rw [show valueL (box.map (·.lo)) 0 [] = 0 from rfl]
      refine Classical.byContradiction fun hb => ?_
      have h2 := hmem (.dead (0 + i)) (by rw [rowT_dead hts (by omega)]; simp)
      exact h2
    | cons t l =>
      have htm : t ∈ rows[i].terms := by rw [hts]; simp
      have hlive : ¬ (rows[i].terms = [] ∧ rows[i].bound < 0) := fun h => by rw [hts] at h; cases h.1
      have hC : Closed [rows[i]] box := fun r' hr' u hu => by
        simp only [List.mem_singleton] at hr'
        subst hr'
        have h3 := hmem (.row (0 + i) rows[i] u.cell) (by rw [rowT_live hlive]; exact List.mem_map.2 ⟨u, hu, rfl⟩)
        have h4 : tightenB rows[i] box u.cell = pick box u.cell := sameR_iff.1 h3
        obtain ⟨⟨c0, c1, -, -⟩, -⟩ := fitsn_all (hr _ hrr) u hu
        obtain ⟨c, hc⟩ := Int.eq_ofNat_of_zero_le c0
        rw [hc] at h4 ⊢
        rw [tighten_eq hf hn (hr _ hrr) c (by omega)] at h4
        refine ⟨?_, h4⟩
        rw [h4]
        have := (hvat c (by omega)).2
        unfold emptyR
        simp
        omega
      obtain ⟨⟨c0, c1, -, -⟩, -⟩ := fitsn_all (hr _ hrr) t htm
      obtain ⟨c, hc⟩ := Int.eq_ofNat_of_zero_le c0
      have hcn : c < n := by omega
      have hfd : rows[i].terms.find? (fun x => x.cell == (c : Int)) = some t := by rw [hts]; simp [hc]
      have h5 := closed_le (fun r' hr' => by simp only [List.mem_singleton] at hr'; subst hr'; exact hr _ hrr) hC (List.mem_singleton.2 rfl) hfd (pick box (c : Int)).lo (Int.le_refl _) (by have := (hvat c hcn).2; omega)
      have hff : fitsL n (-1) rows[i].terms = true := by have := hr _ hrr; unfold fitsB at this; rw [Bool.and_eq_true] at this; exact this.1
      have h6 := valueL_split (box.map (·.lo)) n c rows[i].terms (-1) (by omega) hff (fun u hu => by rw [hvl]; exact (fitsn_all (hr _ hrr) u hu).1)
      rw [hfd, hsg] at h6
      dsimp only at h6
      rw [Int.toNat_natCast, (hvat c hcn).1] at h6
      rw [← hts]
      omega
  · obtain ⟨i, hi, rfl⟩ := List.getElem_of_mem hgg
    have hok := hg _ hgg
    obtain ⟨f, m, e1, e2, e3, e4, e5, e6, -⟩ := grOk_parts hok
    have hmem : ∀ k, k < grs[i].least.length → NoOp box (.gr (0 + i) grs[i] k) := fun k hk => hx _ (List.mem_append.2 (.inr (grsT_at grs 0 i hi (by
      unfold grT
      exact List.mem_map.2 ⟨k, List.mem_range.2 hk, rfl⟩))))
    generalize grs[i] = g at *
    have hsz : g.size.toNat = m := by rw [e2, Int.toNat_natCast]
    have hft : g.first.toNat = f := by rw [e1, Int.toNat_natCast]
    unfold acyG
    rw [acyF_iff, hsz, hft]
    have hedge : ∀ a b, a < m → b < m → edgB f m g.least (box.map (·.lo)) a b = true → ¬ Rch m (edgB f m g.least (box.map (·.lo))) b a := fun a b ha hb he hre => by
      have hkl : a * m + b < g.least.length := by rw [e5]; exact at_row ha hb (Nat.le_refl _)
      have hno := hmem (a * m + b) hkl
      have hdv : (a * m + b) / m = a := by
        rw [Nat.mul_comm, Nat.mul_add_div (by omega)]
        rw [Nat.div_eq_of_lt hb]
        rfl
      have hmd : (a * m + b) % m = b := by
        rw [Nat.mul_comm, Nat.mul_add_mod]
        exact Nat.mod_eq_of_lt hb
      have hcl : closB g box (a * m + b) = true := by
        rw [closB_iff hok box hkl, hsz, hmd, hdv]
        have : ∀ v, Rch m (edgB f m g.least (box.map (·.lo))) b v → Rs m (presB g box) b v := fun v hv => by
          induction hv with
          | refl => exact .refl
          | step h7 h8 h9 ih =>
            refine .step ih h8 ?_
            rename_i x y
            have hxl := h7.lt hb
            have hil : x * m + y < g.least.length := by rw [e5]; exact at_row hxl h8 (Nat.le_refl _)
            unfold hasE
            rw [pres_at e1 hil, decide_eq_true_eq]
            unfold edgB at h9
            rw [decide_eq_true_eq, show f + x * m + y = f + (x * m + y) by omega, (hvat (f + (x * m + y)) (by omega)).1] at h9
            exact h9
        exact this a hre
      unfold edgB at he
      rw [decide_eq_true_eq, show f + a * m + b = f + (a * m + b) by omega, (hvat (f + (a * m + b)) (by omega)).1] at he
      have hpe : g.first + ((a * m + b : Nat) : Int) = ((f + (a * m + b) : Nat) : Int) := by rw [e1]; push_cast; rfl
      have hsame : cutG g box (a * m + b) = pick box (g.first + ((a * m + b : Nat) : Int)) := sameR_iff.1 hno
      have hv := (hvat (f + (a * m + b)) (by omega)).2
      unfold cutG at hsame
      rw [hpe] at hsame
      rw [if_pos ⟨by omega, hcl⟩] at hsame
      have := congrArg Rng.hi hsame
      dsimp only at this
      omega
    intro S hS v hv
    exact no_stuck hedge hS _ v (Nat.le_refl _) hv
end Go.Proofs.Ytlbhidiliogflaa
namespace Go.Proofs.Ytlbhidiliogflaa
set_option linter.unusedSimpArgs false
set_option linter.unusedVariables false
open Go.RowKit

/-- what a node says of its box -/
def GoodN (p : List Int → Bool) (box : List Rng) : NR → Prop
  | .out => True
  | .sol vs _ _ => ∃ t, (allS box).filter p = vs :: t
  | .ref _ _ => (allS box).filter p = []
theorem keep_sub {n : Nat} (hn : n ≤ 128) {b : Nat} {rows more : List Row} {grs : List Gr} (hr : ∀ r ∈ rows, fitsB n r = true) (hg : ∀ g ∈ grs, grOk n g = true) {box : List Rng} (hf : fineBox n box) {F : PX} (hF : runB b rows grs box = F) (hfi : F.fine = true) :
    (F.opn = false → (allS box).filter (solvB (rows ++ more) grs) = []) ∧ (F.opn = true → (allS box).filter (solvB (rows ++ more) grs) = (allS F.box).filter (solvB (rows ++ more) grs)) := by
  have hk : ∀ vs ∈ allS box, solvB (rows ++ more) grs vs = true → F.opn = true ∧ vs ∈ allS F.box := fun vs hv hs => by
    obtain ⟨h1, h2⟩ := solvB_iff.1 hs
    have hc : containsB box vs = true := (inB_iff _ _).1 ((allS_mem box vs).1 hv)
    have := runB_keeps hn b hr hg hf hc (fun r hr' => h1 r (List.mem_append.2 (.inl hr'))) h2 (by rw [hF]; exact hfi)
    rw [hF] at this
    exact ⟨this.1, (allS_mem _ _).2 ((inB_iff _ _).2 this.2)⟩
  obtain ⟨k1, k2, -, -⟩ := runB_kept hn b hr hg hf
  rw [hF] at k1 k2
  constructor
  · intro ho
    rw [List.filter_eq_nil_iff]
    intro vs hv hs
    have := (hk vs hv hs).1
    rw [ho] at this
    cases this
  · intro ho
    exact allS_sub box F.box _ k2.1 k2.2 (fun vs hv hs => (hk vs hv hs).2)
theorem node_good {n : Nat} (hn : n ≤ 128) {grs : List Gr} (hg : ∀ g ∈ grs, grOk n g = true) : ∀ (N : Nat) (rows : List Row) (box : List Rng) (b : Nat), (∀ r ∈ rows, fitsB n r = true) → fineBox n box → GoodN (solvB rows grs) box (nodeF rows grs N box b)
  | 0, rows, box, b, _, _ => trivial
  | N + 1, rows, box, b, hr, hf => by
    by_cases hb0 : b = 0
    · rw [nodeF_zero hb0]
      exact trivial
    obtain ⟨F, hF⟩ : ∃ F, runB (b - 1) rows grs box = F := ⟨_, rfl⟩
    obtain ⟨k1, k2, k3, k4⟩ := runB_kept hn (b - 1) hr hg hf
    rw [hF] at k1 k2 k3 k4
    cases hfi : F.fine with
    | false =>
      rw [nodeF_out hb0 hF hfi]
      exact trivial
    | true =>
      have hk := keep_sub (more := []) hn hr hg hf hF hfi
      rw [List.append_nil] at hk
      cases ho : F.opn with
      | false =>
        rw [nodeF_shut hb0 hF hfi ho]
        exact hk.1 ho
      | true =>
        have hs := hk.2 ho
        have hfx := (k4 ho).2
        rcases idxF_cases wideR 0 F.box with ⟨hi, hnw⟩ | ⟨j, hj, hi, hw, hlow⟩
        · rw [nodeF_sol hb0 hF hfi ho (by omega)]
          have h1 : ∀ r ∈ F.box, r.lo = r.hi := fun r hr' => by
            have a1 := List.any_eq_false.1 hnw r hr'
            have a2 := k1.2.2 r hr'
            unfold wideR at a1
            simp at a1
            omega
          refine ⟨[], ?_⟩
          rw [hs, allS_one F.box h1, List.filter_cons, leaf_solves hn hr hg k1 hfx h1]
          rfl
        · rw [nodeF_split hb0 hF hfi ho (by omega)]
          rw [Nat.zero_add] at hi
          rw [hi]
          have hp := pick_at F.box j hj
          have hm := mid_bounds (k1.2.1 F.box[j] (List.getElem_mem hj)) hw
          have hsp := allS_split F.box j (middle (pick F.box (j : Int))) hj (fun i hij => by
            have i3 : i < F.box.length := by omega
            rw [pick_at F.box i i3]
            have a1 := hlow i hij
            have a2 := k1.2.2 F.box[i] (List.getElem_mem i3)
            unfold wideR at a1
            simp at a1
            omega) (by rw [hp]; omega) (by rw [hp]; omega)
          have hA := node_good hn hg N rows (F.box.set j (halfR F.box (j : Int) (middle (pick F.box (j : Int))) 0)) (b - (1 + F.steps.length)) hr (half_fine k1 hj hw 0)
          have hB := fun c => node_good hn hg N rows (F.box.set j (halfR F.box (j : Int) (middle (pick F.box (j : Int))) 1)) c hr (half_fine k1 hj hw 1)
          have hh0 : halfR F.box (j : Int) (middle (pick F.box (j : Int))) 0 = ⟨(pick F.box (j : Int)).lo, middle (pick F.box (j : Int))⟩ := rfl
          have hh1 : halfR F.box (j : Int) (middle (pick F.box (j : Int))) 1 = ⟨middle (pick F.box (j : Int)) + 1, (pick F.box (j : Int)).hi⟩ := rfl
          rw [splitF_next, Int.toNat_natCast]
          cases h1 : nodeF rows grs N (F.box.set j (halfR F.box (j : Int) (middle (pick F.box (j : Int))) 0)) (b - (1 + F.steps.length)) with
          | out => exact trivial
          | sol vs i d =>
            rw [h1] at hA
            obtain ⟨t, ht⟩ := hA
            refine ⟨t ++ (allS (F.box.set j ⟨middle (pick F.box (j : Int)) + 1, (pick F.box (j : Int)).hi⟩)).filter (solvB rows grs), ?_⟩
            rw [hs, hsp, List.filter_append, ← hh0, ht]
            rfl
          | ref t d =>
            rw [h1] at hA
            simp only [kidF]
            rw [splitF_next, Int.toNat_natCast]
            have hB2 := hB (b - (1 + F.steps.length + d))
            cases h2 : nodeF rows grs N (F.box.set j (halfR F.box (j : Int) (middle (pick F.box (j : Int))) (0 + 1))) (b - (1 + F.steps.length + d)) with
            | out => exact trivial
            | sol vs i e =>
              rw [Nat.zero_add] at h2
              rw [h2] at hB2
              obtain ⟨t, ht⟩ := hB2
              refine ⟨t, ?_⟩
              rw [hs, hsp, List.filter_append, ← hh0, ← hh1, ht, show _ = _ from hA]
              rfl
            | ref u e =>
              rw [Nat.zero_add] at h2
              rw [h2] at hB2
              simp only [kidF, splitF]
              show (allS box).filter _ = []
              rw [hs, hsp, List.filter_append, ← hh0, ← hh1, show _ = _ from hA, show _ = _ from hB2]
              rfl
/-- what the search over the cases from number i on says -/
def GoodC (q : List Row → List (List Int)) (ls : List (List Row)) (i : Nat) : NR → Prop
  | .out => True
  | .sol vs k _ => ∃ j, ∃ h : j < ls.length, k = i + j ∧ (∃ t, q ls[j] = vs :: t) ∧ ∀ m (hm : m < j), q (ls[m]'(Nat.lt_trans hm h)) = []
  | .ref _ _ => ∀ l ∈ ls, q l = []
theorem cases_good {s : Sys} {n : Nat} (hn : n ≤ 128) (hg : ∀ g ∈ s.graphs, grOk n g = true) (hr : ∀ r ∈ s.rows, fitsB n r = true) (ss : List Stp) {box : List Rng} (hf : fineBox n box) (b : Nat) :
    ∀ (ls : List (List Row)) (i c : Nat) (ts : List Tr), (∀ l ∈ ls, ∀ r ∈ l, fitsB n r = true) → GoodC (fun l => (allS box).filter (solvB (s.rows ++ l) s.graphs)) ls i (casesF s ss box b i ls c ts)
  | [], i, c, ts, _ => fun l hl => absurd hl (by simp)
  | l :: ls, i, c, ts, hls => by
    have h1 := node_good hn hg (b - c) (s.rows ++ l) box (b - c) (fun r hr' => by
      rcases List.mem_append.1 hr' with h | h
      · exact hr r h
      · exact hls l (by simp) r h) hf
    rw [casesF_next]
    cases hN : nodeF (s.rows ++ l) s.graphs (b - c) box (b - c) with
    | out => exact trivial
    | sol vs k d =>
      rw [hN] at h1
      exact ⟨0, by simp, rfl, h1, fun m hm => absurd hm (Nat.not_lt_zero _)⟩
    | ref t d =>
      rw [hN] at h1
      simp only [kidF]
      have ih := cases_good hn hg hr ss hf b ls (i + 1) (c + d) (ts ++ [t]) (fun l hl => hls l (by simp [hl]))
      cases hR : casesF s ss box b (i + 1) ls (c + d) (ts ++ [t]) with
      | out => exact trivial
      | sol vs k e =>
        rw [hR] at ih
        obtain ⟨j, hj, hk, ht, hlow⟩ := ih
        refine ⟨j + 1, by simpa using hj, by omega, by simpa using ht, fun m hm => ?_⟩
        cases m with
        | zero => exact h1
        | succ m => simpa using hlow m (by omega)
      | ref u e =>
        rw [hR] at ih
        intro x hx
        rcases List.mem_cons.1 hx with rfl | hx
        · exact h1
        · exact ih x hx
/-- the root -/
theorem root_good {s : Sys} (hv : validS s = true) (b : Nat) : (s.cases = [] → GoodN (solvB s.rows s.graphs) s.box (rootF s b)) ∧ (s.cases ≠ [] → GoodC (fun l => (allS s.box).filter (solvB (s.rows ++ l) s.graphs)) s.cases 0 (rootF s b)) := by
  obtain ⟨p1, p2, p3, p4, p5⟩ := sys_parts hv
  constructor
  · intro hc
    rw [rtF_plain (by rw [hc]; rfl)]
    exact node_good p1 p3 b s.rows s.box b p2 p4
  · intro hc
    have hc' : ¬ s.cases.isEmpty = true := fun h => hc (List.isEmpty_iff.1 h)
    by_cases hb0 : b = 0
    · rw [rtF_zero hc' hb0]
      exact trivial
    obtain ⟨F, hF⟩ : ∃ F, runB (b - 1) s.rows s.graphs s.box = F := ⟨_, rfl⟩
    obtain ⟨k1, k2, k3, k4⟩ := runB_kept p1 (b - 1) p2 p3 p4
    rw [hF] at k1 k2 k3 k4
    cases hfi : F.fine with
    | false =>
      rw [rtF_out hc' hb0 hF hfi]
      exact trivial
    | true =>
      have hk := fun more => keep_sub (more := more) p1 p2 p3 p4 hF hfi
      cases ho : F.opn with
      | false =>
        rw [rtF_shut hc' hb0 hF hfi ho]
        exact fun l _ => (hk l).1 ho
      | true =>
        rw [rtF_cases hc' hb0 hF hfi ho]
        have h := cases_good p1 p3 p2 F.steps k1 b s.cases 0 (1 + F.steps.length) [] p5
        have e : (fun l => (allS s.box).filter (solvB (s.rows ++ l) s.graphs)) = fun l => (allS F.box).filter (solvB (s.rows ++ l) s.graphs) := by
          funext l
          exact (hk l).2 ho
        rw [e]
        exact h
end Go.Proofs.Ytlbhidiliogflaa
namespace Go.Proofs.Ytlbhidiliogflaa
set_option linter.unusedSimpArgs false
set_option linter.unusedVariables false
open Go.RowKit

mutual
/-- nodes and steps of a tree -/
def costT : Tr → Nat
  | .mk _ ss _ _ ks => 1 + ss.length + costL ks
def costL : List Tr → Nat
  | [] => 0
  | t :: l => costT t + costL l
end
theorem costL_append : ∀ (l m : List Tr), costL (l ++ m) = costL l + costL m
  | [], m => by simp [costL]
  | t :: l, m => by
    rw [List.cons_append, costL, costL, costL_append l m]
    omega
theorem splitF_cost {rows : List Row} {grs : List Gr} {n : Nat} (hn : ∀ box b t c, nodeF rows grs n box b = .ref t c → costT t = c) (ss : List Stp) (box : List Rng) (cell at_ : Int) (b : Nat) :
    ∀ (j k : Nat) (ts : List Tr) (c : Nat) (t : Tr) (d : Nat), c = 1 + ss.length + costL ts → splitF rows grs n ss box cell at_ b j k ts c = .ref t d → costT t = d
  | 0, k, ts, c, t, d, hc, h => by
    rw [splitF] at h
    injection h with h1 h2
    rw [← h1, ← h2, costT, hc]
  | j + 1, k, ts, c, t, d, hc, h => by
    rw [splitF_next] at h
    obtain ⟨u, e, h1, h2⟩ := kid_ref h
    have hu := hn _ _ _ _ h1
    exact splitF_cost hn ss box cell at_ b j (k + 1) (ts ++ [u]) (c + e) t d (by rw [costL_append, costL, costL, hu]; omega) h2
theorem nodeF_cost (rows : List Row) (grs : List Gr) : ∀ (n : Nat) (box : List Rng) (b : Nat) (t : Tr) (c : Nat), nodeF rows grs n box b = .ref t c → costT t = c
  | 0, box, b, t, c, h => by cases h
  | n + 1, box, b, t, c, h => by
    by_cases hb0 : b = 0
    · rw [nodeF_zero hb0] at h; cases h
    obtain ⟨F, hF⟩ : ∃ F, runB (b - 1) rows grs box = F := ⟨_, rfl⟩
    cases hfi : F.fine with
    | false => rw [nodeF_out hb0 hF hfi] at h; cases h
    | true =>
      cases ho : F.opn with
      | false =>
        rw [nodeF_shut hb0 hF hfi ho] at h
        injection h with h1 h2
        rw [← h1, ← h2, costT, costL]
        rfl
      | true =>
        by_cases hi : idxF wideR 0 F.box < 0
        · rw [nodeF_sol hb0 hF hfi ho hi] at h; cases h
        · rw [nodeF_split hb0 hF hfi ho hi] at h
          exact splitF_cost (nodeF_cost rows grs n) F.steps F.box _ _ b 2 0 [] (1 + F.steps.length) t c (by rw [costL]; rfl) h
theorem casesF_cost (s : Sys) (ss : List Stp) (box : List Rng) (b : Nat) : ∀ (ls : List (List Row)) (i c : Nat) (ts : List Tr) (t : Tr) (d : Nat), c = 1 + ss.length + costL ts → casesF s ss box b i ls c ts = .ref t d → costT t = d
  | [], i, c, ts, t, d, hc, h => by
    rw [casesF] at h
    injection h with h1 h2
    rw [← h1, ← h2, costT, hc]
  | l :: ls, i, c, ts, t, d, hc, h => by
    rw [casesF_next] at h
    obtain ⟨u, e, h1, h2⟩ := kid_ref h
    have hu := nodeF_cost _ _ _ _ _ _ _ h1
    exact casesF_cost s ss box b ls (i + 1) (c + e) (ts ++ [u]) t d (by rw [costL_append, costL, costL, hu]; omega) h2
theorem rootF_cost {s : Sys} {b : Nat} {t : Tr} {c : Nat} (h : rootF s b = .ref t c) : costT t = c := by
  by_cases hc : s.cases.isEmpty = true
  · rw [rtF_plain hc] at h
    exact nodeF_cost _ _ _ _ _ _ _ h
  · by_cases hb0 : b = 0
    · rw [rtF_zero hc hb0] at h; cases h
    obtain ⟨F, hF⟩ : ∃ F, runB (b - 1) s.rows s.graphs s.box = F := ⟨_, rfl⟩
    cases hfi : F.fine with
    | false => rw [rtF_out hc hb0 hF hfi] at h; cases h
    | true =>
      cases ho : F.opn with
      | false =>
        rw [rtF_shut hc hb0 hF hfi ho] at h
        injection h with h1 h2
        rw [← h1, ← h2, costT, costL]
        rfl
      | true =>
        rw [rtF_cases hc hb0 hF hfi ho] at h
        exact casesF_cost s F.steps F.box b s.cases 0 _ [] t c (by rw [costL]; rfl) h
/-! the index of a solution without cases is 0 -/
theorem splitF_idx {rows : List Row} {grs : List Gr} {n : Nat} (ss : List Stp) (box : List Rng) (cell at_ : Int) (b : Nat) : ∀ (j k : Nat) (ts : List Tr) (c : Nat) (vs : List Int) (i d : Nat), splitF rows grs n ss box cell at_ b j k ts c = .sol vs i d → i = 0
  | 0, k, ts, c, vs, i, d, h => by rw [splitF] at h; cases h
  | j + 1, k, ts, c, vs, i, d, h => by
    rw [splitF_next] at h
    cases hN : nodeF rows grs n (box.set cell.toNat (halfR box cell at_ k)) (b - c) with
    | out => rw [hN] at h; cases h
    | sol us m e =>
      rw [hN] at h
      simp only [kidF] at h
      injection h with h1 h2 h3
      exact h2.symm
    | ref t e =>
      rw [hN] at h
      exact splitF_idx ss box cell at_ b j (k + 1) _ _ vs i d h
theorem nodeF_solx {rows : List Row} {grs : List Gr} : ∀ (n : Nat) (box : List Rng) (b : Nat) (vs : List Int) (i d : Nat), nodeF rows grs n box b = .sol vs i d → i = 0
  | 0, box, b, vs, i, d, h => by cases h
  | n + 1, box, b, vs, i, d, h => by
    by_cases hb0 : b = 0
    · rw [nodeF_zero hb0] at h; cases h
    obtain ⟨F, hF⟩ : ∃ F, runB (b - 1) rows grs box = F := ⟨_, rfl⟩
    cases hfi : F.fine with
    | false => rw [nodeF_out hb0 hF hfi] at h; cases h
    | true =>
      cases ho : F.opn with
      | false => rw [nodeF_shut hb0 hF hfi ho] at h; cases h
      | true =>
        by_cases hi : idxF wideR 0 F.box < 0
        · rw [nodeF_sol hb0 hF hfi ho hi] at h
          injection h with h1 h2 h3
          exact h2.symm
        · rw [nodeF_split hb0 hF hfi ho hi] at h
          exact splitF_idx _ _ _ _ _ _ _ _ _ vs i d h
/-! solutions of the system and of its branches -/
theorem sols_plain {s : Sys} (hv : validS s = true) (hc : s.cases = []) : solsL s = (allS s.box).filter (solvB s.rows s.graphs) := by
  unfold solsL
  rw [if_pos hv]
  refine List.filter_congr fun vs hvs => ?_
  have hb : containsB s.box vs = true := (inB_iff _ _).1 ((allS_mem s.box vs).1 hvs)
  unfold holdsS solvesB solvB
  rw [hv, hb, hc]
  simp
theorem sols_branch {s : Sys} (hv : validS s = true) {l : List Row} (hl : l ∈ s.cases) (hn : s.rows.length + l.length ≤ 1024) : solsL (brS s l) = (allS s.box).filter (solvB (s.rows ++ l) s.graphs) := by
  unfold solsL
  rw [if_pos (br_valid hv hl hn)]
  refine List.filter_congr fun vs hvs => ?_
  have hb : containsB s.box vs = true := (inB_iff _ _).1 ((allS_mem s.box vs).1 hvs)
  rw [br_holds hv hl hn vs hb]
  unfold solvB goodC
  rw [List.any_append]
  cases s.rows.any (badR vs) <;> cases s.graphs.any (badG vs) <;> cases l.any (badR vs) <;> rfl
theorem mem_solv {s : Sys} (hv : validS s = true) (hc : s.cases ≠ []) (vs : List Int) : vs ∈ solsL s ↔ ∃ l ∈ s.cases, vs ∈ (allS s.box).filter (solvB (s.rows ++ l) s.graphs) := by
  unfold solsL
  rw [if_pos hv, List.mem_filter]
  have hie : s.cases.isEmpty = false := by
    cases h : s.cases with
    | nil => exact absurd h hc
    | cons x l => rfl
  constructor
  · rintro ⟨h1, h2⟩
    unfold holdsS solvesB at h2
    rw [Bool.and_eq_true, Bool.and_eq_true, Bool.and_eq_true, Bool.and_eq_true, hie, Bool.or_false, List.any_eq_true] at h2
    obtain ⟨-, -, ⟨h3, h4⟩, l, hl, h5⟩ := h2
    refine ⟨l, hl, List.mem_filter.2 ⟨h1, ?_⟩⟩
    unfold solvB
    unfold goodC at h5
    rw [List.any_append]
    rw [Bool.not_eq_true'] at h3 h5
    rw [h3, h5, h4]
    rfl
  · rintro ⟨l, hl, h⟩
    obtain ⟨h1, h2⟩ := List.mem_filter.1 h
    refine ⟨h1, ?_⟩
    have hb : containsB s.box vs = true := (inB_iff _ _).1 ((allS_mem s.box vs).1 h1)
    unfold solvB at h2
    rw [List.any_append, Bool.and_eq_true, Bool.not_eq_true', Bool.or_eq_false_iff] at h2
    unfold holdsS solvesB
    rw [hv, hb, h2.1.1, h2.2]
    have : s.cases.any (goodC vs) = true := List.any_eq_true.2 ⟨l, hl, by unfold goodC; rw [h2.1.2]; rfl⟩
    rw [this]
    rfl
/-- what the law asks of the search -/
theorem solves_ref {s : Sys} (hv : validS s = true) {b : Nat} {t : Tr} {c : Nat} (h : rootF s b = .ref t c) : solsL s = [] := by
  obtain ⟨g1, g2⟩ := root_good hv b
  by_cases hc : s.cases = []
  · have := g1 hc
    rw [h] at this
    rw [sols_plain hv hc]
    exact this
  · have h2 := g2 hc
    rw [h] at h2
    refine List.eq_nil_iff_forall_not_mem.2 fun vs hvs => ?_
    obtain ⟨l, hl, hm⟩ := (mem_solv hv hc vs).1 hvs
    have h3 : (allS s.box).filter (solvB (s.rows ++ l) s.graphs) = [] := h2 l hl
    rw [h3] at hm
    cases hm
theorem solves_sol {s : Sys} (hv : validS s = true) (hn : ∀ l ∈ s.cases, s.rows.length + l.length ≤ 1024) {b : Nat} {vs : List Int} {i c : Nat} (h : rootF s b = .sol vs i c) :
    solsL s ≠ [] ∧ (s.cases = [] → i = 0 ∧ ∃ t, solsL s = vs :: t) ∧ (s.cases ≠ [] → ∃ hk : i < s.cases.length, (∃ t, solsL (brS s s.cases[i]) = vs :: t) ∧ ∀ m (hm : m < i), solsL (brS s (s.cases[m]'(Nat.lt_trans hm hk))) = []) := by
  obtain ⟨g1, g2⟩ := root_good hv b
  by_cases hc : s.cases = []
  · have h1 := g1 hc
    rw [h] at h1
    obtain ⟨t, ht⟩ := h1
    have hs := sols_plain hv hc
    rw [ht] at hs
    refine ⟨by rw [hs]; simp, fun _ => ⟨?_, t, hs⟩, fun h2 => absurd hc h2⟩
    rw [rtF_plain (by rw [hc]; rfl)] at h
    exact nodeF_solx _ _ _ _ _ _ h
  · have h2 := g2 hc
    rw [h] at h2
    obtain ⟨j, hj, hk, ⟨t, ht⟩, hlow⟩ := h2
    obtain rfl : i = j := by omega
    have hb := sols_branch hv (List.getElem_mem hj) (hn _ (List.getElem_mem hj))
    refine ⟨fun he => ?_, fun h3 => absurd h3 hc, fun _ => ⟨hj, ⟨t, by rw [hb]; exact ht⟩, fun m hm => ?_⟩⟩
    · have : vs ∈ solsL s := (mem_solv hv hc vs).2 ⟨_, List.getElem_mem hj, by
        have ht' : (allS s.box).filter (solvB (s.rows ++ s.cases[i]) s.graphs) = vs :: t := ht
        rw [ht']; simp⟩
      rw [he] at this
      cases this
    · have hml := Nat.lt_trans hm hj
      rw [sols_branch hv (List.getElem_mem hml) (hn _ (List.getElem_mem hml))]
      exact hlow m hm
end Go.Proofs.Ytlbhidiliogflaa
namespace Go.Proofs.Ytlbhidiliogflaa
set_option linter.unusedSimpArgs false
set_option linter.unusedVariables false
open Go.RowKit

theorem costL_take : ∀ (l : List Tr) (j : Nat) (h : j < l.length), costL (l.take (j + 1)) = costL (l.take j) + costT l[j]
  | t :: l, 0, _ => by
    rw [List.take_succ_cons, List.take_zero, List.take_zero, costL, List.getElem_cons_zero]
    simp [costL]
  | t :: l, j + 1, h => by
    rw [List.take_succ_cons, List.take_succ_cons, costL, costL, costL_take l j (by simpa using h), List.getElem_cons_succ]
    omega
theorem costL_mono (l : List Tr) (j : Nat) : costL (l.take j) ≤ costL l := by
  have h := costL_append (l.take j) (l.drop j)
  rw [List.take_append_drop] at h
  omega
set_option maxRecDepth 8000 in
set_option maxHeartbeats 4000000 in
theorem cost_rec : ∀ (n : Nat) (t : Tr) (y0 y1 y2 y3 y4 : Value) (w : World), rdTr n w [y0, y1, y2, y3, y4] t → Hid (costT t ≤ 65536) →
    Calls Try.prog 19 #[.agg #[y0, y1, y2, y3, y4]] w fun e w' => e = .returned (.int .i64 (costT t : Nat)) ∧ Kp w w'
  | 0, _, _, _, _, _, _, _, h, _ => absurd h (fun h => h)
  | n + 1, .mk k ss c a ks, y0, y1, y2, y3, y4, w, h, hb => by
    obtain ⟨vs, vk, e1, h1, h2⟩ := h
    simp only [List.cons.injEq, and_true] at e1
    obtain ⟨rfl, rfl, rfl, rfl, rfl⟩ := e1
    obtain ⟨A1, c1, rfl, _, _⟩ := h1.form
    obtain ⟨A2, c2, rfl, _, _⟩ := h2.form
    have HI := hid (cost_rec n)
    have hcost : costT (.mk k ss c a ks) = 1 + ss.length + costL ks := by rw [costT]
    rw [hcost] at hb ⊢
    have BA := Bx.new w #[.int .i64 k, .slice A1 ss.length c1, .int .i64 c, .int .i64 a, .slice A2 ks.length c2] 46
    have k0 := (Kp.refl w).alloc (.cells #[.int .i64 k, .slice A1 ss.length c1, .int .i64 c, .int .i64 a, .slice A2 ks.length c2] 46)
    generalize hM0 : 1 + ss.length + costL ks = M at hb ⊢
    have hlen : (ss.length : Int) ≤ 65535 := by have := hb.out; omega
    replace hM0 := hid hM0
    have HLM := hid (fun j => costL_mono ks j)
    clear hcost
    have hr := BA.cell (j := 1) rfl
    have a4 := BA.cell (j := 4) rfl
    have hl0 := BA.lt (by simp)
    go_enter Try.func19, Try.ntmps19
    go_wp2_with fail
    go_loopw [3, 4] (fun z i wr => ∃ j m : Nat, j ≤ ks.length ∧ i = .int .i64 j ∧ z = .int .i64 m ∧ m ≤ 65536 ∧ Hid (m = 1 + ss.length + costL (ks.take j)) ∧ Kp (w.alloc (.cells #[.int .i64 k, .slice A1 ss.length c1, .int .i64 c, .int .i64 a, .slice A2 ks.length c2] 46)) wr) (fun _ i _ => ks.length - (intOf i).toNat)
    case atStart => exact ⟨0, 1 + ss.length, Nat.zero_le _, rfl, by go_num, by omega, hid (by rw [List.take_zero, costL]; rfl), Kp.refl _⟩
    case round =>
      obtain ⟨j, m, hj, rfl, rfl, hm, HM, hbel⟩ := hrel
      have d1 := hbel.cellS a4
      have kk := k0.trans hbel
      by_cases hlt : j < ks.length
      · obtain ⟨g, o, p0, A5, n5, c5, q2, q3, A6, n6, c6, rfl, hg, i0, i1, i2, i3, i4, hr1⟩ := (h2.keep (rdTr_stable n) kk).trAt hlt
        have HR1 := hid hr1
        have HT := hid (costL_take ks j hlt)
        have HB : Hid (m + costT ks[j] ≤ 65536) := hid (by
          have h1 := HM.out
          have h2 := HT.out
          have h3 := HLM.out (j + 1)
          have h4 := hb.out
          have h5 := hM0.out
          omega)
        generalize ks[j] = t at *
        clear hr1
        have q1 : (0 : Int) ≤ j := by omega
        have q2x : (j : Int) < ks.length := by omega
        go_wp2_with fail
        refine (HI.out t _ _ _ _ _ wr HR1.out (hid (by have := HB.out; omega))).mono ?_
        rintro e w2 ⟨rfl, k2⟩
        obtain ⟨ct, hct⟩ : ∃ ct, ct = costT t := ⟨_, rfl⟩
        rw [← hct] at HB HT ⊢
        have hb2 : m + ct ≤ 65536 := HB.out
        have hl2 := hbel.trans k2
        clear HI HR1 HB hct i0 i1 i2 i3 i4
        go_wp2_with fail
        go_roundw
        case rel => exact ⟨j + 1, m + ct, by omega, by go_num, by go_num, hb2, hid (by have h1 := HM.out; have h2 := HT.out; omega), hl2⟩
        case measure => simp [intOf]; omega
      · have hjl : ¬ (j : Int) < (ks.length : Int) := by omega
        have hjk : j = ks.length := by omega
        have HZ : Hid (m = M) := hid (by have h1 := HM.out; rw [hjk, List.take_length] at h1; exact h1.trans hM0.out)
        clear HM
        go_wp2
        go_ret
        exact ⟨by rw [HZ.out]; rfl, kk⟩
theorem cost_any (n : Nat) (t : Tr) (ys : List Value) (w : World) (h : rdTr n w ys t) (hb : costT t ≤ 65536) :
    Calls Try.prog 19 #[.agg ys.toArray] w fun e w' => e = .returned (.int .i64 (costT t : Nat)) ∧ Kp w w' := by
  obtain ⟨h5, -⟩ := rdTr_one _ _ _ _ h
  match ys, h5, h with
  | [y0, y1, y2, y3, y4], _, h => exact cost_rec n t y0 y1 y2 y3 y4 w h (hid hb)
end Go.Proofs.Ytlbhidiliogflaa
namespace Go.Proofs.Ytlbhidiliogflaa
set_option linter.unusedSimpArgs false
set_option linter.unusedVariables false
open Go.RowKit

theorem few_less {s : Sys} (hV : validS s = true) (hF : fewL s 2000 = true) : (∀ l ∈ s.cases, s.rows.length + l.length ≤ 1024) ∧ sizeB s.box ≤ 65536 := by
  have h : fewB s 2000 = true := by
    unfold fewL at hF
    rwa [if_pos hV] at hF
  obtain ⟨-, h2, -, -, -, h6, h7⟩ := few_parts h
  refine ⟨fun l hl => ?_, by omega⟩
  have := h6 l hl
  omega
theorem branchR_at {s : Sys} (hV : validS s = true) {k : Nat} (hk : k < s.cases.length) (hn : s.rows.length + s.cases[k].length ≤ 1024) : BranchR s (k : Int) = (brS s s.cases[k], 0) := by
  unfold BranchR
  have hg : s.cases.getD (k : Int).toNat [] = s.cases[k] := by simp [List.getD, hk]
  rw [if_pos hV, if_pos ⟨by omega, by omega⟩, hg, if_neg (by omega)]
  rfl
theorem solves_facts {s : Sys} (hV : validS s = true) (hF : fewL s 2000 = true) {kd ce sp : Int} {vs : List Int} {t : Tr} (h : ansF (rootF s 65536) (65536 : Nat) = ⟨kd, ce, vs, t, sp⟩) :
    (kd = 2 ∧ sp = 65536) ∨ (kd = 1 ∧ solsL s = [] ∧ vs = [] ∧ ∃ c : Nat, c ≤ 65536 ∧ costT t = c ∧ sp = (c : Int)) ∨
    (kd = 0 ∧ solsL s ≠ [] ∧ ((s.cases = [] ∧ ce = 0 ∧ ∃ l, solsL s = vs :: l) ∨ (∃ i : Nat, ∃ hk : i < s.cases.length, ce = (i : Int) ∧ (∃ l, solsL (brS s s.cases[i]) = vs :: l) ∧ ∀ m (hm : m < i), solsL (brS s (s.cases[m]'(Nat.lt_trans hm hk))) = []))) := by
  have hex := rootF_exact s 65536
  cases hR : rootF s 65536 with
  | out =>
    rw [hR] at h
    simp only [ansF, Ans.mk.injEq] at h
    exact .inl ⟨h.1.symm, h.2.2.2.2.symm⟩
  | ref t' c =>
    have hc := (hex (by rw [hR]; simp)).2.1
    rw [hR] at h hc
    simp only [ansF, Ans.mk.injEq] at h
    obtain ⟨rfl, -, rfl, rfl, rfl⟩ := h
    exact .inr (.inl ⟨rfl, solves_ref hV hR, rfl, c, hc, rootF_cost hR, rfl⟩)
  | sol vs' i c =>
    rw [hR] at h
    simp only [ansF, Ans.mk.injEq] at h
    obtain ⟨rfl, rfl, rfl, rfl, rfl⟩ := h
    obtain ⟨h1, h2, h3⟩ := solves_sol hV (few_less hV hF).1 hR
    refine .inr (.inr ⟨rfl, h1, ?_⟩)
    by_cases hc : s.cases = []
    · obtain ⟨h4, h5⟩ := h2 hc
      exact .inl ⟨hc, by rw [h4]; rfl, h5⟩
    · obtain ⟨h4, h5, h6⟩ := h3 hc
      exact .inr ⟨i, h4, rfl, h5, h6⟩
end Go.Proofs.Ytlbhidiliogflaa
