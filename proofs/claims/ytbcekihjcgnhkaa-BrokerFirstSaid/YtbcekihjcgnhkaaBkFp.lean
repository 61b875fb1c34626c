
/-
All replicas know all requests and give away what they have: the first request gets what it needs, if there is so much; nothing is lost.
-/
import Derived.Test.YtbcekihjcgnhkaaBkYb
namespace Go.Proofs.Ytbcekihjcgnhkaa
set_option linter.unusedSimpArgs false
set_option linter.unusedVariables false

abbrev ndr (n : Int) : List Nd := [((0, 0, 0), n)]
abbrev r0 : Rt := (0, 0, 0)
/-- what the replicas have and need, and when they ask -/
structure Dt where
  n : Nat
  h : Nat → Int
  d : Nat → Int
  t : Nat → Int
structure OkD (D : Dt) : Prop where
  n1 : 1 ≤ D.n ∧ D.n ≤ 5
  h : ∀ k, 0 ≤ D.h k ∧ D.h k < 16
  d : ∀ k, 0 ≤ D.d k ∧ D.d k < 32
  t : ∀ k, 0 ≤ D.t k ∧ D.t k < 256
def lack (D : Dt) (k : Nat) : Int := D.d k - D.h k
def priF (D : Dt) (k : Nat) : Pr := (0, D.t k, (k : Int), 1)
def askF (D : Dt) (k : Nat) : Ak := if 0 < lack D k then ⟨1, priF D k, ndr (lack D k)⟩ else zAk
def ownF (D : Dt) (k : Nat) : Option (Pr × List Nd) := if 0 < lack D k then some (priF D k, ndr (D.d k)) else none
def numF (D : Dt) (k : Nat) : Int := if 0 < lack D k then 1 else 0
def heardF (D : Dt) (j i : Nat) : Int → Option Ak := fun x => if 0 ≤ x ∧ x < j ∧ x ≠ i ∧ 0 < lack D x.toNat then some (askF D x.toNat) else none
/-- broker i, when the first j requests have been told -/
def stF (D : Dt) (j i : Nat) : Bk := ⟨D.n, i, numF D i, ownF D i, heardF D j i⟩
theorem ndr_valid {n : Int} (h1 : 1 ≤ n) (h2 : n ≤ 1000000) : validL (ndr n) = true := by
  rw [validL_iff]
  refine ⟨fun x hx => ?_, by simp, by simp⟩
  simp only [List.mem_singleton] at hx
  subst hx
  unfold okNd btw mostR
  simp
  omega
theorem ofB_pri {D : Dt} (ok : OkD D) (k : Nat) : ofB (priF D k) k = true := by
  have := ok.t k
  unfold ofB priF btw
  simp
  omega
theorem st_ask {D : Dt} (ok : OkD D) {k : Nat} (hl : 0 < lack D k) : request (newB D.n k) (priF D k) (ndr (lack D k)) (ndr (D.d k)) = (stF D 0 k, askF D k, 0) := by
  have h1 := ok.h k
  have h2 := ok.d k
  have h3 : validL (ndr (lack D k)) = true := ndr_valid (by omega) (by unfold lack; omega)
  have h4 : validL (ndr (D.d k)) = true := ndr_valid (by unfold lack at hl; omega) (by omega)
  have h5 := ofB_pri ok k
  have hH : heardF D 0 k = fun _ => none := by
    funext x
    unfold heardF
    rw [if_neg (by omega)]
  unfold request
  rw [show (newB (D.n : Int) (k : Int)).i = (k : Int) from rfl, h5, h3, h4, show (newB (D.n : Int) (k : Int)).num = 0 from rfl, if_neg (by simp), if_neg (by omega)]
  unfold stF askF ownF numF
  rw [if_pos hl, if_pos hl, if_pos hl, hH]
  rfl
theorem st_none {D : Dt} {k : Nat} (hl : ¬ 0 < lack D k) : newB D.n k = stF D 0 k := by
  have hH : heardF D 0 k = fun _ => none := by
    funext x
    unfold heardF
    rw [if_neg (by omega)]
  unfold stF ownF numF
  rw [if_neg hl, if_neg hl, hH]
  rfl
theorem st_skip {D : Dt} {j i : Nat} (h : ¬ 0 < lack D j ∨ j = i) : stF D (j + 1) i = stF D j i := by
  unfold stF
  congr 1
  funext x
  unfold heardF
  by_cases hx : 0 ≤ x ∧ x < j ∧ x ≠ i ∧ 0 < lack D x.toNat
  · rw [if_pos hx, if_pos ⟨hx.1, by omega, hx.2.2⟩]
  · rw [if_neg hx, if_neg]
    rintro ⟨h1, h2, h3, h4⟩
    by_cases e : x = j
    · subst e
      rw [Int.toNat_natCast] at h4
      rcases h with h | h
      · exact h h4
      · exact h3 (by rw [h])
    · exact hx ⟨h1, by omega, h3, h4⟩
theorem st_hear {D : Dt} (ok : OkD D) {j i : Nat} (hl : 0 < lack D j) (hj : j < D.n) (hi : i ≠ j) : hear (stF D j i) j (askF D j) = (stF D (j + 1) i, 0) := by
  have h1 := ok.h j
  have h2 := ok.d j
  have hv : validA j (askF D j) = true := by
    unfold validA askF
    rw [if_pos hl]
    dsimp only
    rw [ofB_pri ok j, ndr_valid (by omega) (by unfold lack; omega)]
    rfl
  have e1 : btw (j : Int) 0 ((stF D j i).n - 1) = true := by
    unfold btw
    rw [decide_eq_true (show (0 : Int) ≤ j by omega), decide_eq_true (show (j : Int) ≤ (stF D j i).n - 1 by show (j : Int) ≤ (D.n : Int) - 1; omega)]
    rfl
  have e2 : decide ((j : Int) = (stF D j i).i) = false := decide_eq_false (by show ¬ (j : Int) = (i : Int); omega)
  have e3 : (stF D j i).heard j = none := by
    show heardF D j i j = none
    unfold heardF
    rw [if_neg (by omega)]
  unfold hear
  rw [e1, e2, if_neg (by simp), if_neg (by simp [hv]), e3, if_neg (by simp)]
  unfold stF
  congr 2
  funext x
  unfold setH heardF
  dsimp only
  by_cases e : x = j
  · subst e
    rw [if_pos rfl, if_pos ⟨by omega, by omega, by omega, by rw [Int.toNat_natCast]; exact hl⟩, Int.toNat_natCast]
  · rw [if_neg e]
    by_cases hx : 0 ≤ x ∧ x < j ∧ x ≠ i ∧ 0 < lack D x.toNat
    · rw [if_pos hx, if_pos ⟨hx.1, by omega, hx.2.2⟩]
    · rw [if_neg hx, if_neg]
      rintro ⟨a1, a2, a3⟩
      exact hx ⟨a1, by omega, a3⟩
theorem okB_st {D : Dt} (ok : OkD D) {j i : Nat} (hi : i < D.n) (hj : j ≤ D.n) : OkB (stF D j i) := by
  refine ⟨?_, ?_, ?_, fun p l h => ?_, fun k a h => ?_⟩
  · show 1 ≤ (D.n : Int) ∧ (D.n : Int) ≤ 5
    have := ok.n1
    omega
  · show 0 ≤ (i : Int) ∧ (i : Int) < (D.n : Int)
    omega
  · show 0 ≤ numF D i ∧ numF D i ≤ 1048576
    unfold numF
    split <;> omega
  · replace h : ownF D i = some (p, l) := h
    unfold ownF at h
    split at h
    · rename_i hl
      injection h with h
      injection h with h1 h2
      subst h1 h2
      have h1 := ok.h i
      have h2 := ok.d i
      exact ⟨ofB_pri ok i, ndr_valid (by unfold lack at hl; omega) (by omega)⟩
    · cases h
  · replace h : heardF D j i k = some a := h
    unfold heardF at h
    split at h
    · rename_i hx
      injection h with h
      subst h
      obtain ⟨x1, x2, x3, x4⟩ := hx
      refine ⟨x1, ?_, x3, ?_⟩
      · show k < (D.n : Int)
        omega
      · have h1 := ok.h k.toNat
        have h2 := ok.d k.toNat
        unfold validA askF
        rw [if_pos x4]
        dsimp only
        have h3 := ofB_pri ok k.toNat
        rw [Int.toNat_of_nonneg x1] at h3
        rw [h3, ndr_valid (by omega) (by unfold lack; omega)]
        rfl
    · cases h
/-- which request is the first of the first j; -1 if there is none -/
def FirstOK (D : Dt) (j : Nat) (f : Int) : Prop :=
  (f = -1 ∧ ∀ k, k < j → ¬ 0 < lack D k) ∨ ∃ k : Nat, k < j ∧ f = (k : Int) ∧ 0 < lack D k ∧ ∀ m, m < j → 0 < lack D m → m ≠ k → lessB (priF D k) (priF D m) = true
theorem pri_total {D : Dt} {a b : Nat} (h : a ≠ b) (hl : lessB (priF D a) (priF D b) = false) : lessB (priF D b) (priF D a) = true := by
  cases h2 : lessB (priF D b) (priF D a) with
  | true => rfl
  | false =>
    have := lessB_total hl h2
    unfold priF at this
    simp only [Prod.mk.injEq] at this
    omega
theorem first_skip {D : Dt} {j : Nat} {f : Int} (h : FirstOK D j f) (hl : ¬ 0 < lack D j) : FirstOK D (j + 1) f := by
  rcases h with ⟨h1, h2⟩ | ⟨k, h1, h2, h3, h4⟩
  · refine .inl ⟨h1, fun k hk => ?_⟩
    by_cases e : k = j
    · rw [e]; exact hl
    · exact h2 k (by omega)
  · refine .inr ⟨k, by omega, h2, h3, fun m hm hlm hne => ?_⟩
    by_cases e : m = j
    · rw [e] at hlm; exact absurd hlm hl
    · exact h4 m (by omega) hlm hne
theorem first_new {D : Dt} {j : Nat} {f : Int} (h : FirstOK D j f) (hl : 0 < lack D j) (hf : f < 0) : FirstOK D (j + 1) j := by
  rcases h with ⟨h1, h2⟩ | ⟨k, h1, h2, h3, h4⟩
  · refine .inr ⟨j, by omega, rfl, hl, fun m hm hlm hne => ?_⟩
    exact absurd hlm (h2 m (by omega))
  · omega
theorem first_less {D : Dt} {j k : Nat} (h : FirstOK D j k) (hl : 0 < lack D j) (hx : lessB (priF D j) (priF D k) = true) : FirstOK D (j + 1) j := by
  rcases h with ⟨h1, -⟩ | ⟨k', h1, h2, h3, h4⟩
  · omega
  · have hk : k = k' := by omega
    subst hk
    refine .inr ⟨j, by omega, rfl, hl, fun m hm hlm hne => ?_⟩
    by_cases e : m = k
    · rw [e]; exact hx
    · exact lessB_trans hx (h4 m (by omega) hlm e)
theorem first_keep {D : Dt} {j k : Nat} (h : FirstOK D j k) (hx : lessB (priF D j) (priF D k) = false) : FirstOK D (j + 1) k := by
  rcases h with ⟨h1, -⟩ | ⟨k', h1, h2, h3, h4⟩
  · omega
  · have hk : k = k' := by omega
    subst hk
    refine .inr ⟨k, by omega, rfl, h3, fun m hm hlm hne => ?_⟩
    by_cases e : m = j
    · rw [e]
      exact pri_total (by omega) hx
    · exact h4 m (by omega) hlm hne
/-! giving away -/
def tot : List Gr → Int
  | [] => 0
  | g :: gs => g.2.2 + tot gs
/-- grants of the one right -/
def OneR0 (gs : List Gr) : Prop := ∀ g ∈ gs, g.2.1 = r0
theorem runF_r0 : ∀ (gs : List Gr) (f : Rt → Int), OneR0 gs → runF f gs r0 = f r0 - tot gs
  | [], f, _ => by rw [runF, tot]; omega
  | g :: gs, f, h => by
    have h1 := h g (by simp)
    rw [runF, runF_r0 gs _ (fun x hx => h x (by simp [hx])), tot, h1]
    simp only [setF, if_true]
    omega
theorem goodG_end {o : Option (Pr × List Nd)} {i K : Int} {asked : List Ak} (hK : ∀ a ∈ asked, K ≤ keeps o r0 a.pri) : ∀ (gs : List Gr) (f : Rt → Int), OneR0 gs → GoodG o i asked f gs → gs = [] ∨ K ≤ f r0 - tot gs
  | [], _, _, _ => .inl rfl
  | g :: gs, f, h0, h => by
    right
    obtain ⟨⟨a, ha, -, -, -, -, h5⟩, h6⟩ := h
    have h1 := h0 g (by simp)
    have h2 := hK a ha
    rcases goodG_end hK gs _ (fun x hx => h0 x (by simp [hx])) h6 with h3 | h3
    · subst h3
      rw [h1] at h5
      rw [tot, tot]
      omega
    · rw [h1] at h3
      simp only [setF, if_true] at h3
      rw [tot]
      omega
/-- what is moved from i to others -/
def moveG (i : Nat) : List Int → List Gr → List Int
  | hs, [] => hs
  | hs, g :: gs => moveG i ((hs.set i (hs.getD i 0 - g.2.2)).set g.1.toNat (hs.getD g.1.toNat 0 + g.2.2)) gs
theorem moveG_snoc (i : Nat) : ∀ (gs : List Gr) (hs : List Int) (g : Gr), moveG i hs (gs ++ [g]) = ((moveG i hs gs).set i ((moveG i hs gs).getD i 0 - g.2.2)).set g.1.toNat ((moveG i hs gs).getD g.1.toNat 0 + g.2.2)
  | [], _, _ => rfl
  | x :: gs, hs, g => by rw [List.cons_append, moveG, moveG, moveG_snoc i gs]
def sumI (l : List Int) : Int := l.foldr (· + ·) 0
theorem sumI_set : ∀ (l : List Int) (k : Nat) (u : Int), k < l.length → sumI (l.set k u) = sumI l - l.getD k 0 + u
  | [], _, _, h => absurd h (by simp)
  | x :: l, 0, u, _ => by simp [sumI]; omega
  | x :: l, k + 1, u, h => by
    have := sumI_set l k u (by simpa using h)
    simp only [sumI, List.set_cons_succ, List.foldr_cons, List.getD_cons_succ] at this ⊢
    omega
theorem getD_set (l : List Int) (k j : Nat) (u : Int) (hk : k < l.length) : (l.set k u).getD j 0 = if j = k then u else l.getD j 0 := by
  simp only [List.getD_eq_getElem?_getD, List.getElem?_set]
  by_cases e : k = j
  · subst e; simp [hk]
  · simp [e, Ne.symm e]
/-- grants to others, of positive amounts -/
def ToOk (n i : Nat) (gs : List Gr) : Prop := ∀ g ∈ gs, 0 ≤ g.1 ∧ g.1 < n ∧ g.1 ≠ i ∧ 1 ≤ g.2.2
theorem moveG_spec {n i : Nat} (hi : i < n) : ∀ (gs : List Gr) (hs : List Int), hs.length = n → ToOk n i gs → OneR0 gs →
    (moveG i hs gs).length = n ∧ sumI (moveG i hs gs) = sumI hs ∧ (moveG i hs gs).getD i 0 = hs.getD i 0 - tot gs ∧ ∀ k, k ≠ i → (moveG i hs gs).getD k 0 = hs.getD k 0 + sumG k r0 gs
  | [], hs, hl, _, _ => ⟨hl, rfl, by rw [moveG, tot]; omega, fun k _ => by rw [moveG, sumG]; omega⟩
  | g :: gs, hs, hl, ht, h0 => by
    obtain ⟨g1, g2, g3, g4⟩ := ht g (by simp)
    have g5 := h0 g (by simp)
    have hne : i ≠ g.1.toNat := by omega
    obtain ⟨e1, e2, e3, e4⟩ := moveG_spec hi gs ((hs.set i (hs.getD i 0 - g.2.2)).set g.1.toNat (hs.getD g.1.toNat 0 + g.2.2)) (by simp [hl]) (fun x hx => ht x (by simp [hx])) (fun x hx => h0 x (by simp [hx]))
    rw [moveG]
    refine ⟨e1, ?_, ?_, fun k hk => ?_⟩
    · rw [e2, sumI_set _ _ _ (by simp; omega), sumI_set _ _ _ (by omega), getD_set _ _ _ _ (by omega), if_neg (Ne.symm hne)]
      omega
    · rw [e3, getD_set _ _ _ _ (by simp; omega), if_neg hne, getD_set _ _ _ _ (by omega), if_pos rfl, tot]
      omega
    · rw [e4 k hk, getD_set _ _ _ _ (by simp; omega), getD_set _ _ _ _ (by omega), if_neg hk, sumG]
      by_cases e : k = g.1.toNat
      · rw [if_pos e, if_pos ⟨by omega, g5⟩, e]
        omega
      · rw [if_neg e, if_neg (fun h => e (by omega))]
        omega
theorem sumG_tot {tg : Int} : ∀ gs : List Gr, OneR0 gs → (∀ g ∈ gs, 1 ≤ g.2.2) → 0 ≤ sumG tg r0 gs ∧ sumG tg r0 gs ≤ tot gs
  | [], _, _ => by simp [sumG, tot]
  | g :: gs, h0, h1 => by
    have h2 := sumG_tot (tg := tg) gs (fun x hx => h0 x (by simp [hx])) (fun x hx => h1 x (by simp [hx]))
    have h3 := h1 g (by simp)
    rw [sumG, tot]
    split <;> omega
theorem sumG_two {a b : Int} (hab : a ≠ b) : ∀ gs : List Gr, OneR0 gs → (∀ g ∈ gs, 1 ≤ g.2.2) → sumG a r0 gs + sumG b r0 gs ≤ tot gs
  | [], _, _ => by simp [sumG, tot]
  | g :: gs, h0, h1 => by
    have h2 := sumG_two hab gs (fun x hx => h0 x (by simp [hx])) (fun x hx => h1 x (by simp [hx]))
    have h3 := h1 g (by simp)
    rw [sumG, sumG, tot]
    by_cases ha : g.1 = a ∧ g.2.1 = r0
    · rw [if_pos ha, if_neg (fun e => hab (ha.1.symm.trans e.1))]
      omega
    · rw [if_neg ha]
      split <;> omega
/-- the requests that a broker knows in the end -/
theorem mem_reqF {D : Dt} (ok : OkD D) {i : Nat} (hi : i < D.n) (a : Ak) : a ∈ reqL (stF D D.n i) ↔ ∃ k : Nat, k < D.n ∧ k ≠ i ∧ 0 < lack D k ∧ a = askF D k := by
  rw [mem_reqL (okB_st ok hi (Nat.le_refl _))]
  show hasN a = true ∧ heardF D D.n i a.pri.2.2.1 = some a ↔ _
  constructor
  · rintro ⟨h1, h2⟩
    unfold heardF at h2
    split at h2
    · rename_i hx
      injection h2 with h2
      exact ⟨a.pri.2.2.1.toNat, by omega, by omega, hx.2.2.2, h2.symm⟩
    · cases h2
  · rintro ⟨k, h1, h2, h3, rfl⟩
    have hp : (askF D k).pri.2.2.1 = (k : Int) := by unfold askF; rw [if_pos h3]; rfl
    refine ⟨by unfold askF hasN; rw [if_pos h3]; simp, ?_⟩
    rw [hp]
    unfold heardF
    rw [if_pos ⟨by omega, by omega, by omega, by rw [Int.toNat_natCast]; exact h3⟩, Int.toNat_natCast]
theorem askF_pri {D : Dt} {k : Nat} (h : 0 < lack D k) : (askF D k).pri = priF D k ∧ (askF D k).needs = ndr (lack D k) := by
  unfold askF
  rw [if_pos h]
  exact ⟨rfl, rfl⟩
/-- facts of what broker i gives away, if it has h -/
theorem give_facts {D : Dt} (ok : OkD D) {i : Nat} (hi : i < D.n) {h : Int} (h1 : 1 ≤ h) (h2 : h ≤ 1000000) :
    GoodG (ownF D i) i (reqL (stF D D.n i)) (amt (ndr h)) (grants (stF D D.n i) (ndr h)).2 ∧ OneR0 (grants (stF D D.n i) (ndr h)).2 ∧ ToOk D.n i (grants (stF D D.n i) (ndr h)).2 ∧ tot (grants (stF D D.n i) (ndr h)).2 ≤ h := by
  have hg := grants_good (okB_st ok hi (Nat.le_refl _)) (ndr_valid h1 h2)
  replace hg : GoodG (ownF D i) (i : Int) (reqL (stF D D.n i)) (amt (ndr h)) (grants (stF D D.n i) (ndr h)).2 := hg
  have key : ∀ (gs : List Gr) (f : Rt → Int), GoodG (ownF D i) (i : Int) (reqL (stF D D.n i)) f gs → OneR0 gs ∧ ToOk D.n i gs := by
    intro gs
    induction gs with
    | nil => intro f _; exact ⟨fun g hg => (by cases hg), fun g hg => (by cases hg)⟩
    | cons g gs ih =>
      intro f hh
      obtain ⟨⟨a, ha, a1, a2, a3, a4, a5⟩, h6⟩ := hh
      obtain ⟨i1, i2⟩ := ih _ h6
      obtain ⟨k, k1, k2, k3, rfl⟩ := (mem_reqF ok hi a).1 ha
      rw [(askF_pri k3).1] at a1
      rw [(askF_pri k3).2] at a4
      replace a1 : (k : Int) = g.1 := a1
      refine ⟨fun x hx => ?_, fun x hx => ?_⟩
      · rcases List.mem_cons.1 hx with rfl | hx
        · by_cases e : r0 = x.2.1
          · exact e.symm
          · rw [show amt (ndr (lack D k)) x.2.1 = 0 by rw [amt_cons, if_neg e]; rfl] at a4
            omega
        · exact i1 x hx
      · rcases List.mem_cons.1 hx with rfl | hx
        · exact ⟨by omega, by omega, a2, a3⟩
        · exact i2 x hx
  obtain ⟨k1, k2⟩ := key _ _ hg
  refine ⟨hg, k1, k2, ?_⟩
  have hkb := fun p => (keeps_bound (okB_st ok hi (Nat.le_refl D.n)) r0 p).1
  rcases goodG_end (K := 0) (fun a _ => hkb a.pri) _ _ k1 hg with h3 | h3
  · rw [h3, tot]; omega
  · have : amt (ndr h) r0 = h := rfl
    omega
/-- what holds when the first i replicas have given away -/
structure PI (D : Dt) (f : Int) (i : Nat) (hs : List Int) : Prop where
  len : hs.length = D.n
  pos : ∀ k, 0 ≤ hs.getD k 0
  sum : sumI hs = sumI ((List.range D.n).map D.h)
  fst : ∀ k : Nat, k < D.n → f = k → D.h k ≤ hs.getD k 0 ∧ (D.d k ≤ hs.getD k 0 ∨ ∀ j, j < i → j ≠ k → hs.getD j 0 = 0)
theorem pi_start {D : Dt} (ok : OkD D) (f : Int) : PI D f 0 ((List.range D.n).map D.h) := by
  have hg : ∀ k, ((List.range D.n).map D.h).getD k 0 = if k < D.n then D.h k else 0 := fun k => by
    simp only [List.getD_eq_getElem?_getD, List.getElem?_map]
    by_cases hk : k < D.n
    · simp [hk]
    · simp [hk]
  refine ⟨by simp, fun k => ?_, rfl, fun k hk _ => ⟨?_, .inr fun j hj => by omega⟩⟩
  · rw [hg]
    split
    · exact (ok.h k).1
    · omega
  · rw [hg, if_pos hk]
    omega
theorem pi_skip {D : Dt} {f : Int} {i : Nat} {hs : List Int} (h : PI D f i hs) (h0 : hs.getD i 0 = 0) : PI D f (i + 1) hs := by
  refine ⟨h.len, h.pos, h.sum, fun k hkn hk => ?_⟩
  obtain ⟨h1, h2⟩ := h.fst k hkn hk
  refine ⟨h1, ?_⟩
  rcases h2 with h2 | h2
  · exact .inl h2
  · refine .inr fun j hj hne => ?_
    by_cases e : j = i
    · rw [e]; exact h0
    · exact h2 j (by omega) hne
theorem sumI_ge : ∀ (l : List Int) (k : Nat), (∀ j, 0 ≤ l.getD j 0) → l.getD k 0 ≤ sumI l ∧ 0 ≤ sumI l
  | [], k, _ => by simp [sumI]
  | x :: l, k, h => by
    have h0 := h 0
    have h1 := sumI_ge l (k - 1) fun j => by have := h (j + 1); simpa using this
    simp only [List.getD_cons_zero] at h0
    have e : sumI (x :: l) = x + sumI l := rfl
    cases k with
    | zero => simp only [List.getD_cons_zero]; omega
    | succ k => simp only [List.getD_cons_succ, Nat.add_sub_cancel] at h1 ⊢; omega
theorem sumI_le (c : Int) : ∀ l : List Int, (∀ x ∈ l, x ≤ c) → sumI l ≤ l.length * c
  | [], _ => by simp [sumI]
  | x :: l, h => by
    have h1 := sumI_le c l fun y hy => h y (by simp [hy])
    have h2 := h x (by simp)
    have e : sumI (x :: l) = x + sumI l := rfl
    rw [e, List.length_cons, show ((l.length + 1 : Nat) : Int) * c = l.length * c + c by rw [Int.natCast_add, Int.add_mul]; simp]
    omega
theorem sumI_one : ∀ (l : List Int) (k : Nat), (∀ j, j ≠ k → l.getD j 0 = 0) → sumI l = l.getD k 0
  | [], k, _ => by simp [sumI]
  | x :: l, k, h => by
    have e : sumI (x :: l) = x + sumI l := rfl
    cases k with
    | zero =>
      have h1 := sumI_one l l.length fun j _ => by have := h (j + 1) (by omega); simpa using this
      rw [e, h1]
      simp
    | succ k =>
      have h0 := h 0 (by omega)
      simp only [List.getD_cons_zero] at h0
      have h1 := sumI_one l k fun j hj => by have := h (j + 1) (by omega); simpa using this
      rw [e, h1, h0]
      simp
theorem sum_bound {D : Dt} (ok : OkD D) : sumI ((List.range D.n).map D.h) ≤ 75 := by
  have h1 := sumI_le 15 ((List.range D.n).map D.h) fun x hx => by
    obtain ⟨k, -, rfl⟩ := List.mem_map.1 hx
    have := ok.h k
    omega
  have h2 := ok.n1
  simp only [List.length_map, List.length_range] at h1
  omega
theorem PI.bound {D : Dt} (ok : OkD D) {f : Int} {i : Nat} {hs : List Int} (h : PI D f i hs) (k : Nat) : 0 ≤ hs.getD k 0 ∧ hs.getD k 0 ≤ 75 := by
  have h1 := (sumI_ge hs k h.pos).1
  rw [h.sum] at h1
  have := sum_bound ok
  have := h.pos k
  omega
/-- the first request stands in front -/
theorem req_head {D : Dt} (ok : OkD D) {i k : Nat} (hi : i < D.n) (hk : k < D.n) (hne : k ≠ i) (hl : 0 < lack D k) (hf : ∀ m, m < D.n → 0 < lack D m → m ≠ k → lessB (priF D k) (priF D m) = true) :
    ∃ l, reqL (stF D D.n i) = askF D k :: l := by
  have hm := (mem_reqF ok hi (askF D k)).2 ⟨k, hk, hne, hl, rfl⟩
  have hs := reqL_sort (okB_st ok hi (Nat.le_refl D.n))
  have hall := mem_reqF ok hi
  generalize reqL (stF D D.n i) = L at *
  cases L with
  | nil => cases hm
  | cons a l =>
    rcases List.mem_cons.1 hm with e | hm2
    · exact ⟨l, by rw [e]⟩
    · exfalso
      obtain ⟨m, m1, m2, m3, rfl⟩ := (hall a).1 List.mem_cons_self
      have h1 := (List.pairwise_cons.1 hs).1 _ hm2
      rw [(askF_pri m3).1, (askF_pri hl).1] at h1
      by_cases e : m = k
      · subst e
        rw [lessB_irrefl] at h1
        cases h1
      · rw [lessB_asymm (hf m m1 m3 e)] at h1
        cases h1
theorem pi_step {D : Dt} (ok : OkD D) {f : Int} (hf : FirstOK D D.n f) {i : Nat} (hi : i < D.n) {hs : List Int} (h : PI D f i hs) (h0 : hs.getD i 0 ≠ 0) :
    PI D f (i + 1) (moveG i hs (grants (stF D D.n i) (ndr (hs.getD i 0))).2) := by
  have hb := h.bound ok i
  obtain ⟨g1, g2, g3, g4⟩ := give_facts ok hi (h := hs.getD i 0) (by omega) (by omega)
  have hgf := fun k l hl hk => grants_first (okB_st ok hi (Nat.le_refl D.n)) (ndr_valid (n := hs.getD i 0) (by omega) (by omega)) (a := askF D k) (l := l) hl hk
  generalize (grants (stF D D.n i) (ndr (hs.getD i 0))).2 = gs at *
  obtain ⟨m1, m2, m3, m4⟩ := moveG_spec hi gs hs h.len g3 g2
  have hp1 : ∀ g ∈ gs, 1 ≤ g.2.2 := fun g hg => (g3 g hg).2.2.2
  refine ⟨m1, fun k => ?_, by rw [m2, h.sum], fun k hkn hk => ?_⟩
  · by_cases e : k = i
    · subst e; rw [m3]; omega
    · rw [m4 k e]
      have h1 := h.pos k
      have h2 := (sumG_tot (tg := k) gs g2 hp1).1
      omega
  · obtain ⟨p1, p2⟩ := h.fst k hkn hk
    rcases hf with ⟨hf1, -⟩ | ⟨k', k1, k2, k3, k4⟩
    · omega
    obtain rfl : k = k' := by omega
    by_cases e : k = i
    · subst e
      have hke : ∀ a ∈ reqL (stF D D.n k), D.d k ≤ keeps (ownF D k) r0 a.pri := fun a ha => by
        obtain ⟨m, q1, q2, q3, rfl⟩ := (mem_reqF ok hi a).1 ha
        unfold ownF keeps
        rw [if_pos k3]
        dsimp only
        rw [(askF_pri q3).1, k4 m q1 q3 q2]
        show D.d k ≤ amt (ndr (D.d k)) r0
        exact Int.le_refl _
      rw [m3]
      rcases goodG_end hke gs _ g2 g1 with g5 | g5
      · subst g5
        simp only [tot, Int.sub_zero]
        refine ⟨p1, ?_⟩
        rcases p2 with p2 | p2
        · exact .inl p2
        · refine .inr fun j hj hne => ?_
          rw [m4 j hne, p2 j (by omega) hne]
          rfl
      · have e2 : amt (ndr (hs.getD k 0)) r0 = hs.getD k 0 := rfl
        rw [e2] at g5
        unfold lack at k3
        exact ⟨by omega, .inl g5⟩
    · obtain ⟨l, hl⟩ := req_head ok hi hkn e k3 k4
      have hk0 : ∀ y, keeps (stF D D.n i).own y (askF D k).pri = 0 := fun y => by
        rw [(askF_pri k3).1]
        show keeps (ownF D i) y (priF D k) = 0
        by_cases hli : 0 < lack D i
        · simp only [ownF, if_pos hli, keeps]
          rw [lessB_asymm (k4 i hi hli (Ne.symm e))]
          rfl
        · simp only [ownF, if_neg hli, keeps]
      have hgs := hgf k l hl hk0 (r0, lack D k) (by rw [(askF_pri k3).2]; simp)
      rw [(askF_pri k3).1] at hgs
      replace hgs : sumG (k : Int) r0 gs = min (lack D k) (hs.getD i 0) := hgs
      rw [m4 k e, hgs]
      have h2 := h.pos k
      unfold lack at *
      refine ⟨by omega, ?_⟩
      rcases p2 with p2 | p2
      · exact .inl (by omega)
      · by_cases hc : D.d k - D.h k ≤ hs.getD i 0
        · exact .inl (by omega)
        · refine .inr fun j hj hne => ?_
          have ht := sumG_tot (tg := k) gs g2 hp1
          by_cases ej : j = i
          · rw [ej, m3]; omega
          · have ht2 := sumG_two (a := (j : Int)) (b := (k : Int)) (by omega) gs g2 hp1
            have ht3 := (sumG_tot (tg := (j : Int)) gs g2 hp1).1
            rw [m4 j ej, p2 j (by omega) hne]
            omega
/-- what holds in the end -/
theorem pi_end {D : Dt} (ok : OkD D) {f : Int} (hf : FirstOK D D.n f) {hs : List Int} (h : PI D f D.n hs) :
    sumI hs = sumI ((List.range D.n).map D.h) ∧ ∀ k : Nat, f = k → k < D.n ∧ min (sumI ((List.range D.n).map D.h)) (D.d k) ≤ hs.getD k 0 := by
  refine ⟨h.sum, fun k hk => ?_⟩
  rcases hf with ⟨hf1, -⟩ | ⟨k', k1, k2, k3, k4⟩
  · omega
  obtain rfl : k = k' := by omega
  refine ⟨k1, ?_⟩
  obtain ⟨p1, p2⟩ := h.fst k k1 hk
  rcases p2 with p2 | p2
  · omega
  · have h1 := sumI_one hs k fun j hj => by
      by_cases hjn : j < D.n
      · exact p2 j hjn hj
      · simp only [List.getD_eq_getElem?_getD]
        rw [List.getElem?_eq_none (by rw [h.len]; omega)]
        rfl
    rw [← h.sum, h1]
    omega
end Go.Proofs.Ytbcekihjcgnhkaa
