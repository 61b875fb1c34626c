
/-
What is given away: never too much; the first request gets all it can; a second call with the rest gives nothing.
-/
import Derived.Test.YtbcekihjcgnhkaaBkM
namespace Go.Proofs.Ytbcekihjcgnhkaa
set_option linter.unusedSimpArgs false
set_option linter.unusedVariables false

/-- what is left behind some grants -/
def runF : (Rt → Int) → List Gr → (Rt → Int)
  | f, [] => f
  | f, g :: gs => runF (setF f g.2.1 (f g.2.1 - g.2.2)) gs
theorem runF_append : ∀ (a b : List Gr) (f : Rt → Int), runF f (a ++ b) = runF (runF f a) b
  | [], _, _ => rfl
  | _ :: a, b, _ => by rw [List.cons_append, runF, runF, runF_append a b]
theorem runF_le : ∀ (gs : List Gr) (f : Rt → Int), (∀ g ∈ gs, 0 ≤ g.2.2) → ∀ y, runF f gs y ≤ f y
  | [], _, _, _ => Int.le_refl _
  | g :: gs, f, h, y => by
    rw [runF]
    refine Int.le_trans (runF_le gs _ (fun x hx => h x (by simp [hx])) y) ?_
    have := h g (by simp)
    unfold setF
    split
    · rename_i e; subst e; omega
    · omega
set_option maxHeartbeats 1000000 in
theorem give1_spec (kp : Rt → Int) (tg : Int) : ∀ (l : List Nd) (f : Rt → Int), (∀ x ∈ l, 1 ≤ x.2) →
    (give1 kp tg f l).1 = runF f (give1 kp tg f l).2.2 ∧ (∀ g ∈ (give1 kp tg f l).2.2, 1 ≤ g.2.2 ∧ g.1 = tg) ∧ ∀ x ∈ (give1 kp tg f l).2.1, x.2 ≠ 0 → (give1 kp tg f l).1 x.1 ≤ kp x.1
  | [], f, _ => ⟨rfl, fun g hg => by simp [give1] at hg, fun x hx => by simp [give1] at hx⟩
  | x :: l, f, h => by
    have hx := h x (by simp)
    by_cases hm : min (f x.1 - kp x.1) x.2 ≤ 0
    · rw [give1_le hm]
      obtain ⟨h1, h2, h3⟩ := give1_spec kp tg l f fun z hz => h z (by simp [hz])
      refine ⟨h1, h2, fun y hy hz => ?_⟩
      rcases List.mem_cons.1 hy with rfl | hy
      · have h4 := runF_le (give1 kp tg f l).2.2 f (fun g hg => by have := (h2 g hg).1; omega) y.1
        dsimp only
        rw [h1]
        omega
      · exact h3 y hy hz
    · rw [give1_gt rfl hm]
      generalize hmm : min (f x.1 - kp x.1) x.2 = m at *
      obtain ⟨h1, h2, h3⟩ := give1_spec kp tg l (setF f x.1 (f x.1 - m)) fun z hz => h z (by simp [hz])
      refine ⟨h1, fun g hg => ?_, fun y hy hz => ?_⟩
      · rcases List.mem_cons.1 hg with rfl | hg
        · exact ⟨by dsimp only; omega, rfl⟩
        · exact h2 g hg
      · rcases List.mem_cons.1 hy with rfl | hy
        · have h4 := runF_le (give1 kp tg (setF f x.1 (f x.1 - m)) l).2.2 (setF f x.1 (f x.1 - m)) (fun g hg => by have := (h2 g hg).1; omega) x.1
          dsimp only at hz ⊢
          rw [h1]
          simp only [setF, if_true] at h4 ⊢
          omega
        · exact h3 y hy hz
/-- each grant is one that is asked for, of something that is there and not kept -/
def GoodG (o : Option (Pr × List Nd)) (i : Int) (asked : List Ak) : (Rt → Int) → List Gr → Prop
  | _, [] => True
  | f, g :: gs => (∃ a ∈ asked, a.pri.2.2.1 = g.1 ∧ g.1 ≠ i ∧ 1 ≤ g.2.2 ∧ g.2.2 ≤ amt a.needs g.2.1 ∧ keeps o g.2.1 a.pri ≤ f g.2.1 - g.2.2) ∧ GoodG o i asked (setF f g.2.1 (f g.2.1 - g.2.2)) gs
theorem goodG_cons {o : Option (Pr × List Nd)} {i : Int} {asked : List Ak} {f : Rt → Int} {g : Gr} {gs : List Gr} (h : ∃ a ∈ asked, a.pri.2.2.1 = g.1 ∧ g.1 ≠ i ∧ 1 ≤ g.2.2 ∧ g.2.2 ≤ amt a.needs g.2.1 ∧ keeps o g.2.1 a.pri ≤ f g.2.1 - g.2.2) (k : GoodG o i asked (setF f g.2.1 (f g.2.1 - g.2.2)) gs) : GoodG o i asked f (g :: gs) := ⟨h, k⟩
theorem goodG_append {o : Option (Pr × List Nd)} {i : Int} {asked : List Ak} : ∀ (a b : List Gr) (f : Rt → Int), GoodG o i asked f a → GoodG o i asked (runF f a) b → GoodG o i asked f (a ++ b)
  | [], _, _, _, h => h
  | g :: a, b, f, h, k => ⟨h.1, goodG_append a b _ h.2 (by rw [runF] at k; exact k)⟩
theorem amt_mem : ∀ {l : List Nd}, (l.map (·.1)).Nodup → ∀ x ∈ l, amt l x.1 = x.2
  | [], _, x, hx => by cases hx
  | y :: l, h, x, hx => by
    rw [List.map_cons, List.nodup_cons] at h
    rw [amt_cons]
    rcases List.mem_cons.1 hx with rfl | hx
    · rw [if_pos rfl]
    · rw [if_neg (fun e => h.1 (by rw [e]; exact List.mem_map.2 ⟨x, hx, rfl⟩)), amt_mem h.2 x hx]
set_option maxHeartbeats 1000000 in
theorem good_give1 {o : Option (Pr × List Nd)} {i : Int} {asked : List Ak} {a : Ak} (ha : a ∈ asked) (hi : a.pri.2.2.1 ≠ i) : ∀ (l : List Nd) (f : Rt → Int), (∀ x ∈ l, 1 ≤ x.2 ∧ amt a.needs x.1 = x.2) →
    GoodG o i asked f (give1 (fun y => keeps o y a.pri) a.pri.2.2.1 f l).2.2
  | [], _, _ => trivial
  | x :: l, f, h => by
    have hx := h x (by simp)
    by_cases hm : min (f x.1 - keeps o x.1 a.pri) x.2 ≤ 0
    · rw [give1_le hm]
      exact good_give1 ha hi l f fun z hz => h z (by simp [hz])
    · rw [give1_gt rfl hm]
      dsimp only
      refine goodG_cons ⟨a, ha, rfl, hi, ?_, ?_, ?_⟩ (good_give1 ha hi l _ fun z hz => h z (by simp [hz]))
      · dsimp only; omega
      · dsimp only; omega
      · dsimp only; omega
set_option maxHeartbeats 1000000 in
theorem good_giveA {o : Option (Pr × List Nd)} {i : Int} {asked : List Ak} : ∀ (l : List Ak) (f : Rt → Int) (H : Int → Option Ak), (∀ a ∈ l, a ∈ asked ∧ a.pri.2.2.1 ≠ i ∧ ∀ x ∈ a.needs, 1 ≤ x.2 ∧ amt a.needs x.1 = x.2) →
    GoodG o i asked f (giveA o f H l).2
  | [], _, _, _ => trivial
  | a :: l, f, H, h => by
    have ha := h a (by simp)
    unfold giveA
    dsimp only
    refine goodG_append _ _ _ (good_give1 ha.1 ha.2.1 a.needs f ha.2.2) ?_
    rw [← (give1_spec (fun y => keeps o y a.pri) a.pri.2.2.1 a.needs f fun x hx => (ha.2.2 x hx).1).1]
    exact good_giveA l _ _ fun z hz => h z (by simp [hz])
/-- nothing that is left over is asked for and not kept -/
def Sated (o : Option (Pr × List Nd)) (f : Rt → Int) (a : Ak) : Prop := ∀ x ∈ a.needs, f x.1 ≤ keeps o x.1 a.pri
theorem giveA_spec (o : Option (Pr × List Nd)) : ∀ (l : List Ak) (f : Rt → Int) (H : Int → Option Ak), (∀ a ∈ l, ∀ x ∈ a.needs, 1 ≤ x.2) →
    (∀ k a, H k = some a → hasN a = true → Sated o f a ∨ ∃ c ∈ l, c.pri.2.2.1 = k) →
    (∀ g ∈ (giveA o f H l).2, 1 ≤ g.2.2) ∧ ∀ k a, (giveA o f H l).1 k = some a → hasN a = true → Sated o (runF f (giveA o f H l).2) a
  | [], f, H, _, hh => ⟨fun g hg => by simp [giveA] at hg, fun k a h1 h2 => by
      rcases hh k a h1 h2 with h3 | ⟨c, hc, -⟩
      · exact h3
      · cases hc⟩
  | a :: l, f, H, hn, hh => by
    obtain ⟨s1, s2, s3⟩ := give1_spec (fun y => keeps o y a.pri) a.pri.2.2.1 a.needs f fun x hx => hn a (by simp) x hx
    have hle := runF_le (give1 (fun y => keeps o y a.pri) a.pri.2.2.1 f a.needs).2.2 f fun g hg => by have := (s2 g hg).1; omega
    obtain ⟨h1, h2⟩ := giveA_spec o l (give1 (fun y => keeps o y a.pri) a.pri.2.2.1 f a.needs).1 (setH H a.pri.2.2.1 { a with needs := noZ (give1 (fun y => keeps o y a.pri) a.pri.2.2.1 f a.needs).2.1 })
      (fun z hz => hn z (by simp [hz])) (fun k c hc hcn => by
        unfold setH at hc
        split at hc
        · injection hc with hc
          subst hc
          left
          intro x hx
          dsimp only at hx ⊢
          unfold noZ at hx
          simp only [List.mem_filter, Bool.not_eq_true', beq_eq_false_iff_ne] at hx
          exact s3 x hx.1 hx.2
        · rename_i hne
          rcases hh k c hc hcn with h3 | ⟨d, hd, hk⟩
          · left
            intro x hx
            rw [s1]
            exact Int.le_trans (hle x.1) (h3 x hx)
          · rcases List.mem_cons.1 hd with rfl | hd
            · exact absurd hk.symm hne
            · exact .inr ⟨d, hd, hk⟩)
    unfold giveA
    dsimp only
    rw [runF_append, ← s1]
    refine ⟨fun g hg => ?_, h2⟩
    rcases List.mem_append.1 hg with hg | hg
    · exact (s2 g hg).1
    · exact h1 g hg
theorem give1_sated (kp : Rt → Int) (tg : Int) (f : Rt → Int) : ∀ l : List Nd, (∀ x ∈ l, f x.1 ≤ kp x.1) → give1 kp tg f l = (f, l, [])
  | [], _ => rfl
  | x :: l, h => by
    have := h x (by simp)
    rw [give1_le (by omega), give1_sated kp tg f l fun z hz => h z (by simp [hz])]
theorem giveA_sated (o : Option (Pr × List Nd)) (f : Rt → Int) : ∀ (l : List Ak) (H : Int → Option Ak), (∀ a ∈ l, Sated o f a) → (giveA o f H l).2 = []
  | [], _, _ => rfl
  | a :: l, H, h => by
    unfold giveA
    dsimp only
    rw [give1_sated (fun y => keeps o y a.pri) a.pri.2.2.1 f a.needs (h a (by simp))]
    dsimp only
    rw [List.nil_append]
    exact giveA_sated o f l _ fun z hz => h z (by simp [hz])
/-- facts of a heard request -/
theorem heard_facts {s : Bk} (ok : OkB s) {k : Int} {a : Ak} (h : s.heard k = some a) : validL a.needs = true ∧ (∀ x ∈ a.needs, 1 ≤ x.2 ∧ amt a.needs x.1 = x.2) := by
  have h1 := (ok.key _ _ h).2.2.2
  unfold validA at h1
  simp only [Bool.and_eq_true] at h1
  have h2 := (validL_iff _).1 h1.1.2
  exact ⟨h1.1.2, fun x hx => ⟨(okNd_amt (h2.1 x hx)).1, amt_mem h2.2.1 x hx⟩⟩
theorem reqL_facts {s : Bk} (ok : OkB s) : ∀ a ∈ reqL s, a ∈ reqL s ∧ a.pri.2.2.1 ≠ s.i ∧ ∀ x ∈ a.needs, 1 ≤ x.2 ∧ amt a.needs x.1 = x.2 := fun a ha => by
  obtain ⟨h1, h2⟩ := (mem_reqL ok a).1 ha
  exact ⟨ha, (ok.key _ _ h2).2.2.1, (heard_facts ok h2).2⟩
/-- requests of one replica are one -/
theorem reqL_one {s : Bk} (ok : OkB s) {a c : Ak} (ha : a ∈ reqL s) (hc : c ∈ reqL s) (h : a.pri.2.2.1 = c.pri.2.2.1) : a = c := by
  have h1 := ((mem_reqL ok a).1 ha).2
  have h2 := ((mem_reqL ok c).1 hc).2
  rw [h, h2] at h1
  injection h1 with h1
  exact h1.symm
theorem grants_ok {s : Bk} {has : List Nd} (hv : validL has = true) : grants s has = ({ s with heard := (giveA s.own (amt has) s.heard (reqL s)).1 }, (giveA s.own (amt has) s.heard (reqL s)).2) := by
  unfold grants
  rw [if_neg (by simp [hv])]
theorem grants_good {s : Bk} (ok : OkB s) {has : List Nd} (hv : validL has = true) : GoodG s.own s.i (reqL s) (amt has) (grants s has).2 := by
  rw [grants_ok hv]
  exact good_giveA _ _ _ (reqL_facts ok)
/-- a second call with the rest gives nothing -/
theorem grants_twice {s : Bk} (ok : OkB s) {has rest : List Nd} (hv : validL has = true) (ok2 : OkB (grants s has).1) (hr : ∀ y, amt rest y = runF (amt has) (grants s has).2 y) : (grants (grants s has).1 rest).2 = [] := by
  have hg := grants_ok (s := s) hv
  have h1 := giveA_spec s.own (reqL s) (amt has) s.heard (fun a ha x hx => ((reqL_facts ok a ha).2.2 x hx).1) (fun k a ha hn => .inr ⟨a, (mem_reqL ok a).2 ⟨hn, by rw [(validA_of (ok.key _ _ ha).2.2.2 hn).1]; exact ha⟩, (validA_of (ok.key _ _ ha).2.2.2 hn).1⟩)
  by_cases hv2 : validL rest = true
  · have hs : ∀ a ∈ reqL (grants s has).1, Sated s.own (amt rest) a := fun a ha => by
      obtain ⟨h2, h3⟩ := (mem_reqL ok2 a).1 ha
      rw [hg] at h3
      intro x hx
      rw [hr, hg]
      exact h1.2 _ a h3 h2 x hx
    rw [grants_ok hv2]
    dsimp only
    rw [show (grants s has).1.own = s.own by rw [hg]]
    exact giveA_sated _ _ _ _ hs
  · unfold grants
    rw [if_pos (by simpa using hv2)]
/-- how much of a right a replica gets -/
def sumG (tg : Int) (x : Rt) : List Gr → Int
  | [] => 0
  | g :: gs => (if g.1 = tg ∧ g.2.1 = x then g.2.2 else 0) + sumG tg x gs
theorem sumG_append (tg : Int) (x : Rt) : ∀ a b : List Gr, sumG tg x (a ++ b) = sumG tg x a + sumG tg x b
  | [], b => by rw [List.nil_append, sumG]; omega
  | g :: a, b => by rw [List.cons_append, sumG, sumG, sumG_append tg x a b]; omega
theorem sumG_none (tg : Int) (x : Rt) : ∀ gs : List Gr, (∀ g ∈ gs, g.1 = tg → g.2.1 ≠ x) → sumG tg x gs = 0
  | [], _ => rfl
  | g :: gs, h => by
    rw [sumG, if_neg (fun e => h g (by simp) e.1 e.2), sumG_none tg x gs fun z hz => h z (by simp [hz])]
    rfl
theorem give1_rts (kp : Rt → Int) (tg : Int) : ∀ (l : List Nd) (f : Rt → Int), ∀ g ∈ (give1 kp tg f l).2.2, g.2.1 ∈ l.map (·.1)
  | [], _, g, hg => by simp [give1] at hg
  | x :: l, f, g, hg => by
    by_cases hm : min (f x.1 - kp x.1) x.2 ≤ 0
    · rw [give1_le hm] at hg
      exact List.mem_cons_of_mem _ (give1_rts kp tg l f g hg)
    · rw [give1_gt rfl hm] at hg
      rcases List.mem_cons.1 hg with rfl | hg
      · exact List.mem_cons_self
      · exact List.mem_cons_of_mem _ (give1_rts kp tg l _ g hg)
theorem give1_first (kp : Rt → Int) (tg : Int) (hk : ∀ y, kp y = 0) : ∀ (l : List Nd) (f : Rt → Int), (l.map (·.1)).Nodup → (∀ x ∈ l, 1 ≤ x.2) → (∀ y, 0 ≤ f y) → ∀ n ∈ l, sumG tg n.1 (give1 kp tg f l).2.2 = min n.2 (f n.1)
  | [], _, _, _, _, n, hn => by cases hn
  | x :: l, f, hd, h1, hf, n, hn => by
    rw [List.map_cons, List.nodup_cons] at hd
    have hx := h1 x (by simp)
    have hfx := hf x.1
    have hkx := hk x.1
    have hno : ∀ f', sumG tg x.1 (give1 kp tg f' l).2.2 = 0 := fun f' => sumG_none _ _ _ fun g hg _ e => hd.1 (by rw [← e]; exact give1_rts kp tg l f' g hg)
    have hne : ∀ z ∈ l, z.1 ≠ x.1 := fun z hz e => hd.1 (by rw [← e]; exact List.mem_map.2 ⟨z, hz, rfl⟩)
    by_cases hm : min (f x.1 - kp x.1) x.2 ≤ 0
    · rw [give1_le hm]
      dsimp only
      rcases List.mem_cons.1 hn with rfl | hn
      · rw [hno]; omega
      · exact give1_first kp tg hk l f hd.2 (fun z hz => h1 z (by simp [hz])) hf n hn
    · rw [give1_gt rfl hm]
      generalize hmm : min (f x.1 - kp x.1) x.2 = m at *
      dsimp only
      rw [sumG]
      dsimp only
      rcases List.mem_cons.1 hn with rfl | hn
      · rw [hno, if_pos ⟨rfl, rfl⟩]; omega
      · rw [if_neg (fun e => hne n hn e.2.symm), give1_first kp tg hk l _ hd.2 (fun z hz => h1 z (by simp [hz])) (fun y => by
          have := hf y
          unfold setF
          split
          · omega
          · omega) n hn]
        simp only [setF, if_neg (hne n hn)]
        omega
theorem giveA_to (o : Option (Pr × List Nd)) : ∀ (l : List Ak) (f : Rt → Int) (H : Int → Option Ak), (∀ a ∈ l, ∀ x ∈ a.needs, 1 ≤ x.2) → ∀ g ∈ (giveA o f H l).2, ∃ a ∈ l, a.pri.2.2.1 = g.1
  | [], _, _, _, g, hg => by simp [giveA] at hg
  | a :: l, f, H, h, g, hg => by
    unfold giveA at hg
    dsimp only at hg
    rcases List.mem_append.1 hg with hg | hg
    · exact ⟨a, by simp, ((give1_spec (fun y => keeps o y a.pri) a.pri.2.2.1 a.needs f fun x hx => h a (by simp) x hx).2.1 g hg).2.symm⟩
    · obtain ⟨c, hc, e⟩ := giveA_to o l _ _ (fun z hz => h z (by simp [hz])) g hg
      exact ⟨c, by simp [hc], e⟩
/-- the first request gets all it can get -/
theorem grants_first {s : Bk} (ok : OkB s) {has : List Nd} (hv : validL has = true) {a : Ak} {l : List Ak} (hl : reqL s = a :: l) (hk : ∀ y, keeps s.own y a.pri = 0) : ∀ n ∈ a.needs, sumG a.pri.2.2.1 n.1 (grants s has).2 = min n.2 (amt has n.1) := fun n hn => by
  rw [grants_ok hv, hl]
  have ha : a ∈ reqL s := by rw [hl]; simp
  obtain ⟨h1, h2⟩ := (mem_reqL ok a).1 ha
  have h3 := heard_facts ok h2
  have h4 := (validL_iff _).1 h3.1
  dsimp only
  unfold giveA
  dsimp only
  rw [sumG_append, give1_first (fun y => keeps s.own y a.pri) a.pri.2.2.1 hk a.needs (amt has) h4.2.1 (fun x hx => (h3.2 x hx).1) (fun y => (amt_bound ((validL_iff has).1 hv).1 y).1) n hn, sumG_none]
  · omega
  · intro g hg e
    obtain ⟨c, hc, e2⟩ := giveA_to s.own l _ _ (fun z hz x hx => ((reqL_facts ok z (by rw [hl]; simp [hz])).2.2 x hx).1) g hg
    have hs := reqL_sort ok
    rw [hl] at hs
    have h5 := (List.pairwise_cons.1 hs).1 c hc
    rw [reqL_one ok ha (c := c) (by rw [hl]; simp [hc]) (by rw [e2, e]), lessB_irrefl] at h5
    cases h5
end Go.Proofs.Ytbcekihjcgnhkaa
