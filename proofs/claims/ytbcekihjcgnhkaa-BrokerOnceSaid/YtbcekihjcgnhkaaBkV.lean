
/-
One heard request alone: what is left of it, what is given away.
-/
import Derived.Test.YtbcekihjcgnhkaaBkP
namespace Go.Proofs.Ytbcekihjcgnhkaa
set_option linter.unusedSimpArgs false
set_option linter.unusedVariables false

theorem give1_none (r : Int) (f : Rt → Int) : ∀ l : List Nd, (∀ z ∈ l, f z.1 = 0) → give1 (fun _ => 0) r f l = (f, l, [])
  | [], _ => rfl
  | z :: l, h => by
    have h0 := h z (by simp)
    have ih := give1_none r f l fun y hy => h y (by simp [hy])
    unfold give1
    rw [h0, if_pos (by omega), ih]
theorem noZ_mem {l : List Nd} {z : Nd} (h : z ∈ noZ l) : z ∈ l := (List.mem_filter.1 h).1
theorem noZ_noZ (l : List Nd) : noZ (noZ l) = noZ l := by
  unfold noZ
  rw [List.filter_filter]
  simp
theorem noZ_zero (x : Rt) (l : List Nd) : noZ ((x, 0) :: l) = noZ l := by simp [noZ]
theorem noZ_cons {x : Nd} (h : x.2 ≠ 0) (l : List Nd) : noZ (x :: l) = x :: noZ l := by simp [noZ, h]
theorem noZ_all {l : List Nd} (h : ∀ z ∈ l, z.2 ≠ 0) : noZ l = l := by
  unfold noZ
  rw [List.filter_eq_self]
  intro z hz
  simpa using h z hz
def onlyF (x : Rt) (m : Int) : Rt → Int := fun z => if x = z then m else 0
theorem amt_one (x : Rt) (m : Int) : amt [(x, m)] = onlyF x m := by
  funext z
  rfl
theorem give1_once (r : Int) (x : Rt) (m y : Int) (hm : 1 ≤ m) : ∀ (l : List Nd) (i : Nat), (∀ z ∈ l, 0 ≤ z.2) → (l.map (·.1)).Nodup → l[i]? = some (x, y) →
    noZ (give1 (fun _ => 0) r (onlyF x m) (noZ l)).2.1 = noZ (l.set i (x, y - min m y)) ∧
    (give1 (fun _ => 0) r (onlyF x m) (noZ l)).2.2 = (if min m y = 0 then [] else [(r, x, min m y)])
  | [], i, _, _, h => by simp at h
  | z :: l, 0, hp, hn, h => by
    simp only [List.getElem?_cons_zero, Option.some.injEq] at h
    subst h
    have hy := hp _ (List.mem_cons_self)
    dsimp only at hy
    rw [List.map_cons, List.nodup_cons] at hn
    have hx : ∀ z ∈ noZ l, x ≠ z.1 := fun z hz e => hn.1 (by rw [e]; exact List.mem_map.2 ⟨z, noZ_mem hz, rfl⟩)
    rw [List.set_cons_zero]
    by_cases h0 : y = 0
    · subst h0
      have e0 : min m 0 = 0 := by omega
      rw [noZ_zero, give1_none r _ _ fun z hz => by simp [onlyF, hx z hz], e0]
      dsimp only
      rw [noZ_noZ]
      exact ⟨(noZ_zero x l).symm, rfl⟩
    · rw [noZ_cons h0]
      unfold give1
      have e1 : onlyF x m x = m := by simp [onlyF]
      dsimp only
      rw [e1]
      have e2 : min (m - 0) y = min m y := by congr 1; omega
      rw [e2, if_neg (by omega), give1_none r _ (noZ l) fun z hz => by simp [onlyF, setF, hx z hz, Ne.symm (hx z hz)]]
      dsimp only
      rw [if_neg (by omega)]
      refine ⟨?_, rfl⟩
      by_cases h3 : y - min m y = 0
      · rw [h3, noZ_zero, noZ_zero, noZ_noZ]
      · rw [noZ_cons h3, noZ_cons h3, noZ_noZ]
  | z :: l, i + 1, hp, hn, h => by
    simp only [List.getElem?_cons_succ] at h
    rw [List.map_cons, List.nodup_cons] at hn
    obtain ⟨h1, h2⟩ := give1_once r x m y hm l i (fun z hz => hp z (by simp [hz])) hn.2 h
    have hz : x ≠ z.1 := fun e => hn.1 (by rw [← e]; exact List.mem_map.2 ⟨(x, y), List.mem_of_getElem? h, rfl⟩)
    rw [List.set_cons_succ]
    by_cases h0 : z.2 = 0
    · obtain ⟨z1, z2⟩ := z
      dsimp only at h0
      subst h0
      rw [noZ_zero, noZ_zero]
      exact ⟨h1, h2⟩
    · rw [noZ_cons h0, noZ_cons h0]
      unfold give1
      rw [show onlyF x m z.1 = 0 from if_neg hz, if_pos (by omega)]
      dsimp only
      rw [noZ_cons h0, h1]
      exact ⟨rfl, h2⟩
/-- a broker that has heard one request alone -/
def oneB (n r num : Int) (p : Pr) (l : List Nd) : Bk := ⟨n, 0, 0, none, setH (fun _ => none) r ⟨num, p, l⟩⟩
theorem setH_setH (H : Int → Option Ak) (k : Int) (a c : Ak) : setH (setH H k a) k c = setH H k c := by
  funext x
  unfold setH
  by_cases h : x = k <;> simp [h]
theorem asked_one (r : Int) (a : Ak) (hr : 0 ≤ r) : ∀ n : Nat, asked (setH (fun _ => none) r a) n = if r < n then (if hasN a then [a] else []) else []
  | 0 => by rw [if_neg (by omega)]; rfl
  | n + 1 => by
    unfold asked
    rw [asked_one r a hr n]
    by_cases h : r < n
    · have hne : (n : Int) ≠ r := by omega
      rw [if_pos h, if_pos (show r < ((n + 1 : Nat) : Int) by omega)]
      simp [setH, hne]
    · by_cases he : (n : Int) = r
      · rw [if_neg h, if_pos (show r < ((n + 1 : Nat) : Int) by omega)]
        simp only [setH, he, if_true]
        cases hh : hasN a <;> simp [hh]
      · rw [if_neg h, if_neg (show ¬ r < ((n + 1 : Nat) : Int) by omega)]
        simp [setH, he]
theorem one_btw {n r : Int} (h1 : 1 ≤ r) (h2 : r < n) : ¬ (!btw r 0 (n - 1) || decide (r = 0)) = true := by
  have e1 : btw r 0 (n - 1) = true := by
    unfold btw
    rw [decide_eq_true (show (0 : Int) ≤ r by omega), decide_eq_true (show r ≤ n - 1 by omega)]
    rfl
  rw [e1, decide_eq_false (show ¬ r = 0 by omega)]
  simp
theorem one_new {n r : Int} {a : Ak} (hn : badNew n 0 = false) (h1 : 1 ≤ r) (h2 : r < n) (hv : validA r a = true) : hear (newB n 0) r a = (oneB n r a.num a.pri a.needs, 0) := by
  unfold hear
  rw [if_neg (show ¬ (!btw r 0 ((newB n 0).n - 1) || decide (r = (newB n 0).i)) = true from one_btw h1 h2), if_neg (by simp [hv]), if_neg (by simp [newB])]
  rfl
theorem one_again {n r : Int} {a : Ak} {l : List Nd} (h1 : 1 ≤ r) (h2 : r < n) (hv : validA r a = true) : hear (oneB n r a.num a.pri l) r a = (oneB n r a.num a.pri l, 6) := by
  unfold hear
  rw [if_neg (show ¬ (!btw r 0 ((oneB n r a.num a.pri l).n - 1) || decide (r = (oneB n r a.num a.pri l).i)) = true from one_btw h1 h2), if_neg (by simp [hv]), if_pos (by simp [oneB, setH])]
theorem one_next {n r num : Int} {a : Ak} {p : Pr} {l : List Nd} (h1 : 1 ≤ r) (h2 : r < n) (hv : validA r a = true) (hd : num ≠ a.num) : hear (oneB n r num p l) r a = (oneB n r a.num a.pri a.needs, 0) := by
  unfold hear
  rw [if_neg (show ¬ (!btw r 0 ((oneB n r num p l).n - 1) || decide (r = (oneB n r num p l).i)) = true from one_btw h1 h2), if_neg (by simp [hv]), if_neg (by simp [oneB, setH, hd])]
  simp only [oneB, setH_setH]
theorem one_grants {n num : Int} {p : Pr} {l : List Nd} {x : Rt} {m y : Int} {i : Nat} (h1 : 1 ≤ p.2.2.1) (h2 : p.2.2.1 < n) (hv : validL [(x, m)] = true) (hm : 1 ≤ m) (hp : ∀ z ∈ l, 0 ≤ z.2) (hn : (l.map (·.1)).Nodup) (hi : l[i]? = some (x, y)) :
    grants (oneB n p.2.2.1 num p (noZ l)) [(x, m)] = (oneB n p.2.2.1 num p (noZ (l.set i (x, y - min m y))), if min m y = 0 then [] else [(p.2.2.1, x, min m y)]) := by
  obtain ⟨g1, g2⟩ := give1_once p.2.2.1 x m y hm l i hp hn hi
  have hreq : reqL (oneB n p.2.2.1 num p (noZ l)) = if hasN ⟨num, p, noZ l⟩ then [⟨num, p, noZ l⟩] else [] := by
    unfold reqL
    rw [show (oneB n p.2.2.1 num p (noZ l)).heard = setH (fun _ => none) p.2.2.1 ⟨num, p, noZ l⟩ from rfl, show (oneB n p.2.2.1 num p (noZ l)).n = n from rfl, asked_one _ _ (by omega), if_pos (by omega)]
    split <;> rfl
  unfold grants
  rw [if_neg (by simp [hv]), hreq]
  by_cases hh : hasN ⟨num, p, noZ l⟩ = true
  · rw [if_pos hh]
    unfold giveA giveA
    dsimp only [oneB, keeps]
    rw [amt_one, g1, g2, setH_setH, List.append_nil]
  · rw [if_neg hh]
    have hz : noZ l = [] := by
      simp only [hasN, Bool.not_eq_true, decide_eq_false_iff_not] at hh
      cases hl : noZ l with
      | nil => rfl
      | cons _ _ => rw [hl] at hh; simp at hh
    rw [hz] at g1 g2
    unfold give1 at g1 g2
    dsimp only at g1 g2
    unfold giveA
    rw [← g1, ← g2, hz]
    rfl
theorem validL_one {x : Rt} {y m : Int} (h : okNd (x, y) = true) (h1 : 1 ≤ m) (h2 : m ≤ 1000000) : validL [(x, m)] = true := by
  rw [validL_iff]
  refine ⟨fun z hz => ?_, by simp, by simp⟩
  simp only [List.mem_singleton] at hz
  subst hz
  unfold okNd btw at h ⊢
  simp only [Bool.and_eq_true, decide_eq_true_eq] at h ⊢
  exact ⟨h.1, h1, h2⟩
end Go.Proofs.Ytbcekihjcgnhkaa
