
/-
BrokerGives: what the law's own checks find.
-/
import Derived.Test.YtbcekihjcgnhkaaBkY
import Derived.Test.YtbcekihjcgnhkaaBkZa
namespace Go.Proofs.Ytbcekihjcgnhkaa
set_option linter.unusedSimpArgs false
set_option linter.unusedVariables false
open Go.RowKit

theorem request_i {s : Bk} {p : Pr} {m l : List Nd} : (request s p m l).1.i = s.i := by
  unfold request
  split
  · rfl
  · split <;> rfl
theorem rest_i {s : Bk} : (rest s).1.i = s.i := by
  unfold rest
  split <;> rfl
theorem hear_i {s : Bk} {k : Int} {a : Ak} : (hear s k a).1.i = s.i := by
  unfold hear
  split
  · rfl
  · split
    · rfl
    · split <;> rfl
theorem idxF_mem {α : Type} (p : α → Bool) (l : List α) {x : α} (hx : x ∈ l) (hp : p x = true) : ∃ j, ∃ h : j < l.length, idxF p 0 l = (j : Int) ∧ p l[j] = true := by
  rcases idxF_spec p l 0 with ⟨-, h⟩ | ⟨j, h, h1, h2, -⟩
  · rw [h x hx] at hp
    cases hp
  · exact ⟨j, h, by rw [h1, Nat.zero_add], h2⟩
theorem idx_ask {s : Bk} (ok : OkB s) {la : List AV} (hla : la.map (·.a) = reqL s) {a : Ak} (ha : a ∈ reqL s) {tg : Int} (ht : a.pri.2.2.1 = tg) :
    ∃ j, ∃ h : j < la.length, idxF (fun x : AV => x.a.pri.2.2.1 == tg) 0 la = (j : Int) ∧ la[j].a = a := by
  have ha' := ha
  rw [← hla] at ha'
  obtain ⟨x, hx, rfl⟩ := List.mem_map.1 ha'
  obtain ⟨j, h, h1, h2⟩ := idxF_mem (fun y : AV => y.a.pri.2.2.1 == tg) la hx (by simpa using ht)
  refine ⟨j, h, h1, ?_⟩
  refine reqL_one ok (by rw [← hla]; exact List.mem_map.2 ⟨_, List.getElem_mem h, rfl⟩) ha ?_
  have h2 : la[j].a.pri.2.2.1 = tg := by simpa using h2
  rw [h2, ht]
theorem amt_in {l : List Nd} {y : Rt} (h : amt l y ≠ 0) : ∃ z ∈ l, z.1 = y := by
  induction l with
  | nil => exact absurd rfl h
  | cons x l ih =>
    rw [amt_cons] at h
    by_cases hx : x.1 = y
    · exact ⟨x, by simp, hx⟩
    · rw [if_neg hx] at h
      obtain ⟨z, hz, e⟩ := ih h
      exact ⟨z, by simp [hz], e⟩
theorem idx_nd {rest : List Nd} {y : Rt} (hd : (rest.map (·.1)).Nodup) (h : amt rest y ≠ 0) : ∃ q, ∃ h : q < rest.length, idxF (fun z : Nd => decide (z.1 = y)) 0 rest = (q : Int) ∧ rest[q] = (y, amt rest y) := by
  obtain ⟨z, hz, e⟩ := amt_in h
  obtain ⟨q, hq, h1, h2⟩ := idxF_mem (fun z : Nd => decide (z.1 = y)) rest hz (by simpa using e)
  have h2 : rest[q].1 = y := by simpa using h2
  refine ⟨q, hq, h1, ?_⟩
  have h3 := amt_mem hd rest[q] (List.getElem_mem hq)
  rw [h2] at h3
  rw [h3]
  exact Prod.ext h2 rfl
theorem amt_set {rest : List Nd} {y : Rt} {v u : Int} : ∀ {q : Nat}, (rest.map (·.1)).Nodup → rest[q]? = some (y, v) → ∀ z, amt (rest.set q (y, u)) z = if z = y then u else amt rest z := by
  induction rest with
  | nil => intro q _ h; simp at h
  | cons x l ih =>
    intro q hd h z
    rw [List.map_cons, List.nodup_cons] at hd
    cases q with
    | zero =>
      simp only [List.getElem?_cons_zero, Option.some.injEq] at h
      subst h
      rw [List.set_cons_zero, amt_cons, amt_cons]
      dsimp only
      by_cases e : z = y
      · rw [if_pos e, if_pos e.symm]
      · rw [if_neg e, if_neg (fun e' => e e'.symm), if_neg (fun e' => e e'.symm)]
    | succ q =>
      simp only [List.getElem?_cons_succ] at h
      rw [List.set_cons_succ, amt_cons, amt_cons, ih hd.2 h z]
      have hne : x.1 ≠ y := fun e => hd.1 (by rw [e]; exact List.mem_map.2 ⟨_, List.mem_of_getElem? h, rfl⟩)
      by_cases e : x.1 = z
      · rw [if_pos e, if_neg (fun e' => hne (by rw [e, e'])), if_pos e]
      · rw [if_neg e, if_neg e]
theorem amt_noZ {l : List Nd} (hd : (l.map (·.1)).Nodup) (y : Rt) : amt (noZ l) y = amt l y := by
  induction l with
  | nil => rfl
  | cons x l ih =>
    rw [List.map_cons, List.nodup_cons] at hd
    unfold noZ at ih ⊢
    by_cases hx : x.2 = 0
    · rw [List.filter_cons_of_neg (by simp [hx]), ih hd.2, amt_cons]
      split
      · rename_i e
        rw [hx]
        cases hh : decide (amt l y = 0) with
        | true => exact of_decide_eq_true hh
        | false =>
          obtain ⟨z, hz, e2⟩ := amt_in (of_decide_eq_false hh)
          exact absurd (List.mem_map.2 ⟨z, hz, by rw [e2, e]⟩) hd.1
      · rfl
    · rw [List.filter_cons_of_pos (by simp [hx]), amt_cons, amt_cons, ih hd.2]
theorem map_set_fst {left : List Nd} {i : Nat} {x : Rt} {y v : Int} (h : left[i]? = some (x, y)) : (left.set i (x, v)).map (·.1) = left.map (·.1) := by
  rw [List.map_set]
  apply List.ext_getElem?
  intro j
  rw [List.getElem?_set]
  split
  · rename_i e
    subst e
    obtain ⟨hlt, he⟩ := List.getElem?_eq_some_iff.1 h
    simp [hlt, he]
  · rfl
/-- the rounds over the grants: what is left -/
structure GR (has gs : List Nd × List Gr) (o : Option (Pr × List Nd)) (i : Int) (asked : List Ak) (k : Nat) (rest : List Nd) : Prop where
  rts : rest.map (·.1) = has.1.map (·.1)
  am : ∀ y, amt rest y = runF (amt has.1) (gs.2.take k) y
  good : GoodG o i asked (amt rest) (gs.2.drop k)
  bnd : ∀ z ∈ rest, 0 ≤ z.2 ∧ z.2 ≤ 1000000
theorem goodG_congr {o : Option (Pr × List Nd)} {i : Int} {asked : List Ak} : ∀ {gs : List Gr} {f g : Rt → Int}, (∀ y, f y = g y) → GoodG o i asked f gs → GoodG o i asked g gs := fun {gs f g} h k => by
  obtain rfl : f = g := funext h
  exact k
theorem GR.start {has : List Nd} {gs : List Gr} {o : Option (Pr × List Nd)} {i : Int} {asked : List Ak} (hv : validL has = true) (hg : GoodG o i asked (amt has) gs) : GR (has, gs) (has, gs) o i asked 0 has :=
  ⟨rfl, fun _ => rfl, hg, fun z hz => by have := okNd_amt (((validL_iff has).1 hv).1 z hz); omega⟩
theorem GR.nodup {has : List Nd} {gs : List Gr} {o : Option (Pr × List Nd)} {i : Int} {asked : List Ak} {k : Nat} {rest : List Nd} (hv : validL has = true) (h : GR (has, gs) (has, gs) o i asked k rest) : (rest.map (·.1)).Nodup := by
  rw [h.rts]
  exact ((validL_iff has).1 hv).2.1
/-- one grant -/
theorem GR.at_ {has : List Nd} {gs : List Gr} {o : Option (Pr × List Nd)} {i : Int} {asked : List Ak} {k : Nat} {rest : List Nd} (hv : validL has = true) (h : GR (has, gs) (has, gs) o i asked k rest) (hk : k < gs.length)
    {tg : Int} {y : Rt} {m : Int} (hg : gs[k] = (tg, y, m)) (hkp : ∀ p, 0 ≤ keeps o y p) : (∃ a ∈ asked, a.pri.2.2.1 = tg ∧ tg ≠ i ∧ 1 ≤ m ∧ m ≤ amt a.needs y ∧ keeps o y a.pri ≤ amt rest y - m) ∧
    ∀ q, rest[q]? = some (y, amt rest y) → GR (has, gs) (has, gs) o i asked (k + 1) (rest.set q (y, amt rest y - m)) := by
  have h1 := h.good
  dsimp only at h1
  rw [List.drop_eq_getElem_cons hk, hg] at h1
  obtain ⟨h2, h3⟩ := h1
  refine ⟨h2, fun q hq => ?_⟩
  obtain ⟨a, -, -, -, h4, -, h5⟩ := h2
  dsimp only at h4 h5
  have h6 := hkp a.pri
  have hs := amt_set (u := amt rest y - m) (h.nodup hv) hq
  refine ⟨by rw [map_set_fst hq]; exact h.rts, fun z => ?_, ?_, fun z hz => ?_⟩
  · rw [hs]
    dsimp only
    rw [List.take_succ_eq_append_getElem hk, runF_append, hg]
    have e := h.am
    dsimp only at e
    simp only [runF, setF]
    rw [← e, ← e]
  · dsimp only
    exact goodG_congr (fun z => by rw [hs]; rfl) h3
  · rcases List.mem_or_eq_of_mem_set hz with hz | rfl
    · exact h.bnd z hz
    · have h7 := h.bnd _ (List.mem_of_getElem? hq)
      dsimp only at h7 ⊢
      omega
theorem goodG_pos {o : Option (Pr × List Nd)} {i : Int} {asked : List Ak} : ∀ {gs : List Gr} {f : Rt → Int}, GoodG o i asked f gs → ∀ g ∈ gs, 1 ≤ g.2.2
  | [], _, _, g, hg => by cases hg
  | x :: gs, f, h, g, hg => by
    obtain ⟨⟨a, -, -, -, h1, -⟩, h2⟩ := h
    rcases List.mem_cons.1 hg with rfl | hg
    · exact h1
    · exact goodG_pos h2 g hg
theorem sumG_nonneg (tg : Int) (x : Rt) : ∀ gs : List Gr, (∀ g ∈ gs, 1 ≤ g.2.2) → 0 ≤ sumG tg x gs
  | [], _ => Int.le_refl _
  | g :: gs, h => by
    have h1 := h g (by simp)
    have h2 := sumG_nonneg tg x gs fun z hz => h z (by simp [hz])
    rw [sumG]
    split <;> omega
theorem sumG_take (tg : Int) (x : Rt) {gs : List Gr} (h : ∀ g ∈ gs, 1 ≤ g.2.2) (k : Nat) : 0 ≤ sumG tg x (gs.take k) ∧ sumG tg x (gs.take k) ≤ sumG tg x gs := by
  have h1 := sumG_nonneg tg x (gs.take k) fun g hg => h g (List.mem_of_mem_take hg)
  have h2 := sumG_nonneg tg x (gs.drop k) fun g hg => h g (List.mem_of_mem_drop hg)
  have h3 := sumG_append tg x (gs.take k) (gs.drop k)
  rw [List.take_append_drop] at h3
  omega
theorem sumG_snoc (tg : Int) (x : Rt) (gs : List Gr) (k : Nat) (hk : k < gs.length) : sumG tg x (gs.take (k + 1)) = sumG tg x (gs.take k) + (if gs[k].1 = tg ∧ gs[k].2.1 = x then gs[k].2.2 else 0) := by
  rw [List.take_succ_eq_append_getElem hk, sumG_append, sumG, sumG]
  omega
theorem map_cons0 {α β : Type} (f : α → β) {l : List α} (h : 0 < l.length) : l.map f = f l[0] :: (l.drop 1).map f := by
  cases l with
  | nil => cases h
  | cons x l => rfl
end Go.Proofs.Ytbcekihjcgnhkaa
