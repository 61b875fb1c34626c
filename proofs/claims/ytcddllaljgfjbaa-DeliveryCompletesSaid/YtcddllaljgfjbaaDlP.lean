
/-
The causal buffer as plain data: what is delivered, held back and missing. No program here.
-/
import Derived.Test.YtcddllaljgfjbaaEvF
import Derived.Test.YtcddllaljgfjbaaEvG
namespace Go.Proofs.Ytcddllaljgfjbaa
set_option linter.unusedSimpArgs false
set_option linter.unusedVariables false
open Go.RowKit

/-! the order -/
theorem ltE_irrefl (a : Ev) : ltE a a = false := by rw [ltE_no]; omega
theorem ltE_trans {a b c : Ev} (h : ltE a b = true) (k : ltE b c = true) : ltE a c = true := by rw [ltE_iff] at *; omega
theorem ltE_asymm {a b : Ev} (h : ltE a b = true) : ltE b a = false := by rw [ltE_iff] at h; rw [ltE_no]; omega
theorem ltE_total {a b : Ev} (h : nameE a ≠ nameE b) : ltE a b = true ∨ ltE b a = true := by
  rw [ltE_iff, ltE_iff]
  have : ¬ (a.r = b.r ∧ a.n = b.n) := fun e => h (by unfold nameE; rw [e.1, e.2])
  omega
/-- strictly increasing -/
def SortE (l : List Ev) : Prop := l.Pairwise fun a b => ltE a b = true
/-- different names -/
def NamesU (l : List Ev) : Prop := (l.map nameE).Nodup
theorem sortE_ext : ∀ {l m : List Ev}, SortE l → SortE m → (∀ x, x ∈ l ↔ x ∈ m) → l = m
  | [], [], _, _, _ => rfl
  | [], y :: m, _, _, h => absurd ((h y).2 (by simp)) (by simp)
  | x :: l, [], _, _, h => absurd ((h x).1 (by simp)) (by simp)
  | x :: l, y :: m, hl, hm, h => by
    obtain ⟨l1, l2⟩ := List.pairwise_cons.1 hl
    obtain ⟨m1, m2⟩ := List.pairwise_cons.1 hm
    have hxy : x = y := by
      rcases List.mem_cons.1 ((h x).1 (by simp)) with e | hx
      · exact e
      rcases List.mem_cons.1 ((h y).2 (by simp)) with e | hy
      · exact e.symm
      have h1 := l1 y hy
      have h2 := m1 x hx
      rw [ltE_asymm h1] at h2
      cases h2
    subst hxy
    congr 1
    refine sortE_ext l2 m2 fun z => ⟨fun hz => ?_, fun hz => ?_⟩
    · rcases List.mem_cons.1 ((h z).1 (by simp [hz])) with rfl | h1
      · have := l1 z hz
        rw [ltE_irrefl] at this
        cases this
      · exact h1
    · rcases List.mem_cons.1 ((h z).2 (by simp [hz])) with rfl | h1
      · have := m1 z hz
        rw [ltE_irrefl] at this
        cases this
      · exact h1
theorem SortE.nodup {l : List Ev} (h : SortE l) : l.Nodup := h.imp fun {a b} hab e => by rw [e, ltE_irrefl] at hab; cases hab
theorem SortE.total : ∀ {l : List Ev}, SortE l → ∀ a ∈ l, ∀ b ∈ l, a = b ∨ ltE a b = true ∨ ltE b a = true
  | [], _, a, ha, _, _ => by simp at ha
  | x :: l, h, a, ha, b, hb => by
    obtain ⟨h1, h2⟩ := List.pairwise_cons.1 h
    rcases List.mem_cons.1 ha with e1 | ha1
    · rcases List.mem_cons.1 hb with e2 | hb1
      · exact .inl (e1.trans e2.symm)
      · exact .inr (.inl (e1 ▸ h1 b hb1))
    · rcases List.mem_cons.1 hb with e2 | hb1
      · exact .inr (.inr (e2 ▸ h1 a ha1))
      · exact SortE.total h2 a ha1 b hb1
theorem pairwise_and_nodup {l : List Ev} {R : Ev → Ev → Prop} (h : l.Pairwise R) (n : l.Nodup) : l.Pairwise fun a b => R a b ∧ a ≠ b := by
  rw [List.pairwise_and_iff]
  exact ⟨h, n⟩
/-- whatever is in order, and has the elements of a strictly increasing list, is that list -/
theorem sortE_of {m H : List Ev} (hm : m.Pairwise fun a b => ltE b a = false) (hp : m.Perm H) (hs : SortE H) : m = H := by
  refine sortE_ext ?_ hs fun x => hp.mem_iff
  have hn : m.Nodup := hp.nodup_iff.2 hs.nodup
  refine (List.Pairwise.imp_of_mem ?_ (pairwise_and_nodup hm hn))
  intro a b ha hb hab
  rcases hs.total a (hp.mem_iff.1 ha) b (hp.mem_iff.1 hb) with e | h | h
  · exact absurd e hab.2
  · exact h
  · rw [hab.1] at h; cases h
def insE (x : Ev) : List Ev → List Ev
  | [] => [x]
  | y :: l => if ltE x y then x :: y :: l else y :: insE x l
theorem insE_perm (x : Ev) : ∀ l, (insE x l).Perm (x :: l)
  | [] => List.Perm.refl _
  | y :: l => by
    unfold insE
    split
    · exact List.Perm.refl _
    · exact ((insE_perm x l).cons y).trans (List.Perm.swap x y l)
theorem insE_mem {x y : Ev} {l : List Ev} : y ∈ insE x l ↔ y = x ∨ y ∈ l := by rw [(insE_perm x l).mem_iff, List.mem_cons]
theorem insE_sort {x : Ev} : ∀ {l : List Ev}, SortE l → (∀ y ∈ l, nameE x ≠ nameE y) → SortE (insE x l)
  | [], _, _ => by simp [insE, SortE]
  | y :: l, h, hn => by
    obtain ⟨h1, h2⟩ := List.pairwise_cons.1 h
    unfold insE
    split
    · rename_i hx
      refine List.pairwise_cons.2 ⟨fun z hz => ?_, h⟩
      rcases List.mem_cons.1 hz with rfl | hz
      · exact hx
      · exact ltE_trans hx (h1 z hz)
    · rename_i hx
      have hyx : ltE y x = true := by
        rcases ltE_total (hn y (by simp)) with e | e
        · exact absurd e hx
        · exact e
      refine List.pairwise_cons.2 ⟨fun z hz => ?_, insE_sort h2 fun z hz => hn z (by simp [hz])⟩
      rcases insE_mem.1 hz with rfl | hz
      · exact hyx
      · exact h1 z hz
def ordE (l : List Ev) : List Ev := l.foldl (fun o x => insE x o) []
theorem ord_go_perm : ∀ (l o : List Ev), (l.foldl (fun o x => insE x o) o).Perm (o ++ l)
  | [], o => by simp
  | x :: l, o => by
    rw [List.foldl_cons]
    refine (ord_go_perm l _).trans ?_
    refine ((insE_perm x o).append_right l).trans ?_
    rw [List.cons_append]
    exact List.perm_middle.symm
theorem ordE_perm (l : List Ev) : (ordE l).Perm l := by
  have := ord_go_perm l []
  rw [List.nil_append] at this
  exact this
theorem ord_go_sort : ∀ (l o : List Ev), SortE o → NamesU (o ++ l) → SortE (l.foldl (fun o x => insE x o) o)
  | [], o, h, _ => h
  | x :: l, o, h, hn => by
    rw [List.foldl_cons]
    have hn' := hn
    unfold NamesU at hn
    rw [List.map_append, List.map_cons, List.nodup_append] at hn
    refine ord_go_sort l _ (insE_sort h fun y hy e => hn.2.2 (nameE y) (List.mem_map.2 ⟨y, hy, rfl⟩) (nameE x) (by simp) e.symm) ?_
    unfold NamesU at hn' ⊢
    refine ((((insE_perm x o).append_right l).map nameE).nodup_iff).2 ?_
    rw [List.cons_append]
    exact ((List.perm_middle (a := x) (l₁ := o) (l₂ := l)).map nameE).nodup_iff.1 hn'
theorem ordE_sort {l : List Ev} (h : NamesU l) : SortE (ordE l) := ord_go_sort l [] List.Pairwise.nil (by simpa using h)
theorem NamesU.perm {l m : List Ev} (h : NamesU l) (p : l.Perm m) : NamesU m := ((p.map nameE).nodup_iff).1 h
theorem NamesU.sub {l m : List Ev} (h : NamesU l) (p : m.Sublist l) : NamesU m := List.Nodup.sublist (p.map nameE) h
theorem NamesU.eq_of : ∀ {l : List Ev}, NamesU l → ∀ a ∈ l, ∀ b ∈ l, nameE a = nameE b → a = b
  | [], _, a, ha, _, _, _ => by simp at ha
  | x :: l, h, a, ha, b, hb, e => by
    unfold NamesU at h
    rw [List.map_cons, List.nodup_cons] at h
    rcases List.mem_cons.1 ha with e1 | ha1
    · rcases List.mem_cons.1 hb with e2 | hb1
      · exact e1.trans e2.symm
      · exact absurd (List.mem_map.2 ⟨b, hb1, e.symm.trans (by rw [e1])⟩) h.1
    · rcases List.mem_cons.1 hb with e2 | hb1
      · exact absurd (List.mem_map.2 ⟨a, ha1, e.trans (by rw [e2])⟩) h.1
      · exact NamesU.eq_of (l := l) h.2 a ha1 b hb1 e

/-! formed events -/
structure FE (e : Ev) : Prop where
  past : validC e.past = true
  r0 : 0 ≤ e.r
  r1 : e.r < e.past.length
  n : e.n = e.past.getD e.r.toNat 0 + 1
  n1 : e.n ≤ 1024
theorem formedE_fe {e : Ev} (h : formedE e = true) : FE e := by
  unfold formedE headB btw at h
  simp only [Bool.and_eq_true, decide_eq_true_eq] at h
  exact ⟨h.1.1, h.1.2.1.1, by have := h.1.2.1.2; omega, h.1.2.2.1, h.1.2.2.2.1⟩
theorem FE.n0 {e : Ev} (h : FE e) : 1 ≤ e.n := by
  have h1 := h.n
  have hk : e.r.toNat < e.past.length := by have := h.r0; have := h.r1; omega
  have := (validC_iff.1 h.past).1 _ (List.getElem_mem hk)
  rw [getD_i hk] at h1
  omega

/-! the buffer -/
def readyE (c : List Int) (e : Ev) : Bool := !hasC c (nameE e) && insideC e.past c
def setD (c : List Int) (e : Ev) : List Int := c.set e.r.toNat e.n
def dropE (e : Ev) (H : List Ev) : List Ev := H.filter fun x => !decide (nameE x = nameE e)
/-- what is delivered as long as something is ready: the clock, what is held back, what is delivered -/
def settleE : Nat → List Int → List Ev → List Int × List Ev × List Ev
  | 0, c, H => (c, H, [])
  | k + 1, c, H => match H.find? (readyE c) with
    | none => (c, H, [])
    | some e => ((settleE k (setD c e) (dropE e H)).1, (settleE k (setD c e) (dropE e H)).2.1, e :: (settleE k (setD c e) (dropE e H)).2.2)
theorem settleE_none {c : List Int} {H : List Ev} (h : H.find? (readyE c) = none) (k : Nat) : settleE k c H = (c, H, []) := by
  cases k with
  | zero => rfl
  | succ k => unfold settleE; rw [h]
theorem settleE_some {c : List Int} {H : List Ev} {e : Ev} (h : H.find? (readyE c) = some e) (k : Nat) : settleE (k + 1) c H = ((settleE k (setD c e) (dropE e H)).1, (settleE k (setD c e) (dropE e H)).2.1, e :: (settleE k (setD c e) (dropE e H)).2.2) := by
  rw [settleE, h]
theorem dropE_len {e : Ev} {H : List Ev} (h : e ∈ H) : (dropE e H).length < H.length := by
  unfold dropE
  rw [← List.countP_eq_length_filter]
  rcases Nat.lt_or_ge (List.countP (fun x => !decide (nameE x = nameE e)) H) H.length with h1 | h1
  · exact h1
  · have h2 : List.countP (fun x => !decide (nameE x = nameE e)) H = H.length := Nat.le_antisymm (List.countP_le_length) h1
    rw [List.countP_eq_length] at h2
    have := h2 e h
    simp at this
/-- the clock and what is held back -/
abbrev BfS := List Int × List Ev
def addE (s : BfS) (e : Ev) : BfS × List Ev × Int :=
  if !formedE e || !decide (e.past.length = s.1.length) then (s, [], 1)
  else if s.2.any (fun x => decide (nameE x = nameE e)) || hasC s.1 (nameE e) then (s, [], 6)
  else if readyE s.1 e then (((settleE s.2.length (setD s.1 e) s.2).1, (settleE s.2.length (setD s.1 e) s.2).2.1), e :: (settleE s.2.length (setD s.1 e) s.2).2.2, 0)
  else if 256 ≤ s.2.length then (s, [], 8)
  else ((s.1, insE e s.2), [], 0)
def keepE (c : List Int) (H : List Ev) : List Ev := H.filter fun x => !hasC c (nameE x)
def skipE (s : BfS) (d : List Int) : BfS × List Ev × Int :=
  if !validC d || !decide (d.length = s.1.length) then (s, [], 1)
  else (((settleE (keepE (joinC s.1 d) s.2).length (joinC s.1 d) (keepE (joinC s.1 d) s.2)).1, (settleE (keepE (joinC s.1 d) s.2).length (joinC s.1 d) (keepE (joinC s.1 d) s.2)).2.1), (settleE (keepE (joinC s.1 d) s.2).length (joinC s.1 d) (keepE (joinC s.1 d) s.2)).2.2, 0)
/-- all that is in the pasts, and the clock -/
def allC (c : List Int) (H : List Ev) : List Int := H.foldl (fun x e => joinC x e.past) c
def pushS (out : List Sn) (r n : Int) : List Sn :=
  match out.getLast? with
  | some s => if s.1 = r ∧ s.2.2 = n - 1 then out.dropLast ++ [(r, s.2.1, n)] else out ++ [(r, n, n)]
  | none => [(r, n, n)]
def missN (H : List Ev) (r : Int) (out : List Sn) (n : Int) : List Sn := if H.any (fun x => decide (nameE x = (r, n))) then out else pushS out r n
def missRow (c t : List Int) (H : List Ev) (out : List Sn) (r : Nat) : List Sn := ((List.range (t.getD r 0 - c.getD r 0).toNat).map fun i : Nat => c.getD r 0 + 1 + (i : Int)).foldl (missN H (r : Int)) out
def missE (s : BfS) : List Sn := (List.range s.1.length).foldl (missRow s.1 (allC s.1 s.2) s.2) []
/-- a state of a buffer -/
structure BfOk (c : List Int) (H : List Ev) : Prop where
  clk : validC c = true
  sort : SortE H
  names : NamesU H
  ev : ∀ e ∈ H, formedE e = true ∧ e.past.length = c.length
  len : H.length ≤ 256
theorem set_valid {c : List Int} {e : Ev} (h : validC c = true) (f : FE e) : validC (setD c e) = true := by
  rw [validC_iff] at h ⊢
  unfold setD
  refine ⟨fun x hx => ?_, by rw [List.length_set]; exact h.2⟩
  rcases List.mem_or_eq_of_mem_set hx with hx | rfl
  · exact h.1 x hx
  · have := f.n0; have := f.n1; omega
theorem setD_len (c : List Int) (e : Ev) : (setD c e).length = c.length := by unfold setD; rw [List.length_set]
theorem BfOk.drop {c : List Int} {H : List Ev} {e : Ev} (h : BfOk c H) (f : FE e) : BfOk (setD c e) (dropE e H) where
  clk := set_valid h.clk f
  sort := h.sort.filter _
  names := h.names.sub List.filter_sublist
  ev := fun x hx => by rw [setD_len]; exact h.ev x (List.mem_filter.1 hx).1
  len := Nat.le_trans (List.length_filter_le _ _) h.len
theorem BfOk.settle : ∀ (k : Nat) {c : List Int} {H : List Ev}, BfOk c H → BfOk (settleE k c H).1 (settleE k c H).2.1 ∧ (∀ e ∈ (settleE k c H).2.2, e ∈ H) ∧ (settleE k c H).1.length = c.length ∧ (settleE k c H).2.1.Sublist H
  | 0, c, H, h => ⟨h, by simp [settleE], rfl, List.Sublist.refl _⟩
  | k + 1, c, H, h => by
    cases hf : H.find? (readyE c) with
    | none => rw [settleE_none hf]; exact ⟨h, by simp, rfl, List.Sublist.refl _⟩
    | some e =>
      have he := List.mem_of_find?_eq_some hf
      obtain ⟨h1, h2, h3, h4⟩ := BfOk.settle k (h.drop (formedE_fe (h.ev e he).1))
      rw [settleE_some hf]
      refine ⟨h1, fun x hx => ?_, by rw [h3, setD_len], h4.trans List.filter_sublist⟩
      rcases List.mem_cons.1 hx with rfl | hx
      · exact he
      · exact (List.mem_filter.1 (h2 x hx)).1
end Go.Proofs.Ytcddllaljgfjbaa
