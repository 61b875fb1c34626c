
/-
The causal buffer as plain data: what a state is after any calls. No program here.
-/
import Derived.Test.YtcddllaljgfjbaaDlP
namespace Go.Proofs.Ytcddllaljgfjbaa
set_option linter.unusedSimpArgs false
set_option linter.unusedVariables false
open Go.RowKit

def LeC (c d : List Int) : Prop := ∀ k : Nat, c.getD k 0 ≤ d.getD k 0
theorem LeC.refl (c : List Int) : LeC c c := fun _ => Int.le_refl _
theorem LeC.trans {a b c : List Int} (h : LeC a b) (k : LeC b c) : LeC a c := fun i => Int.le_trans (h i) (k i)
theorem LeC.anti {a b : List Int} (hl : a.length = b.length) (h : LeC a b) (k : LeC b a) : a = b := by
  apply List.ext_getElem hl
  intro i h1 h2
  have e1 := h i
  have e2 := k i
  rw [getD_i h1, getD_i h2] at e1 e2
  omega
theorem getD_out {c : List Int} {k : Nat} (h : c.length ≤ k) : c.getD k 0 = 0 := by
  rw [List.getD_eq_getElem?_getD, List.getElem?_eq_none h]; rfl
theorem validC_get {c : List Int} (h : validC c = true) (k : Nat) : 0 ≤ c.getD k 0 ∧ c.getD k 0 ≤ 1024 := by
  by_cases hk : k < c.length
  · rw [getD_i hk]
    exact (validC_iff.1 h).1 _ (List.getElem_mem hk)
  · rw [getD_out (by omega)]
    omega
theorem insideC_le {a b : List Int} (hl : a.length = b.length) : insideC a b = true ↔ LeC a b := by
  rw [insideC_iff]
  constructor
  · intro h k
    by_cases hk : k < a.length
    · exact h k hk
    · rw [getD_out (by omega), getD_out (by omega)]
      exact Int.le_refl _
  · intro h k _
    exact h k
/-- an event's name is in a clock -/
def InC (c : List Int) (e : Ev) : Prop := e.n ≤ c.getD e.r.toNat 0
theorem InC.mono {c d : List Int} {e : Ev} (h : InC c e) (k : LeC c d) : InC d e := Int.le_trans h (k _)
theorem hasC_inC {c : List Int} {e : Ev} (hv : validC c = true) (f : FE e) (hl : e.past.length = c.length) : hasC c (nameE e) = true ↔ InC c e := by
  have h0 := f.r0
  have h1 := f.r1
  have h2 := f.n0
  unfold hasC nameE InC
  rw [hv, decide_eq_true h0, decide_eq_true (by show e.r < (c.length : Int); omega), decide_eq_true (by show 1 ≤ e.n; omega)]
  simp
theorem hasC_no {c : List Int} {e : Ev} (hv : validC c = true) (f : FE e) (hl : e.past.length = c.length) : hasC c (nameE e) = false ↔ ¬ InC c e := by
  rw [← hasC_inC hv f hl, Bool.not_eq_true]
theorem readyE_iff {c : List Int} {e : Ev} (hv : validC c = true) (f : FE e) (hl : e.past.length = c.length) : readyE c e = true ↔ LeC e.past c ∧ ¬ InC c e := by
  unfold readyE
  rw [Bool.and_eq_true, Bool.not_eq_true', hasC_no hv f hl, insideC_le hl]
  exact And.comm
/-- the clock at a ready event's replica -/
theorem ready_at {c : List Int} {e : Ev} (f : FE e) (h1 : LeC e.past c) (h2 : ¬ InC c e) : c.getD e.r.toNat 0 = e.n - 1 := by
  have h3 := h1 e.r.toNat
  have h4 := f.n
  unfold InC at h2
  omega
theorem setD_get {c : List Int} {e : Ev} (f : FE e) (hl : e.past.length = c.length) (k : Nat) : (setD c e).getD k 0 = if k = e.r.toNat then e.n else c.getD k 0 := by
  have h0 := f.r0
  have h1 := f.r1
  unfold setD
  rw [List.getD_eq_getElem?_getD, List.getElem?_set]
  by_cases hk : e.r.toNat = k
  · rw [if_pos hk, if_pos (by omega), if_pos hk.symm]; rfl
  · rw [if_neg hk, if_neg (fun e => hk e.symm), List.getD_eq_getElem?_getD]
theorem setD_le {c : List Int} {e : Ev} (f : FE e) (hl : e.past.length = c.length) (h : ¬ InC c e) : LeC c (setD c e) := fun k => by
  rw [setD_get f hl]
  by_cases hk : k = e.r.toNat
  · rw [if_pos hk, hk]
    unfold InC at h
    omega
  · rw [if_neg hk]
    exact Int.le_refl _
theorem setD_in {c : List Int} {e : Ev} (f : FE e) (hl : e.past.length = c.length) : InC (setD c e) e := by
  unfold InC
  rw [setD_get f hl, if_pos rfl]
  exact Int.le_refl _
theorem setD_up {c X : List Int} {e : Ev} (f : FE e) (hl : e.past.length = c.length) (h : LeC c X) (k : InC X e) : LeC (setD c e) X := fun i => by
  rw [setD_get f hl]
  by_cases hi : i = e.r.toNat
  · rw [if_pos hi, hi]
    exact k
  · rw [if_neg hi]
    exact h i
/-- another event is not in the clock behind a delivery -/
theorem setD_other {c : List Int} {e x : Ev} (f : FE e) (hl : e.past.length = c.length) (fx : FE x) (hr : LeC e.past c) (h : ¬ InC c e) (hx : ¬ InC c x) (hn : nameE x ≠ nameE e) : ¬ InC (setD c e) x := by
  have h1 := ready_at f hr h
  have h2 := f.r0
  have h3 := fx.r0
  unfold InC at hx ⊢
  rw [setD_get f hl]
  by_cases hk : x.r.toNat = e.r.toNat
  · rw [if_pos hk]
    rw [hk, h1] at hx
    have h4 : x.r = e.r := by omega
    intro h5
    exact hn (by unfold nameE; rw [h4, show x.n = e.n by omega])
  · rw [if_neg hk]
    exact hx
/-- one event behind the other, each behind its past -/
def ChainE (n : Nat) : List Int → List Ev → List Int → Prop
  | c, [], d => c = d
  | c, e :: l, d => (FE e ∧ e.past.length = n ∧ LeC e.past c ∧ ¬ InC c e) ∧ ChainE n (setD c e) l d
theorem ChainE.append {n : Nat} : ∀ {c : List Int} {l : List Ev} {d : List Int} {m : List Ev} {f : List Int}, ChainE n c l d → ChainE n d m f → ChainE n c (l ++ m) f
  | c, [], d, m, f, h, k => by have h' : c = d := h; subst h'; exact k
  | c, e :: l, d, m, f, h, k => ⟨h.1, h.2.append k⟩
/-- what is delivered as long as something is ready -/
structure StlR (c : List Int) (H : List Ev) (R : List Int × List Ev × List Ev) : Prop where
  ge : LeC c R.1
  least : ∀ X, LeC c X → (∀ e ∈ H, LeC e.past X → InC X e) → LeC R.1 X
  held : ∀ e ∈ R.2.1, ¬ InC R.1 e ∧ ¬ LeC e.past R.1
  sub : ∀ e ∈ R.2.1, e ∈ H
  all : ∀ e ∈ H, e ∈ R.2.1 ∨ InC R.1 e
  out : ∀ e ∈ R.2.2, e ∈ H
  chain : ChainE c.length c R.2.2 R.1
theorem settle_spec : ∀ (k : Nat) {c : List Int} {H : List Ev}, BfOk c H → H.length ≤ k → (∀ e ∈ H, ¬ InC c e) → StlR c H (settleE k c H)
  | 0, c, H, h, hk, hn => by
    have : H = [] := List.eq_nil_of_length_eq_zero (by omega)
    subst this
    exact ⟨LeC.refl _, fun X hX _ => hX, by simp [settleE], by simp [settleE], by simp, by simp [settleE], rfl⟩
  | k + 1, c, H, h, hk, hn => by
    cases hf : H.find? (readyE c) with
    | none =>
      rw [settleE_none hf]
      refine ⟨LeC.refl _, fun X hX _ => hX, fun e he => ⟨hn e he, fun hl => ?_⟩, fun e he => he, fun e he => .inl he, by simp, rfl⟩
      have h1 := List.find?_eq_none.1 hf e he
      exact h1 ((readyE_iff h.clk (formedE_fe (h.ev e he).1) (h.ev e he).2).2 ⟨hl, hn e he⟩)
    | some e =>
      have he := List.mem_of_find?_eq_some hf
      have hr := List.find?_some hf
      have f := formedE_fe (h.ev e he).1
      have hl := (h.ev e he).2
      obtain ⟨r1, r2⟩ := (readyE_iff h.clk f hl).1 hr
      have hlt := dropE_len he
      have ih := settle_spec k (h.drop f) (by omega) fun x hx => by
        obtain ⟨hx1, hx2⟩ := List.mem_filter.1 hx
        exact setD_other f hl (formedE_fe (h.ev x hx1).1) r1 r2 (hn x hx1) (by simpa using hx2)
      rw [settleE_some hf]
      refine ⟨(setD_le f hl r2).trans ih.ge, fun X hX hc => ?_, ih.held, fun x hx => (List.mem_filter.1 (ih.sub x hx)).1, fun x hx => ?_, fun x hx => ?_, ?_⟩
      · exact ih.least X (setD_up f hl hX (hc e he (r1.trans hX))) fun x hx => hc x (List.mem_filter.1 hx).1
      · by_cases hxe : nameE x = nameE e
        · right
          have : x = e := h.names.eq_of x hx e he hxe
          subst this
          exact (setD_in f hl).mono ih.ge
        · exact ih.all x (List.mem_filter.2 ⟨hx, by simpa using hxe⟩)
      · rcases List.mem_cons.1 hx with rfl | hx
        · exact he
        · exact (List.mem_filter.1 (ih.out x hx)).1
      · refine ⟨⟨f, hl, r1, r2⟩, ?_⟩
        have := ih.chain
        rw [setD_len] at this
        exact this
/-- a state behind some arrivals, over a clock that was skipped -/
structure Arr (c0 : List Int) (S : Ev → Prop) (c : List Int) (H : List Ev) : Prop where
  ok : BfOk c H
  ge : LeC c0 c
  least : ∀ X, LeC c0 X → (∀ e, S e → LeC e.past X → InC X e) → LeC c X
  sub : ∀ e ∈ H, S e
  all : ∀ e, S e → e ∈ H ∨ InC c e
  held : ∀ e ∈ H, ¬ InC c e ∧ ¬ LeC e.past c
theorem Arr.closed {c0 c : List Int} {S : Ev → Prop} {H : List Ev} (h : Arr c0 S c H) : ∀ e, S e → LeC e.past c → InC c e := fun e he hl => by
  rcases h.all e he with h1 | h1
  · exact absurd hl (h.held e h1).2
  · exact h1
/-- a state hangs on what has arrived alone -/
theorem Arr.same {c0 c c' : List Int} {S S' : Ev → Prop} {H H' : List Ev} (h : Arr c0 S c H) (k : Arr c0 S' c' H') (hl : c.length = c'.length) (hS : ∀ e, S e ↔ S' e) : c = c' ∧ H = H' := by
  have hc : c = c' := LeC.anti hl (h.least c' k.ge fun e he => k.closed e ((hS e).1 he)) (k.least c h.ge fun e he => h.closed e ((hS e).2 he))
  subst hc
  refine ⟨rfl, sortE_ext h.ok.sort k.ok.sort fun e => ⟨fun he => ?_, fun he => ?_⟩⟩
  · rcases k.all e ((hS e).1 (h.sub e he)) with h1 | h1
    · exact h1
    · exact absurd h1 (h.held e he).1
  · rcases h.all e ((hS e).2 (k.sub e he)) with h1 | h1
    · exact h1
    · exact absurd h1 (k.held e he).1
theorem Arr.start {c : List Int} (h : validC c = true) : Arr c (fun _ => False) c [] :=
  ⟨⟨h, List.Pairwise.nil, by unfold NamesU; simp, by simp, by simp⟩, LeC.refl _, fun X hX _ => hX, by simp, fun e he => he.elim, by simp⟩
theorem BfOk.insert {c : List Int} {H : List Ev} {e : Ev} (h : BfOk c H) (hf : formedE e = true) (hl : e.past.length = c.length) (hn : ∀ x ∈ H, nameE x ≠ nameE e) (hm : H.length < 256) : BfOk c (insE e H) where
  clk := h.clk
  sort := insE_sort h.sort fun x hx hxe => hn x hx hxe.symm
  names := by
    refine NamesU.perm (l := e :: H) ?_ (insE_perm e H).symm
    unfold NamesU
    rw [List.map_cons, List.nodup_cons]
    refine ⟨fun hm => ?_, h.names⟩
    obtain ⟨x, hx, hxe⟩ := List.mem_map.1 hm
    exact hn x hx hxe
  ev := fun x hx => by
    rcases insE_mem.1 hx with rfl | hx
    · exact ⟨hf, hl⟩
    · exact h.ev x hx
  len := by have := (insE_perm e H).length_eq; rw [List.length_cons] at this; omega
theorem any_name {H : List Ev} {e : Ev} (h : H.any (fun x => decide (nameE x = nameE e)) = false) : ∀ x ∈ H, nameE x ≠ nameE e := fun x hx => by
  have := List.any_eq_false.1 h x hx
  simpa using this
/-- an arrival -/
theorem Arr.add {c0 c : List Int} {S : Ev → Prop} {H : List Ev} (h : Arr c0 S c H) (hU : ∀ x e, S x → S e → nameE x = nameE e → x = e) {e : Ev} (hf : formedE e = true) (hl : e.past.length = c.length) (hU2 : ∀ x, S x → nameE x = nameE e → x = e) (hm : H.length < 256) :
    Arr c0 (fun x => S x ∨ x = e) (addE (c, H) e).1.1 (addE (c, H) e).1.2 ∧ (addE (c, H) e).1.1.length = c.length ∧
      ((addE (c, H) e).2.2 = 0 ∨ (addE (c, H) e).2.2 = 6 ∧ (S e ∨ InC c e)) ∧ ChainE c.length c (addE (c, H) e).2.1 (addE (c, H) e).1.1 ∧ (∀ x ∈ (addE (c, H) e).2.1, S x ∨ x = e) := by
  have f := formedE_fe hf
  unfold addE
  rw [if_neg (by simp [hf, hl])]
  by_cases h1 : H.any (fun x => decide (nameE x = nameE e)) || hasC c (nameE e)
  · rw [if_pos h1]
    have hin : (S e ∧ e ∈ H) ∨ InC c e := by
      rw [Bool.or_eq_true] at h1
      rcases h1 with h1 | h1
      · obtain ⟨x, hx, hxe⟩ := List.any_eq_true.1 h1
        have : x = e := hU2 x (h.sub x hx) (by simpa using hxe)
        subst this
        exact .inl ⟨h.sub x hx, hx⟩
      · exact .inr ((hasC_inC h.ok.clk f hl).1 h1)
    have hin' : e ∈ H ∨ InC c e := hin.imp (·.2) id
    refine ⟨⟨h.ok, h.ge, fun X hX hc => h.least X hX fun x hx => hc x (.inl hx), fun x hx => .inl (h.sub x hx), fun x hx => ?_, h.held⟩, rfl, .inr ⟨rfl, hin.imp (·.1) id⟩, rfl, by simp⟩
    rcases hx with hx | rfl
    · exact h.all x hx
    · exact hin'
  · rw [if_neg h1]
    simp only [Bool.not_eq_true] at h1
    rw [Bool.or_eq_false_iff] at h1
    have hne := any_name h1.1
    have hni := (hasC_no h.ok.clk f hl).1 h1.2
    by_cases h2 : readyE c e = true
    · rw [if_pos h2]
      obtain ⟨r1, -⟩ := (readyE_iff h.ok.clk f hl).1 h2
      have hok : BfOk (setD c e) H := ⟨set_valid h.ok.clk f, h.ok.sort, h.ok.names, fun x hx => by rw [setD_len]; exact h.ok.ev x hx, h.ok.len⟩
      have st := settle_spec H.length hok (Nat.le_refl _) fun x hx => setD_other f hl (formedE_fe (h.ok.ev x hx).1) r1 hni (h.held x hx).1 (hne x hx)
      obtain ⟨ok2, ho, hlen, hsub⟩ := hok.settle H.length
      have hle : LeC c (settleE H.length (setD c e) H).1 := (setD_le f hl hni).trans st.ge
      refine ⟨⟨ok2, h.ge.trans hle, fun X hX hc => ?_, fun x hx => .inl (h.sub x (st.sub x hx)), fun x hx => ?_, st.held⟩, by rw [hlen, setD_len], .inl rfl, ?_, fun x hx => ?_⟩
      · have hcX : LeC c X := h.least X hX fun x hx => hc x (.inl hx)
        exact st.least X (setD_up f hl hcX (hc e (.inr rfl) (r1.trans hcX))) fun x hx => hc x (.inl (h.sub x hx))
      · rcases hx with hx | rfl
        · rcases h.all x hx with h3 | h3
          · exact st.all x h3
          · exact .inr (h3.mono hle)
        · exact .inr ((setD_in f hl).mono st.ge)
      · have := st.chain
        rw [setD_len] at this
        exact ⟨⟨f, hl, r1, hni⟩, this⟩
      · rcases List.mem_cons.1 hx with rfl | hx
        · exact .inr rfl
        · exact .inl (h.sub x (st.out x hx))
    · rw [if_neg h2, if_neg (show ¬ 256 ≤ H.length by omega)]
      have hnl : ¬ LeC e.past c := fun hle => h2 ((readyE_iff h.ok.clk f hl).2 ⟨hle, hni⟩)
      refine ⟨⟨h.ok.insert hf hl hne hm, h.ge, fun X hX hc => h.least X hX fun x hx => hc x (.inl hx), fun x hx => ?_, fun x hx => ?_, fun x hx => ?_⟩, rfl, .inl rfl, rfl, by simp⟩
      · rcases insE_mem.1 hx with rfl | hx
        · exact .inr rfl
        · exact .inl (h.sub x hx)
      · rcases hx with hx | rfl
        · exact (h.all x hx).imp (fun h => insE_mem.2 (.inr h)) id
        · exact .inl (insE_mem.2 (.inl rfl))
      · rcases insE_mem.1 hx with rfl | hx
        · exact ⟨hni, hnl⟩
        · exact h.held x hx
theorem joinZ_get {a b : List Int} (hl : b.length = a.length) (k : Nat) : (joinZ a b).getD k 0 = max (a.getD k 0) (b.getD k 0) := by
  unfold joinZ
  rw [List.getD_eq_getElem?_getD, List.getElem?_zipWith]
  by_cases hk : k < a.length
  · rw [List.getElem?_eq_getElem hk, List.getElem?_eq_getElem (by omega), getD_i hk, getD_i (by omega)]; rfl
  · rw [List.getElem?_eq_none (by omega), getD_out (by omega), getD_out (by omega)]; rfl
theorem joinC_ok {a b : List Int} (ha : validC a = true) (hb : validC b = true) (hl : b.length = a.length) : joinC a b = joinZ a b ∧ (joinC a b).length = a.length ∧ validC (joinC a b) = true ∧ (∀ k, (joinC a b).getD k 0 = max (a.getD k 0) (b.getD k 0)) := by
  have h1 : joinC a b = joinZ a b := by unfold joinC; rw [if_pos (alike2_iff.2 ⟨ha, hb, hl⟩)]
  have h2 : (joinZ a b).length = a.length := by unfold joinZ; rw [List.length_zipWith]; omega
  refine ⟨h1, by rw [h1, h2], ?_, fun k => by rw [h1]; exact joinZ_get hl k⟩
  rw [h1, validC_iff, h2]
  refine ⟨fun x hx => ?_, (validC_iff.1 ha).2⟩
  obtain ⟨k, hk, rfl⟩ := List.mem_iff_getElem.1 hx
  have h3 := joinZ_get hl k
  rw [getD_i hk] at h3
  have h4 := validC_get ha k
  have h5 := validC_get hb k
  omega
/-- a clock is skipped -/
theorem Arr.skip {c0 c d : List Int} {S : Ev → Prop} {H : List Ev} (h : Arr c0 S c H) (h0 : c0.length = c.length) (hv0 : validC c0 = true) (hd : validC d = true) (hl : d.length = c.length) :
    Arr (joinC c0 d) S (skipE (c, H) d).1.1 (skipE (c, H) d).1.2 ∧ (skipE (c, H) d).1.1.length = c.length ∧ (skipE (c, H) d).2.2 = 0 ∧ ChainE c.length (joinC c d) (skipE (c, H) d).2.1 (skipE (c, H) d).1.1 ∧ (∀ x ∈ (skipE (c, H) d).2.1, S x) := by
  obtain ⟨-, j2, j3, j4⟩ := joinC_ok h.ok.clk hd hl
  obtain ⟨-, i2, i3, i4⟩ := joinC_ok hv0 hd (hl.trans h0.symm)
  have hcj : LeC c (joinC c d) := fun k => by rw [j4]; omega
  unfold skipE
  rw [if_neg (by simp [hd, hl])]
  generalize hj : joinC c d = cj at *
  have hok : BfOk cj (keepE cj H) := ⟨j3, h.ok.sort.filter _, h.ok.names.sub List.filter_sublist, fun x hx => by rw [j2]; exact h.ok.ev x (List.mem_filter.1 hx).1, Nat.le_trans (List.length_filter_le _ _) h.ok.len⟩
  have hkeep : ∀ x, x ∈ keepE cj H ↔ x ∈ H ∧ ¬ InC cj x := fun x => by
    unfold keepE
    rw [List.mem_filter]
    constructor
    · rintro ⟨h1, h2⟩
      exact ⟨h1, (hasC_no j3 (formedE_fe (h.ok.ev x h1).1) (by rw [j2]; exact (h.ok.ev x h1).2)).1 (by simpa using h2)⟩
    · rintro ⟨h1, h2⟩
      exact ⟨h1, by simpa using (hasC_no j3 (formedE_fe (h.ok.ev x h1).1) (by rw [j2]; exact (h.ok.ev x h1).2)).2 h2⟩
  have st := settle_spec (keepE cj H).length hok (Nat.le_refl _) fun x hx => ((hkeep x).1 hx).2
  obtain ⟨ok2, ho, hlen, hsub⟩ := hok.settle (keepE cj H).length
  refine ⟨⟨ok2, ?_, fun X hX hc => ?_, fun x hx => h.sub x ((hkeep x).1 (st.sub x hx)).1, fun x hx => ?_, st.held⟩, by rw [hlen, j2], rfl, ?_, fun x hx => h.sub x ((hkeep x).1 (st.out x hx)).1⟩
  · refine LeC.trans (fun k => ?_) st.ge
    rw [i4, j4]
    have := h.ge k
    omega
  · have h0X : LeC c0 X := LeC.trans (fun k => by rw [i4]; omega) hX
    have hcX : LeC c X := h.least X h0X hc
    refine st.least X (fun k => ?_) fun x hx => hc x (h.sub x ((hkeep x).1 hx).1)
    have h1 := hX k
    have h2 := hcX k
    rw [i4] at h1
    rw [j4]
    omega
  · rcases h.all x hx with h1 | h1
    · by_cases h2 : InC cj x
      · exact .inr (h2.mono st.ge)
      · exact st.all x ((hkeep x).2 ⟨h1, h2⟩)
    · exact .inr ((h1.mono hcj).mono st.ge)
  · have := st.chain
    rw [j2] at this
    exact this
end Go.Proofs.Ytcddllaljgfjbaa
