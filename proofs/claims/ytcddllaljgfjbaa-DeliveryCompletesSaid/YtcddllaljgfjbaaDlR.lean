
/-
Closed lists of events, and what a buffer delivers of them. No program here.
-/
import Derived.Test.YtcddllaljgfjbaaDlQ
namespace Go.Proofs.Ytcddllaljgfjbaa
set_option linter.unusedSimpArgs false
set_option linter.unusedVariables false
open Go.RowKit

/-- a closed set of events -/
structure ClosedP (l : List Ev) : Prop where
  len : l.length ≤ 1024
  names : NamesU l
  fe : ∀ e ∈ l, formedE e = true
  width : ∀ e ∈ l, ∀ x ∈ l, e.past.length = x.past.length
  past : ∀ e ∈ l, ∀ r : Nat, r < e.past.length → ∀ i : Int, 1 ≤ i → i ≤ e.past.getD r 0 → ∃ x ∈ l, nameE x = ((r : Int), i) ∧ LeC x.past e.past ∧ x.t < e.t
theorem ChainE.le {n : Nat} : ∀ {c : List Int} {l : List Ev} {d : List Int}, c.length = n → ChainE n c l d → LeC c d ∧ d.length = n
  | c, [], d, hc, h => by have h' : c = d := h; subst h'; exact ⟨LeC.refl _, hc⟩
  | c, e :: l, d, hc, h => by
    obtain ⟨⟨f, hl, r1, r2⟩, h2⟩ := h
    obtain ⟨h3, h4⟩ := h2.le (by rw [setD_len]; exact hc)
    exact ⟨(setD_le f (hl.trans hc.symm) r2).trans h3, h4⟩
structure ChainP (n : Nat) (c : List Int) (l : List Ev) (d : List Int) : Prop where
  fe : ∀ e ∈ l, FE e ∧ e.past.length = n
  out : ∀ e ∈ l, ¬ InC c e
  inn : ∀ e ∈ l, InC d e
  names : NamesU l
  all : ∀ (r : Nat) (i : Int), r < n → c.getD r 0 < i → i ≤ d.getD r 0 → ∃ x ∈ l, nameE x = ((r : Int), i)
theorem ChainE.props {n : Nat} : ∀ {c : List Int} {l : List Ev} {d : List Int}, c.length = n → ChainE n c l d → ChainP n c l d
  | c, [], d, hc, h => by
    have h' : c = d := h
    subst h'
    exact ⟨by simp, by simp, by simp, by simp [NamesU], fun r i _ h1 h2 => by omega⟩
  | c, e :: l, d, hc, h => by
    obtain ⟨⟨f, hl, r1, r2⟩, h2⟩ := h
    have hlc := hl.trans hc.symm
    have P := h2.props (by rw [setD_len]; exact hc)
    have hle := setD_le f hlc r2
    have hdl := (h2.le (by rw [setD_len]; exact hc)).1
    refine ⟨fun x hx => ?_, fun x hx => ?_, fun x hx => ?_, ?_, fun r i hr h3 h4 => ?_⟩
    · rcases List.mem_cons.1 hx with rfl | hx
      · exact ⟨f, hl⟩
      · exact P.fe x hx
    · rcases List.mem_cons.1 hx with rfl | hx
      · exact r2
      · exact fun hi => P.out x hx (hi.mono hle)
    · rcases List.mem_cons.1 hx with rfl | hx
      · exact (setD_in f hlc).mono hdl
      · exact P.inn x hx
    · unfold NamesU
      rw [List.map_cons, List.nodup_cons]
      refine ⟨fun hm => ?_, P.names⟩
      obtain ⟨x, hx, hxe⟩ := List.mem_map.1 hm
      refine P.out x hx ?_
      have h5 := setD_in f hlc
      unfold InC at h5 ⊢
      injection hxe with e1 e2
      rw [e1, e2]
      exact h5
    · by_cases h5 : (setD c e).getD r 0 < i
      · obtain ⟨x, hx, hxe⟩ := P.all r i hr h5 h4
        exact ⟨x, List.mem_cons_of_mem _ hx, hxe⟩
      · rw [setD_get f hlc] at h5
        by_cases h6 : r = e.r.toNat
        · rw [if_pos h6] at h5
          have h7 := ready_at f r1 r2
          rw [← h6] at h7
          have h8 := f.r0
          exact ⟨e, by simp, by unfold nameE; rw [show e.r = (r : Int) by omega, show e.n = i by omega]⟩
        · rw [if_neg h6] at h5
          omega
theorem ChainE.split {n : Nat} : ∀ {c : List Int} {l : List Ev} {d : List Int} (i : Nat), ChainE n c l d → ∃ f, ChainE n c (l.take i) f ∧ ChainE n f (l.drop i) d
  | c, [], d, i, h => ⟨c, by simp [ChainE], by simpa using h⟩
  | c, e :: l, d, 0, h => ⟨c, rfl, h⟩
  | c, e :: l, d, i + 1, h => by
    obtain ⟨f, h1, h2⟩ := h.2.split i
    exact ⟨f, ⟨h.1, h1⟩, h2⟩
theorem formedE_of {l : List Ev} {e : Ev} (h : ∀ x ∈ l, formedE x = true) (he : e ∈ l) : formedE e = true := h e he
/-- what is delivered from the start is a closed set -/
theorem chain_closed {n : Nat} {c d : List Int} {m l : List Ev} (hc : c.length = n) (h0 : ∀ k, c.getD k 0 = 0) (h : ChainE n c m d) (hl : ClosedP l) (hs : ∀ e ∈ m, e ∈ l) (hm : m.length ≤ 1024) : ClosedP m := by
  have P := h.props hc
  refine ⟨hm, P.names, fun e he => hl.fe e (hs e he), fun e he x hx => by rw [(P.fe e he).2, (P.fe x hx).2], fun e he r hr i h1 h2 => ?_⟩
  obtain ⟨k, hk, rfl⟩ := List.mem_iff_getElem.1 he
  obtain ⟨f, h3, h4⟩ := h.split k
  rw [List.drop_eq_getElem_cons hk] at h4
  have P3 := h3.props hc
  have hr1 := h4.1.2.2.1
  have hrn : r < n := by rw [← (P.fe _ he).2]; exact hr
  obtain ⟨x, hx, hxe⟩ := P3.all r i hrn (by rw [h0]; omega) (Int.le_trans h2 (hr1 r))
  have hxm : x ∈ m := List.mem_of_mem_take hx
  obtain ⟨y, hy, hye, h5, h6⟩ := hl.past m[k] (hs _ he) r hr i h1 h2
  have : x = y := hl.names.eq_of x (hs x hxm) y hy (hxe.trans hye.symm)
  subst this
  exact ⟨x, hxm, hxe, h5, h6⟩
/-- all events of a closed set are in a clock that is closed under them -/
theorem closed_all {l : List Ev} (hl : ClosedP l) {S : Ev → Prop} {X : List Int} (hX : ∀ k, 0 ≤ X.getD k 0) (hc : ∀ e, S e → LeC e.past X → InC X e)
    (hS : ∀ e ∈ l, S e → ∀ x ∈ l, x.t < e.t → LeC x.past e.past → InC e.past x → S x ∨ InC X x) : ∀ (k : Nat) (e : Ev), e ∈ l → S e → e.t.toNat ≤ k → 0 ≤ e.t → InC X e
  | 0, e, he, hSe, hk, h0 => hc e hSe fun r => by
    by_cases hr : r < e.past.length
    · have hv := validC_get (formedE_fe (hl.fe e he)).past r
      by_cases hz : e.past.getD r 0 = 0
      · rw [hz]; exact hX r
      · obtain ⟨x, hx, hxe, h5, h6⟩ := hl.past e he r hr (e.past.getD r 0) (by omega) (Int.le_refl _)
        have h7 := hl.fe x hx
        unfold formedE headB btw at h7
        simp only [Bool.and_eq_true, decide_eq_true_eq] at h7
        omega
    · rw [getD_out (by omega)]; exact hX r
  | k + 1, e, he, hSe, hk, h0 => hc e hSe fun r => by
    by_cases hr : r < e.past.length
    · have hv := validC_get (formedE_fe (hl.fe e he)).past r
      by_cases hz : e.past.getD r 0 = 0
      · rw [hz]; exact hX r
      · obtain ⟨x, hx, hxe, h5, h6⟩ := hl.past e he r hr (e.past.getD r 0) (by omega) (Int.le_refl _)
        have h7 := hl.fe x hx
        unfold formedE headB btw at h7
        simp only [Bool.and_eq_true, decide_eq_true_eq] at h7
        injection hxe with e1 e2
        have hin : InC e.past x := by unfold InC; rw [e1, e2]; simp
        have h8 : InC X x := by
          rcases hS e he hSe x hx h6 h5 hin with h9 | h9
          · exact closed_all hl hX hc hS k x hx h9 (by omega) (by omega)
          · exact h9
        unfold InC at h8
        rw [e1, e2] at h8
        simpa using h8
    · rw [getD_out (by omega)]; exact hX r
theorem formedE_t {e : Ev} (h : formedE e = true) : 1 ≤ e.t := by
  unfold formedE headB btw at h
  simp only [Bool.and_eq_true, decide_eq_true_eq] at h
  exact h.1.2.2.2.2.1
/-- when all of a closed set has arrived, all is delivered -/
theorem Arr.whole {l : List Ev} {c0 c : List Int} {S : Ev → Prop} {H : List Ev} (h : Arr c0 S c H) (hl : ClosedP l) (hS : ∀ e, S e ↔ e ∈ l) : H = [] ∧ ∀ e ∈ l, InC c e := by
  have hv : ∀ k, 0 ≤ c.getD k 0 := fun k => (validC_get h.ok.clk k).1
  have hall : ∀ e ∈ l, InC c e := fun e he => closed_all hl hv h.closed (fun _ _ _ x hx _ _ _ => .inl ((hS x).2 hx)) e.t.toNat e he ((hS e).2 he) (Nat.le_refl _) (by have := formedE_t (hl.fe e he); omega)
  refine ⟨?_, hall⟩
  cases H with
  | nil => rfl
  | cons x H =>
    have h1 : x ∈ x :: H := by simp
    exact absurd (hall x ((hS x).1 (h.sub x h1))) (h.held x h1).1
end Go.Proofs.Ytcddllaljgfjbaa
