
/-
What a buffer delivers comes behind its past, whatever arrives: plain. No program here.
-/
import Derived.Test.YtcddllaljgfjbaaDlR
namespace Go.Proofs.Ytcddllaljgfjbaa
set_option linter.unusedSimpArgs false
set_option linter.unusedVariables false
open Go.RowKit

/-- a state of a buffer that holds nothing that its clock contains -/
structure BfN (c : List Int) (H : List Ev) : Prop where
  ok : BfOk c H
  out : ∀ e ∈ H, ¬ InC c e
theorem BfN.start {c : List Int} (h : validC c = true) : BfN c [] := ⟨⟨h, List.Pairwise.nil, by unfold NamesU; simp, by simp, by simp⟩, by simp⟩
theorem BfN.settled {c : List Int} {H : List Ev} (h : BfN c H) (k : Nat) (hk : H.length ≤ k) : BfN (settleE k c H).1 (settleE k c H).2.1 ∧ (settleE k c H).1.length = c.length ∧ ChainE c.length c (settleE k c H).2.2 (settleE k c H).1 :=
  let st := settle_spec k h.ok hk h.out
  ⟨⟨(h.ok.settle k).1, fun e he => (st.held e he).1⟩, (h.ok.settle k).2.2.1, st.chain⟩
theorem BfN.add {c : List Int} {H : List Ev} (h : BfN c H) (e : Ev) : BfN (addE (c, H) e).1.1 (addE (c, H) e).1.2 ∧ (addE (c, H) e).1.1.length = c.length ∧ ChainE c.length c (addE (c, H) e).2.1 (addE (c, H) e).1.1 := by
  unfold addE
  by_cases h0 : (!formedE e || !decide (e.past.length = (c, H).1.length)) = true
  · rw [if_pos h0]
    exact ⟨h, rfl, rfl⟩
  · rw [if_neg h0]
    have h0' : formedE e = true ∧ e.past.length = c.length := by
      simp only [Bool.not_eq_true, Bool.or_eq_false_iff, Bool.not_eq_false', decide_eq_true_eq] at h0
      exact h0
    obtain ⟨hf, hl⟩ := h0'
    have f := formedE_fe hf
    by_cases h1 : ((c, H).2.any (fun x => decide (nameE x = nameE e)) || hasC (c, H).1 (nameE e)) = true
    · rw [if_pos h1]
      exact ⟨h, rfl, rfl⟩
    · rw [if_neg h1]
      simp only [Bool.not_eq_true] at h1
      rw [Bool.or_eq_false_iff] at h1
      have hne := any_name h1.1
      have hni := (hasC_no h.ok.clk f hl).1 h1.2
      by_cases h2 : readyE (c, H).1 e = true
      · rw [if_pos h2]
        obtain ⟨r1, -⟩ := (readyE_iff h.ok.clk f hl).1 h2
        have hN : BfN (setD c e) H := ⟨⟨set_valid h.ok.clk f, h.ok.sort, h.ok.names, fun x hx => by rw [setD_len]; exact h.ok.ev x hx, h.ok.len⟩, fun x hx => setD_other f hl (formedE_fe (h.ok.ev x hx).1) r1 hni (h.out x hx) (hne x hx)⟩
        obtain ⟨a1, a2, a3⟩ := hN.settled H.length (Nat.le_refl _)
        rw [setD_len] at a2 a3
        exact ⟨a1, a2, ⟨f, hl, r1, hni⟩, a3⟩
      · rw [if_neg h2]
        by_cases h3 : 256 ≤ (c, H).2.length
        · rw [if_pos h3]
          exact ⟨h, rfl, rfl⟩
        · rw [if_neg h3]
          refine ⟨⟨h.ok.insert hf hl hne (by have h3' : ¬ 256 ≤ H.length := h3; omega), fun x hx => ?_⟩, rfl, rfl⟩
          rcases insE_mem.1 hx with rfl | hx
          · exact hni
          · exact h.out x hx
theorem BfN.skip {c d : List Int} {H : List Ev} (h : BfN c H) : (skipE (c, H) d = ((c, H), [], 1)) ∨ ((skipE (c, H) d).2.2 = 0 ∧ validC d = true ∧ d.length = c.length ∧ BfN (skipE (c, H) d).1.1 (skipE (c, H) d).1.2 ∧ (skipE (c, H) d).1.1.length = c.length ∧ ChainE c.length (joinC c d) (skipE (c, H) d).2.1 (skipE (c, H) d).1.1) := by
  unfold skipE
  by_cases h0 : (!validC d || !decide (d.length = (c, H).1.length)) = true
  · rw [if_pos h0]
    exact .inl rfl
  · right
    rw [if_neg h0]
    have h0' : validC d = true ∧ d.length = c.length := by
      simp only [Bool.not_eq_true, Bool.or_eq_false_iff, Bool.not_eq_false', decide_eq_true_eq] at h0
      exact h0
    obtain ⟨hd, hl⟩ := h0'
    obtain ⟨-, j2, j3, j4⟩ := joinC_ok h.ok.clk hd hl
    have hN : BfN (joinC c d) (keepE (joinC c d) H) := ⟨⟨j3, h.ok.sort.filter _, h.ok.names.sub List.filter_sublist, fun x hx => by rw [j2]; exact h.ok.ev x (List.mem_filter.1 hx).1, Nat.le_trans (List.length_filter_le _ _) h.ok.len⟩, fun x hx => by
      obtain ⟨h1, h2⟩ := List.mem_filter.1 hx
      exact (hasC_no j3 (formedE_fe (h.ok.ev x h1).1) (by rw [j2]; exact (h.ok.ev x h1).2)).1 (by simpa using h2)⟩
    obtain ⟨a1, a2, a3⟩ := hN.settled (keepE (joinC c d) H).length (Nat.le_refl _)
    rw [j2] at a2 a3
    exact ⟨rfl, hd, hl, a1, a2, a3⟩
end Go.Proofs.Ytcddllaljgfjbaa
