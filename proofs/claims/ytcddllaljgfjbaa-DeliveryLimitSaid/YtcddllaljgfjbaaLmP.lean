
/-
The limit of what is held back: plain. No program here.
-/
import Derived.Test.YtcddllaljgfjbaaDlR
import Derived.Test.YtcddllaljgfjbaaDlH
namespace Go.Proofs.Ytcddllaljgfjbaa
set_option linter.unusedSimpArgs false
set_option linter.unusedVariables false
open Go.RowKit

def atE (m : Int) : Ev := ⟨0, m, m, [m - 1], 0, 0, ((0, 0, 0), 0), 0, 0, 1⟩
theorem formed_at {m : Int} (h1 : 1 ≤ m) (h2 : m ≤ 1024) : formedE (atE m) = true := by
  have hv : validC [m - 1] = true := validC_iff.2 ⟨fun x hx => by simp at hx; omega, by simp, by simp⟩
  unfold formedE headB formE atE actB restZ btw
  dsimp only
  rw [hv]
  simp
  omega
theorem valid_one {a : Int} (h1 : 0 ≤ a) (h2 : a ≤ 1024) : validC [a] = true := validC_iff.2 ⟨fun x hx => by simp at hx; omega, by simp, by simp⟩
theorem inC_at (a m : Int) : InC [a] (atE m) ↔ m ≤ a := by unfold InC atE; simp
theorem leC_one (a b : Int) : LeC [a] [b] ↔ a ≤ b := by
  constructor
  · intro h
    simpa using h 0
  · intro h k
    cases k with
    | zero => simpa using h
    | succ k => simp
def seqE (a : Int) (m : Nat) : List Ev := (List.range m).map fun i : Nat => atE (a + (i : Int))
theorem seqE_len (a : Int) (m : Nat) : (seqE a m).length = m := by unfold seqE; simp
theorem seqE_mem {a : Int} {m : Nat} {e : Ev} (h : e ∈ seqE a m) : ∃ i : Nat, i < m ∧ e = atE (a + (i : Int)) := by
  obtain ⟨i, hi, rfl⟩ := List.mem_map.1 h
  exact ⟨i, List.mem_range.1 hi, rfl⟩
theorem seqE_snoc (a : Int) (m : Nat) : seqE a (m + 1) = seqE a m ++ [atE (a + (m : Int))] := by
  unfold seqE
  rw [List.range_succ, List.map_append]
  rfl
theorem seqE_cons (a : Int) (m : Nat) : seqE a (m + 1) = atE a :: seqE (a + 1) m := by
  unfold seqE
  rw [List.range_succ_eq_map, List.map_cons, List.map_map]
  congr 1
  · simp
  · refine List.map_congr_left fun i _ => ?_
    show atE (a + ((i + 1 : Nat) : Int)) = _
    congr 1
    omega
theorem name_at (m : Int) : nameE (atE m) = (0, m) := rfl
theorem bf_seq {a : Int} {m : Nat} (c : Int) (h1 : 1 ≤ a) (h2 : a + m ≤ 1024) (hc0 : 0 ≤ c) (hc1 : c ≤ 1024) (hm : m ≤ 256) : BfOk [c] (seqE a m) where
  clk := valid_one hc0 hc1
  sort := by
    unfold SortE seqE
    rw [List.pairwise_map, List.pairwise_iff_getElem]
    intro i j hi hj hij
    rw [List.getElem_range, List.getElem_range, ltE_iff]
    left
    show a + (i : Int) < a + (j : Int)
    omega
  names := by
    unfold NamesU seqE
    rw [List.map_map]
    refine List.Pairwise.map _ ?_ (List.nodup_range (n := m))
    intro i j hij e
    have e' : ((0 : Int), a + (i : Int)) = ((0 : Int), a + (j : Int)) := e
    injection e' with _ e2
    omega
  ev := fun e he => by
    obtain ⟨i, hi, rfl⟩ := seqE_mem he
    exact ⟨formed_at (by omega) (by omega), rfl⟩
  len := by rw [seqE_len]; exact hm
theorem fe_at {m : Int} (h1 : 1 ≤ m) (h2 : m ≤ 1024) : FE (atE m) := formedE_fe (formed_at h1 h2)
theorem ready_atE {a m : Int} (h0 : 0 ≤ a) (h1 : a ≤ 1024) (h2 : 1 ≤ m) (h3 : m ≤ 1024) : readyE [a] (atE m) = true ↔ m = a + 1 := by
  rw [readyE_iff (valid_one h0 h1) (fe_at h2 h3) rfl, inC_at]
  show LeC [m - 1] [a] ∧ _ ↔ _
  rw [leC_one]
  omega
theorem settle_seq : ∀ (m : Nat) (a : Int), 0 ≤ a → a + m ≤ 1023 → settleE m [a] (seqE (a + 1) m) = ([a + m], [], seqE (a + 1) m)
  | 0, a, h0, h1 => by simp [settleE, seqE]
  | m + 1, a, h0, h1 => by
    have hr : readyE [a] (atE (a + 1)) = true := (ready_atE h0 (by omega) (by omega) (by omega)).2 rfl
    have hf : (seqE (a + 1) (m + 1)).find? (readyE [a]) = some (atE (a + 1)) := by rw [seqE_cons, List.find?_cons_of_pos hr]
    have hd : dropE (atE (a + 1)) (seqE (a + 1) (m + 1)) = seqE (a + 1 + 1) m := by
      rw [seqE_cons]
      unfold dropE
      rw [List.filter_cons_of_neg (by simp)]
      refine List.filter_eq_self.2 fun e he => ?_
      obtain ⟨i, hi, rfl⟩ := seqE_mem he
      rw [name_at, name_at]
      have : ¬ ((0 : Int), a + 1 + 1 + (i : Int)) = ((0 : Int), a + 1) := fun e => by injection e with _ e2; omega
      simpa using this
    have hs : setD [a] (atE (a + 1)) = [a + 1] := rfl
    rw [settleE_some hf, hd, hs, settle_seq m (a + 1) (by omega) (by omega), seqE_cons, show a + 1 + (m : Int) = a + ((m + 1 : Nat) : Int) by omega]
theorem lim_add {i : Nat} (h : i < 1000) : addE ([0], seqE 2 (min i 256)) (atE ((i : Int) + 2)) = (([0], seqE 2 (min (i + 1) 256)), [], if i < 256 then 0 else 8) := by
  have hf := formed_at (m := (i : Int) + 2) (by omega) (by omega)
  have hany : (seqE 2 (min i 256)).any (fun x => decide (nameE x = nameE (atE ((i : Int) + 2)))) = false := by
    rw [List.any_eq_false]
    intro e he
    obtain ⟨k, hk, rfl⟩ := seqE_mem he
    rw [name_at, name_at]
    have : ¬ ((0 : Int), 2 + (k : Int)) = ((0 : Int), (i : Int) + 2) := fun e => by injection e with _ e2; omega
    simpa using this
  have hh : hasC [0] (nameE (atE ((i : Int) + 2))) = false := by
    rw [hasC_no (c := [0]) (valid_one (by omega) (by omega)) (formedE_fe hf) rfl, inC_at]
    omega
  have hr : ¬ readyE [0] (atE ((i : Int) + 2)) = true := by
    rw [ready_atE (by omega) (by omega) (by omega) (by omega)]
    omega
  unfold addE
  rw [if_neg (by rw [hf]; simp [atE])]
  dsimp only
  rw [hany, hh, if_neg (by simp), if_neg hr, seqE_len]
  by_cases hi : i < 256
  · rw [if_neg (by omega), if_pos hi, show min i 256 = i by omega, show min (i + 1) 256 = i + 1 by omega]
    congr 2
    refine sortE_ext (insE_sort (bf_seq 0 (by omega) (by omega) (by omega) (by omega) (by omega)).sort fun y hy e => ?_) (bf_seq 0 (by omega) (by omega) (by omega) (by omega) (by omega)).sort fun x => ?_
    · rw [show min i 256 = i by omega] at hany
      have := any_name hany y hy
      exact this e.symm
    · rw [insE_mem, seqE_snoc, List.mem_append, List.mem_singleton, show (2 : Int) + (i : Int) = (i : Int) + 2 by omega]
      exact Or.comm
  · rw [if_pos (by omega), if_neg hi, show min i 256 = 256 by omega, show min (i + 1) 256 = 256 by omega]
theorem lim_last {k : Nat} (hk : k ≤ 256) : addE ([0], seqE 2 k) (atE 1) = (([1 + (k : Int)], []), atE 1 :: seqE 2 k, 0) := by
  have hf := formed_at (m := 1) (by omega) (by omega)
  have hany : (seqE 2 k).any (fun x => decide (nameE x = nameE (atE 1))) = false := by
    rw [List.any_eq_false]
    intro e he
    obtain ⟨k, hk, rfl⟩ := seqE_mem he
    rw [name_at, name_at]
    have : ¬ ((0 : Int), 2 + (k : Int)) = ((0 : Int), 1) := fun e => by injection e with _ e2; omega
    simpa using this
  have hh : hasC [0] (nameE (atE 1)) = false := by
    rw [hasC_no (c := [0]) (valid_one (by omega) (by omega)) (formedE_fe hf) rfl, inC_at]
    omega
  have hr : readyE [0] (atE 1) = true := (ready_atE (by omega) (by omega) (by omega) (by omega)).2 rfl
  unfold addE
  rw [if_neg (by rw [hf]; simp [atE])]
  dsimp only
  rw [hany, hh, if_neg (by simp), if_pos hr, seqE_len]
  have hs : setD [0] (atE 1) = [1] := rfl
  have := settle_seq k 1 (by omega) (by omega)
  rw [show (1 : Int) + 1 = 2 by rfl] at this
  rw [hs, this]
theorem lim_all {k : Nat} (hk : k ≤ 256) : allC [0] (seqE 2 k) = [(k : Int)] := by
  induction k with
  | zero => rfl
  | succ k ih =>
    rw [seqE_snoc, allC_snoc, ih (by omega)]
    have h1 := joinC_ok (a := [(k : Int)]) (b := (atE (2 + (k : Int))).past) (valid_one (by omega) (by omega)) (fe_at (by omega) (by omega)).past rfl
    rw [h1.1]
    unfold joinZ atE
    simp
    omega
theorem lim_miss {k : Nat} (h1 : 1 ≤ k) (hk : k ≤ 256) : missE ([0], seqE 2 k) = [(0, 1, 1)] := by
  have hn : ∀ m : Nat, 1 ≤ m → m ≤ k → ((List.range m).map fun i : Nat => (0 : Int) + 1 + (i : Int)).foldl (missN (seqE 2 k) 0) [] = [(0, 1, 1)] := fun m => by
    induction m with
    | zero => intro h; omega
    | succ m ih =>
      intro h2 h3
      rw [List.range_succ, List.map_append, List.foldl_append]
      by_cases hm : m = 0
      · subst hm
        show missN (seqE 2 k) 0 [] (0 + 1 + 0) = _
        unfold missN
        rw [if_neg]
        · rfl
        · simp only [Bool.not_eq_true, List.any_eq_false]
          intro e he
          obtain ⟨j, hj, rfl⟩ := seqE_mem he
          rw [name_at]
          have : ¬ ((0 : Int), 2 + (j : Int)) = ((0 : Int), 0 + 1 + 0) := fun e => by injection e with _ e2; omega
          simpa using this
      · rw [ih (by omega) (by omega)]
        show missN (seqE 2 k) 0 [(0, 1, 1)] (0 + 1 + (m : Int)) = _
        unfold missN
        rw [if_pos]
        rw [List.any_eq_true]
        refine ⟨atE (2 + ((m - 1 : Nat) : Int)), List.mem_map.2 ⟨m - 1, List.mem_range.2 (by omega), rfl⟩, ?_⟩
        rw [name_at]
        have : ((0 : Int), 2 + ((m - 1 : Nat) : Int)) = ((0 : Int), 0 + 1 + (m : Int)) := by congr 1; omega
        simp only [this, decide_true]
  have h2 := hn k h1 (Nat.le_refl _)
  unfold missE
  dsimp only
  rw [lim_all hk]
  show missRow [0] [(k : Int)] (seqE 2 k) [] 0 = _
  unfold missRow
  have e : (([(k : Int)] : List Int).getD 0 0 - ([0] : List Int).getD 0 0).toNat = k := by simp
  rw [e]
  exact h2
end Go.Proofs.Ytcddllaljgfjbaa
