/-
Graphs: reaches, Reach, Path: the walks.
Three small facts that further texts ask: products as numbers, an edge's place, the next values.
The reference's graphs: Valid, has, with: the walks.
The reference's graphs: Path: the walk.
-/
import Derived.Test.YtlbhidiliogflaaDA
import Derived.Test.YtlbhidiliogflaaPA
namespace Go.Proofs.Ytlbhidiliogflaa
set_option linter.unusedSimpArgs false
set_option linter.unusedVariables false
open Go.RowKit

theorem openB_iff {s : Int} {len : Nat} (h : openB s len = true) : ∃ n : Nat, s = (n : Int) ∧ 1 ≤ n ∧ n ≤ 6 ∧ len = n * n := by
  simp only [openB, Bool.and_eq_true, decide_eq_true_eq] at h
  obtain ⟨⟨h1, h2⟩, h3⟩ := h
  obtain ⟨n, rfl⟩ := Int.eq_ofNat_of_zero_le (show 0 ≤ s by omega)
  exact ⟨n, rfl, by omega, by omega, by exact_mod_cast h3⟩
def pathPub (s : Int) (es : List Bool) (a b : Int) : List Int := if openB s es.length = true ∧ (0 ≤ a ∧ a < s) ∧ 0 ≤ b ∧ b < s then castL (pathF s.toNat es a.toNat b.toNat) else []
set_option maxRecDepth 8000 in
set_option maxHeartbeats 3200000 in
theorem dPathP_any (s : Int) (v : Value) (es : List Bool) (a b : Int) (w : World) (hes : Bools w v es) : Calls Try.prog 104 #[.int .i64 s, v, .int .i64 a, .int .i64 b] w fun e w' => ∃ v', e = .returned v' ∧ Ints w' v' (pathPub s es a b) ∧ Kp w w' := by
  obtain ⟨A, c, rfl, hc, hm⟩ := hes.form
  have HES := hid hes
  generalize hR : pathPub s es a b = R
  have HR : Hid (R = if openB s es.length = true ∧ (0 ≤ a ∧ a < s) ∧ 0 ≤ b ∧ b < s then castL (pathF s.toNat es a.toNat b.toNat) else []) := hid hR.symm
  clear hR hes
  go_enter Try.func104, Try.ntmps104
  go_wp2_with fail
  refine (dOpen_any s A es.length c w (by omega)).mono ?_
  rintro e w1 ⟨rfl, k1⟩
  have k2 := k1.alloc (.cells #[.int .i64 s, .slice A es.length c] 147)
  cases ho : openB s es.length with
  | false =>
    have HF : Hid (R = []) := hid (by rw [HR.out, if_neg (by rw [ho]; simp)])
    replace ho := hid ho
    go_wp2
    go_ret
    exact ⟨_, rfl, by rw [HF.out]; exact Sl.nil _ _ _, k2⟩
  | true =>
    obtain ⟨n, rfl, h1, h6, hl⟩ := openB_iff ho
    by_cases p1 : a < 0
    · have e1 : decide (a < 0) = true := decide_eq_true p1
      have HF : Hid (R = []) := hid (by rw [HR.out, if_neg (by omega)])
      replace hl := hid hl
      go_wp2
      go_ret
      exact ⟨_, rfl, by rw [HF.out]; exact Sl.nil _ _ _, k2⟩
    · have e1 : decide (a < 0) = false := decide_eq_false p1
      by_cases p2 : (n : Int) ≤ a
      · have e2 : decide ((n : Int) ≤ a) = true := decide_eq_true p2
        have HF : Hid (R = []) := hid (by rw [HR.out, if_neg (by omega)])
        replace hl := hid hl
        go_wp2
        go_ret
        exact ⟨_, rfl, by rw [HF.out]; exact Sl.nil _ _ _, k2⟩
      · have e2 : decide ((n : Int) ≤ a) = false := decide_eq_false p2
        by_cases p3 : b < 0
        · have e3 : decide (b < 0) = true := decide_eq_true p3
          have HF : Hid (R = []) := hid (by rw [HR.out, if_neg (by omega)])
          replace hl := hid hl
          go_wp2
          go_ret
          exact ⟨_, rfl, by rw [HF.out]; exact Sl.nil _ _ _, k2⟩
        · have e3 : decide (b < 0) = false := decide_eq_false p3
          by_cases p4 : (n : Int) ≤ b
          · have e4 : decide ((n : Int) ≤ b) = true := decide_eq_true p4
            have HF : Hid (R = []) := hid (by rw [HR.out, if_neg (by omega)])
            replace hl := hid hl
            go_wp2
            go_ret
            exact ⟨_, rfl, by rw [HF.out]; exact Sl.nil _ _ _, k2⟩
          · have e4 : decide ((n : Int) ≤ b) = false := decide_eq_false p4
            obtain ⟨a', rfl⟩ := Int.eq_ofNat_of_zero_le (show 0 ≤ a by omega)
            obtain ⟨b', rfl⟩ := Int.eq_ofNat_of_zero_le (show 0 ≤ b by omega)
            have HF : Hid (R = castL (pathF n es a' b')) := hid (by rw [HR.out, if_pos ⟨ho, by omega, by omega⟩]; rfl)
            have han : a' < n := by omega
            have hbn : b' < n := by omega
            have HG : Hid (DgGrV (w1.alloc (.cells #[.int .i64 (n : Int), .slice A es.length c] 147)) (.agg #[.int .i64 (n : Int), .slice A es.length c]) n es) := hid ⟨_, rfl, HES.out.keep (pl_stable _) k2, hl, h1, h6⟩
            replace hl := hid hl
            replace ho := hid ho
            go_wp2_with fail
            refine (dPath_any _ n es a' b' _ HG.out han hbn).mono ?_
            rintro e w6 ⟨vp, rfl, hp, k6⟩
            obtain ⟨Ap, cp, rfl, hcp, hmp⟩ := hp.form
            go_wp2
            go_ret
            exact ⟨_, rfl, by rw [HF.out]; exact hp, k2.trans k6⟩
end Go.Proofs.Ytlbhidiliogflaa
namespace Go.Proofs.Ytlbhidiliogflaa
set_option linter.unusedSimpArgs false
set_option linter.unusedVariables false
open Go.RowKit

theorem next_all {b : List Rng} (hb : boxB b = true) (he : b.any emptyR = false) {pre rest : List (List Int)} {vs : List Int} (h : allS b = pre ++ vs :: rest) : nextB b vs = rest.head? := by
  have hin : inB b vs := (allS_mem b vs).1 (by rw [h]; simp)
  rw [nextB_eq hb ((inB_iff b vs).1 hin)]
  exact allS_next b (wide_of he) pre vs rest h
end Go.Proofs.Ytlbhidiliogflaa
namespace Go.Proofs.Ytlbhidiliogflaa
set_option linter.unusedSimpArgs false
set_option linter.unusedVariables false
open Go.RowKit

end Go.Proofs.Ytlbhidiliogflaa
namespace Go.Proofs.Ytlbhidiliogflaa
set_option linter.unusedSimpArgs false
set_option linter.unusedVariables false
open Go.RowKit

/-- the paths with one more vertex, the first k vertices looked at -/
def extR (n : Nat) (es : List Bool) (l : List Nat) (k : Nat) : List (List Nat) := ((List.range k).filter fun v => hasE n es (l.getLastD 0) v && !decide (v ∈ l)).map fun v => l ++ [v]
def levelR (n : Nat) (es : List Bool) (ls : List (List Nat)) (k : Nat) : List (List Nat) := (ls.take k).flatMap fun l => extR n es l n
theorem extR_len (n : Nat) (es : List Bool) (l : List Nat) (k : Nat) : (extR n es l k).length ≤ k := by
  unfold extR
  rw [List.length_map]
  exact Nat.le_trans (List.length_filter_le _ _) (by simp)
theorem levelR_len {n : Nat} (h6 : n ≤ 6) (es : List Bool) (ls : List (List Nat)) (k : Nat) : (levelR n es ls k).length ≤ 6 * ls.length := by
  unfold levelR
  have : ∀ l : List (List Nat), (l.flatMap fun l => extR n es l n).length ≤ 6 * l.length := fun l => by
    induction l with
    | nil => simp
    | cons x l ih =>
      have := extR_len n es x n
      rw [List.flatMap_cons, List.length_append, List.length_cons]
      omega
  have h2 := this (ls.take k)
  have h3 := List.length_take_le k ls
  have h4 := List.length_take (i := k) (l := ls)
  omega
/-- what holds of the paths of one level -/
structure LvI (n k : Nat) (ls : List (List Nat)) : Prop where
  len : ls.length ≤ 6 ^ k
  els : ∀ l ∈ ls, l ≠ [] ∧ (∀ x ∈ l, x < n) ∧ l.length = k + 1
theorem LvI.next {n k : Nat} (h6 : n ≤ 6) {es : List Bool} {ls : List (List Nat)} (h : LvI n k ls) : LvI n (k + 1) (levelR n es ls ls.length) := by
  refine ⟨?_, fun l hl => ?_⟩
  · have := levelR_len h6 es ls ls.length
    have := h.len
    rw [Nat.pow_succ]
    omega
  · unfold levelR extR at hl
    simp only [List.take_length, List.mem_flatMap, List.mem_map, List.mem_filter, List.mem_range] at hl
    obtain ⟨l0, h0, v, ⟨hv, -⟩, rfl⟩ := hl
    obtain ⟨a1, a2, a3⟩ := h.els l0 h0
    refine ⟨by simp, fun x hx => ?_, by simp; omega⟩
    rcases List.mem_append.1 hx with hx | hx
    · exact a2 x hx
    · simp only [List.mem_singleton] at hx
      omega
end Go.Proofs.Ytlbhidiliogflaa
