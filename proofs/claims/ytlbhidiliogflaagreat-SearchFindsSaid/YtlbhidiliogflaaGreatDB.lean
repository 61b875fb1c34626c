/-
Graphs: reaches, Reach, Path: the walks.
Three small facts that further texts ask: products as numbers, an edge's place, the next values.
The reference's graphs: Valid, has, with: the walks.
The reference's graphs: Path: the walk.
-/
import Derived.Test.YtlbhidiliogflaaGreatDA
import Derived.Test.YtlbhidiliogflaaGreatPA
namespace Go.Proofs.YtlbhidiliogflaaGreat
set_option linter.unusedSimpArgs false
set_option linter.unusedVariables false
open Go.RowKit

/-- a path with at least one edge -/
def reachesF (n : Nat) (es : List Bool) (a b : Nat) : Bool := (List.range n).any fun c => hasE n es a c && !decide ((pathF n es c b).length = 0)
theorem any_range_succ (p : Nat → Bool) (k : Nat) : (List.range (k + 1)).any p = ((List.range k).any p || p k) := by
  rw [List.range_succ, List.any_append]
  simp
theorem any_range_true {p : Nat → Bool} {k n : Nat} (hk : k < n) (h : p k = true) : (List.range n).any p = true := List.any_eq_true.2 ⟨k, List.mem_range.2 hk, h⟩
theorem openB_iff {s : Int} {len : Nat} (h : openB s len = true) : ∃ n : Nat, s = (n : Int) ∧ 1 ≤ n ∧ n ≤ 6 ∧ len = n * n := by
  simp only [openB, Bool.and_eq_true, decide_eq_true_eq] at h
  obtain ⟨⟨h1, h2⟩, h3⟩ := h
  obtain ⟨n, rfl⟩ := Int.eq_ofNat_of_zero_le (show 0 ≤ s by omega)
  exact ⟨n, rfl, by omega, by omega, by exact_mod_cast h3⟩
def pathPub (s : Int) (es : List Bool) (a b : Int) : List Int := if openB s es.length = true ∧ (0 ≤ a ∧ a < s) ∧ 0 ≤ b ∧ b < s then castL (pathF s.toNat es a.toNat b.toNat) else []
set_option maxRecDepth 8000 in
set_option maxHeartbeats 3200000 in
theorem dPathP_any (s : Int) (v : Value) (es : List Bool) (a b : Int) (w : World) (hes : Bools w v es) : Calls Tryz.prog 85 #[.int .i64 s, v, .int .i64 a, .int .i64 b] w fun e w' => ∃ v', e = .returned v' ∧ Ints w' v' (pathPub s es a b) ∧ Kp w w' := by
  obtain ⟨A, c, rfl, hc, hm⟩ := hes.form
  have HES := hid hes
  generalize hR : pathPub s es a b = R
  have HR : Hid (R = if openB s es.length = true ∧ (0 ≤ a ∧ a < s) ∧ 0 ≤ b ∧ b < s then castL (pathF s.toNat es a.toNat b.toNat) else []) := hid hR.symm
  clear hR hes
  go_enter Tryz.func85, Tryz.ntmps85
  go_wp2_with fail
  refine (dOpen_any s A es.length c w (by omega)).mono ?_
  rintro e w1 ⟨rfl, k1⟩
  have k2 := k1.alloc (.cells #[.int .i64 s, .slice A es.length c] 135)
  cases ho : openB s es.length with
  | false =>
    have HF : Hid (R = []) := hid (by rw [HR.out, if_neg (by rw [ho]; simp)])
    replace ho := hid ho
    go_wp2
    go_ret
    exact ⟨_, rfl, by rw [HF.out]; exact Sl.nil _ _ _, k2⟩
  | true =>
    obtain ⟨n, rfl, h1, h6, hl⟩ := openB_iff ho
    by_cases p1 : a < 0
    · have e1 : decide (a < 0) = true := decide_eq_true p1
      have HF : Hid (R = []) := hid (by rw [HR.out, if_neg (by omega)])
      replace hl := hid hl
      go_wp2
      go_ret
      exact ⟨_, rfl, by rw [HF.out]; exact Sl.nil _ _ _, k2⟩
    · have e1 : decide (a < 0) = false := decide_eq_false p1
      by_cases p2 : (n : Int) ≤ a
      · have e2 : decide ((n : Int) ≤ a) = true := decide_eq_true p2
        have HF : Hid (R = []) := hid (by rw [HR.out, if_neg (by omega)])
        replace hl := hid hl
        go_wp2
        go_ret
        exact ⟨_, rfl, by rw [HF.out]; exact Sl.nil _ _ _, k2⟩
      · have e2 : decide ((n : Int) ≤ a) = false := decide_eq_false p2
        by_cases p3 : b < 0
        · have e3 : decide (b < 0) = true := decide_eq_true p3
          have HF : Hid (R = []) := hid (by rw [HR.out, if_neg (by omega)])
          replace hl := hid hl
          go_wp2
          go_ret
          exact ⟨_, rfl, by rw [HF.out]; exact Sl.nil _ _ _, k2⟩
        · have e3 : decide (b < 0) = false := decide_eq_false p3
          by_cases p4 : (n : Int) ≤ b
          · have e4 : decide ((n : Int) ≤ b) = true := decide_eq_true p4
            have HF : Hid (R = []) := hid (by rw [HR.out, if_neg (by omega)])
            replace hl := hid hl
            go_wp2
            go_ret
            exact ⟨_, rfl, by rw [HF.out]; exact Sl.nil _ _ _, k2⟩
          · have e4 : decide ((n : Int) ≤ b) = false := decide_eq_false p4
            obtain ⟨a', rfl⟩ := Int.eq_ofNat_of_zero_le (show 0 ≤ a by omega)
            obtain ⟨b', rfl⟩ := Int.eq_ofNat_of_zero_le (show 0 ≤ b by omega)
            have HF : Hid (R = castL (pathF n es a' b')) := hid (by rw [HR.out, if_pos ⟨ho, by omega, by omega⟩]; rfl)
            have han : a' < n := by omega
            have hbn : b' < n := by omega
            have HG : Hid (DgGrV (w1.alloc (.cells #[.int .i64 (n : Int), .slice A es.length c] 135)) (.agg #[.int .i64 (n : Int), .slice A es.length c]) n es) := hid ⟨_, rfl, HES.out.keep (pl_stable _) k2, hl, h1, h6⟩
            replace hl := hid hl
            replace ho := hid ho
            go_wp2_with fail
            refine (dPath_any _ n es a' b' _ HG.out han hbn).mono ?_
            rintro e w6 ⟨vp, rfl, hp, k6⟩
            obtain ⟨Ap, cp, rfl, hcp, hmp⟩ := hp.form
            go_wp2
            go_ret
            exact ⟨_, rfl, by rw [HF.out]; exact hp, k2.trans k6⟩
/-- the matrix, row by row -/
def reachRows (n : Nat) (es : List Bool) (k : Nat) : List Bool := (List.range k).flatMap fun a => (List.range n).map fun b => reachesF n es a b
def reachPub (s : Int) (es : List Bool) : List Bool := if openB s es.length = true then reachRows s.toNat es s.toNat else []
theorem reachRows_succ (n : Nat) (es : List Bool) (k : Nat) : reachRows n es (k + 1) = reachRows n es k ++ (List.range n).map fun b => reachesF n es k b := by
  unfold reachRows
  rw [List.range_succ, List.flatMap_append]
  simp
theorem reachRows_len (n : Nat) (es : List Bool) : ∀ k, (reachRows n es k).length = k * n
  | 0 => by simp [reachRows]
  | k + 1 => by rw [reachRows_succ, List.length_append, reachRows_len n es k, List.length_map, List.length_range, Nat.add_mul, Nat.one_mul]
theorem map_range_succ {α : Type} (f : Nat → α) (k : Nat) : (List.range (k + 1)).map f = (List.range k).map f ++ [f k] := by
  rw [List.range_succ, List.map_append]
  rfl
end Go.Proofs.YtlbhidiliogflaaGreat
namespace Go.Proofs.YtlbhidiliogflaaGreat
set_option linter.unusedSimpArgs false
set_option linter.unusedVariables false
open Go.RowKit

theorem mul_cast (a n : Nat) : (a : Int) * (n : Int) = ((a * n : Nat) : Int) := by push_cast; rfl
theorem hasE_get {n : Nat} {es : List Bool} {a b : Nat} (h : a * n + b < es.length) : hasE n es a b = es[a * n + b] := by
  unfold hasE
  rw [List.getD_eq_getElem?_getD, List.getElem?_eq_getElem h]
  rfl
theorem next_all {b : List Rng} (hb : boxB b = true) (he : b.any emptyR = false) {pre rest : List (List Int)} {vs : List Int} (h : allS b = pre ++ vs :: rest) : nextB b vs = rest.head? := by
  have hin : inB b vs := (allS_mem b vs).1 (by rw [h]; simp)
  rw [nextB_eq hb ((inB_iff b vs).1 hin)]
  exact allS_next b (wide_of he) pre vs rest h
end Go.Proofs.YtlbhidiliogflaaGreat
namespace Go.Proofs.YtlbhidiliogflaaGreat
set_option linter.unusedSimpArgs false
set_option linter.unusedVariables false
open Go.RowKit

set_option maxHeartbeats 1600000 in
theorem dgValid_any (s : Int) (A : Option Addr) (len c : Nat) (w : World) (hl : len ≤ 9223372036854775807) : Calls Tryz.prog 101 #[.int .i64 s, .slice A len c] w fun e w' => e = .returned (.bool (openB s len)) ∧ w' = w := by
  go_enter Tryz.func101, Tryz.ntmps101
  by_cases h1 : 1 ≤ s
  · have e1 : decide (1 ≤ s) = true := decide_eq_true h1
    by_cases h2 : s ≤ 6
    · have e2 : decide (s ≤ 6) = true := decide_eq_true h2
      have hs : s = 1 ∨ s = 2 ∨ s = 3 ∨ s = 4 ∨ s = 5 ∨ s = 6 := by omega
      have hw : wrap64 (s * s) = s * s := by rcases hs with rfl | rfl | rfl | rfl | rfl | rfl <;> decide +kernel
      have hw2 : IntKind.i64.wrap (s * s) = s * s := by rcases hs with rfl | rfl | rfl | rfl | rfl | rfl <;> decide +kernel
      clear hs
      by_cases h3 : (len : Int) = s * s
      · have e3 : ((len : Int) == s * s) = true := by simpa using h3
        have HF : Hid (openB s len = true) := hid (by simp [openB, h1, h2, h3])
        replace h3 := hid h3
        go_wp2
        go_ret
        exact ⟨by rw [HF.out]; rfl, rfl⟩
      · have e3 : ((len : Int) == s * s) = false := by simpa using h3
        have HF : Hid (openB s len = false) := hid (by simp [openB, h3])
        go_wp2
        go_ret
        exact ⟨by rw [HF.out]; rfl, rfl⟩
    · have e2 : decide (s ≤ 6) = false := decide_eq_false h2
      have HF : Hid (openB s len = false) := hid (by simp [openB, h2])
      go_wp2
      go_ret
      exact ⟨by rw [HF.out]; rfl, rfl⟩
  · have e1 : decide (1 ≤ s) = false := decide_eq_false h1
    have HF : Hid (openB s len = false) := hid (by simp [openB, h1])
    go_wp2
    go_ret
    exact ⟨by rw [HF.out]; rfl, rfl⟩

set_option maxHeartbeats 1600000 in
theorem qHas_any (v : Value) (l : List Nat) (x : Nat) (w : World) (hl : Ints w v (castL l)) : Calls Tryz.prog 102 #[v, .int .i64 (x : Int)] w fun e w' => e = .returned (.bool (decide (x ∈ l))) ∧ w' = w := by
  obtain ⟨A, c, rfl, hc, hm⟩ := hl.form
  rw [castL_len] at hc ⊢
  generalize hR : decide (x ∈ l) = R
  have HR : Hid (R = decide (x ∈ l.drop 0)) := hid (by rw [← hR]; rfl)
  clear hR
  go_enter Tryz.func102, Tryz.ntmps102
  go_wp2
  go_loopw [5] (fun i wr => ∃ k : Nat, k ≤ l.length ∧ i = .int .i64 (k : Int) ∧ Hid (R = decide (x ∈ l.drop k)) ∧ wr = w) (fun i _ => l.length - (intOf i).toNat)
  case atStart => exact ⟨0, Nat.zero_le _, rfl, HR, rfl⟩
  case round =>
    obtain ⟨k, hk, rfl, HD, rfl⟩ := hrel
    by_cases hlt : k < l.length
    · have hkl : (k : Int) < (l.length : Int) := by omega
      obtain ⟨g, o, rfl, hg, i0⟩ := hl.ints (k := k) (by rw [castL_len]; exact hlt)
      rw [castL_get l k hlt] at i0
      have HX := hid (List.drop_eq_getElem_cons hlt)
      generalize l[k] = y at *
      by_cases h : y = x
      · have e1 : ((y : Int) == (x : Int)) = true := by rw [h]; simp
        have HF : Hid (R = true) := hid (by rw [HD.out, HX.out, h]; simp)
        replace h := hid h
        go_wp2
        go_ret
        exact ⟨by rw [HF.out]; rfl, rfl⟩
      · have e1 : ((y : Int) == (x : Int)) = false := beq_false_of_ne (by omega)
        have HF : Hid (R = decide (x ∈ l.drop (k + 1))) := hid (by
          rw [HD.out, HX.out]
          have : ¬ x = y := fun e => h e.symm
          simp [this])
        replace h := hid h
        go_wp2_with fail
        go_roundw
        case rel => exact ⟨k + 1, by omega, by go_num, HF, trivial⟩
        case measure => simp [intOf]; omega
    · have hkl : ¬ (k : Int) < (l.length : Int) := by omega
      have HF : Hid (R = false) := hid (by rw [HD.out, List.drop_of_length_le (by omega)]; simp)
      go_wp2
      go_ret
      exact ⟨by rw [HF.out]; rfl, rfl⟩
set_option maxHeartbeats 1600000 in
theorem qWith_any (v : Value) (l : List Nat) (x : Nat) (w : World) (hl : Ints w v (castL l)) (hb : l.length ≤ 1000) : Calls Tryz.prog 103 #[v, .int .i64 (x : Int)] w fun e w' => ∃ v', e = .returned v' ∧ Own encInt 3 1 w.heap.size w' v' (castL (l ++ [x])) ∧ Kp w w' := by
  obtain ⟨A, c, rfl, hc, hm⟩ := hl.form
  rw [castL_len] at hc ⊢
  have HL := hid hl
  have o0 := Own.lit (base := w.heap.size) (size := 1) encInt (e := 3) w #[] [] (Nat.le_refl _) (by simp) rfl rfl
  have k0 := (Kp.refl w).alloc (.cells #[] 3)
  clear hl
  go_enter Tryz.func103, Tryz.ntmps103
  go_wp2_with fail
  go_loopw [5, 6] (fun ov i wr => ∃ k : Nat, k ≤ l.length ∧ i = .int .i64 (k : Int) ∧ Own encInt 3 1 w.heap.size wr ov (castL (l.take k)) ∧ Kp w wr) (fun _ i _ => l.length - (intOf i).toNat)
  case atStart => exact ⟨0, Nat.zero_le _, rfl, o0, k0⟩
  case round =>
    clear o0 k0
    obtain ⟨k, hk, rfl, own, kr⟩ := hrel
    obtain ⟨Ao, co, e0, hco, hmo⟩ := own.form
    have hlt1 : (castL (l.take k)).length = k := by rw [castL_len, List.length_take]; omega
    rw [hlt1] at e0
    subst e0
    have hge := own.ge
    have hzr := kr.size
    by_cases hlt : k < l.length
    · have hkl : (k : Int) < (l.length : Int) := by omega
      obtain ⟨g, o, rfl, hg, i0⟩ := (HL.out.keep (pl_stable _) kr).ints (k := k) (by rw [castL_len]; exact hlt)
      rw [castL_get l k hlt] at i0
      have HX := hid (List.take_succ_eq_append_getElem hlt)
      generalize l[k] = y at *
      go_wp2_with (at_builtin; refine wpl_append_flat rfl (.tmp 14) (.tmp 19) rfl dgIntM encInt_len encInt_one rfl (own.alloc _) rfl (Sl.one (R := Pl encInt) wr _ 3 1 (y : Int) rfl rfl) (by rw [hlt1]; simp; omega) (by rw [hlt1]; simp; omega) (by simp; omega) ?_; intro vA wA ownA hgr hat hnil)
      have krA := (kr.alloc (.cells #[.int .i64 (y : Int)] 3)).grown hgr hge
      clear hgr hat hnil
      go_roundw
      case rel => exact ⟨k + 1, by omega, by go_num, by rw [HX.out, castL_snoc]; exact ownA, krA⟩
      case measure => simp [intOf]; omega
    · obtain rfl : k = l.length := by omega
      have hkl : ¬ (l.length : Int) < (l.length : Int) := by omega
      have HT : Hid (l.take l.length = l) := hid List.take_length
      go_wp2_with (at_builtin; refine wpl_append_flat rfl (.tmp 21) (.tmp 23) rfl dgIntM encInt_len encInt_one rfl (own.alloc _) rfl (Sl.one (R := Pl encInt) wr _ 3 1 (x : Int) rfl rfl) (by rw [hlt1]; simp; omega) (by rw [hlt1]; simp; omega) (by simp; omega) ?_; intro vA wA ownA hgr hat hnil)
      have krA := (kr.alloc (.cells #[.int .i64 (x : Int)] 3)).grown hgr hge
      go_ret
      exact ⟨_, rfl, by rw [castL_snoc]; have := ownA; rw [HT.out] at this; exact this, krA⟩
end Go.Proofs.YtlbhidiliogflaaGreat
namespace Go.Proofs.YtlbhidiliogflaaGreat
set_option linter.unusedSimpArgs false
set_option linter.unusedVariables false
open Go.RowKit

/-- the paths with one more vertex, the first k vertices looked at -/
def extR (n : Nat) (es : List Bool) (l : List Nat) (k : Nat) : List (List Nat) := ((List.range k).filter fun v => hasE n es (l.getLastD 0) v && !decide (v ∈ l)).map fun v => l ++ [v]
def levelR (n : Nat) (es : List Bool) (ls : List (List Nat)) (k : Nat) : List (List Nat) := (ls.take k).flatMap fun l => extR n es l n
def pathR (n : Nat) (es : List Bool) (t : Nat) : Nat → List (List Nat) → List Nat
  | 0, _ => []
  | r + 1, ls => match ls.find? (fun l => l.getLastD 0 == t) with
    | some l => l
    | none => pathR n es t r (levelR n es ls ls.length)
theorem extR_succ (n : Nat) (es : List Bool) (l : List Nat) (k : Nat) : extR n es l (k + 1) = extR n es l k ++ if (hasE n es (l.getLastD 0) k && !decide (k ∈ l)) = true then [l ++ [k]] else [] := by
  unfold extR
  rw [List.range_succ, List.filter_append, List.map_append]
  congr 1
  rw [List.filter_cons]
  split <;> rfl
theorem extR_len (n : Nat) (es : List Bool) (l : List Nat) (k : Nat) : (extR n es l k).length ≤ k := by
  unfold extR
  rw [List.length_map]
  exact Nat.le_trans (List.length_filter_le _ _) (by simp)
theorem levelR_succ (n : Nat) (es : List Bool) (ls : List (List Nat)) {k : Nat} (h : k < ls.length) : levelR n es ls (k + 1) = levelR n es ls k ++ extR n es ls[k] n := by
  unfold levelR
  rw [List.take_succ_eq_append_getElem h, List.flatMap_append]
  simp
theorem levelR_len {n : Nat} (h6 : n ≤ 6) (es : List Bool) (ls : List (List Nat)) (k : Nat) : (levelR n es ls k).length ≤ 6 * ls.length := by
  unfold levelR
  have : ∀ l : List (List Nat), (l.flatMap fun l => extR n es l n).length ≤ 6 * l.length := fun l => by
    induction l with
    | nil => simp
    | cons x l ih =>
      have := extR_len n es x n
      rw [List.flatMap_cons, List.length_append, List.length_cons]
      omega
  have h2 := this (ls.take k)
  have h3 := List.length_take_le k ls
  have h4 := List.length_take (i := k) (l := ls)
  omega
/-- what holds of the paths of one level -/
structure LvI (n k : Nat) (ls : List (List Nat)) : Prop where
  len : ls.length ≤ 6 ^ k
  els : ∀ l ∈ ls, l ≠ [] ∧ (∀ x ∈ l, x < n) ∧ l.length = k + 1
theorem LvI.next {n k : Nat} (h6 : n ≤ 6) {es : List Bool} {ls : List (List Nat)} (h : LvI n k ls) : LvI n (k + 1) (levelR n es ls ls.length) := by
  refine ⟨?_, fun l hl => ?_⟩
  · have := levelR_len h6 es ls ls.length
    have := h.len
    rw [Nat.pow_succ]
    omega
  · unfold levelR extR at hl
    simp only [List.take_length, List.mem_flatMap, List.mem_map, List.mem_filter, List.mem_range] at hl
    obtain ⟨l0, h0, v, ⟨hv, -⟩, rfl⟩ := hl
    obtain ⟨a1, a2, a3⟩ := h.els l0 h0
    refine ⟨by simp, fun x hx => ?_, by simp; omega⟩
    rcases List.mem_append.1 hx with hx | hx
    · exact a2 x hx
    · simp only [List.mem_singleton] at hx
      omega
theorem find_at {α : Type} {p : α → Bool} {ls : List α} {i : Nat} (h : i < ls.length) (h0 : (ls.take i).find? p = none) (h1 : p ls[i] = true) : ls.find? p = some ls[i] := by
  have e : ls = ls.take i ++ ls[i] :: ls.drop (i + 1) := by rw [← List.drop_eq_getElem_cons h, List.take_append_drop]
  have h2 : ls.find? p = (ls.take i ++ ls[i] :: ls.drop (i + 1)).find? p := congrArg _ e
  rw [h2, List.find?_append, h0, Option.none_or, List.find?_cons, h1]
theorem find_next {α : Type} {p : α → Bool} {ls : List α} {i : Nat} (h : i < ls.length) (h0 : (ls.take i).find? p = none) (h1 : p ls[i] = false) : (ls.take (i + 1)).find? p = none := by
  rw [List.take_succ_eq_append_getElem h, List.find?_append, h0]
  simp [List.find?_cons, h1]
def pathQ (s : Int) (es : List Bool) (a b : Int) : List Int := if openB s es.length = true ∧ (0 ≤ a ∧ a < s) ∧ 0 ≤ b ∧ b < s then castL (pathR s.toNat es b.toNat s.toNat [[a.toNat]]) else []
set_option maxRecDepth 8000 in
set_option maxHeartbeats 8000000 in
theorem qPath_any (s : Int) (v : Value) (es : List Bool) (a b : Int) (w : World) (hes : Bools w v es) : Calls Tryz.prog 90 #[.int .i64 s, v, .int .i64 a, .int .i64 b] w fun e w' => ∃ v', e = .returned v' ∧ Ints w' v' (pathQ s es a b) ∧ Kp w w' := by
  obtain ⟨A, c, rfl, hc, hm⟩ := hes.form
  have HES := hid hes
  generalize hR : pathQ s es a b = R
  have HR : Hid (R = if openB s es.length = true ∧ (0 ≤ a ∧ a < s) ∧ 0 ≤ b ∧ b < s then castL (pathR s.toNat es b.toNat s.toNat [[a.toNat]]) else []) := hid hR.symm
  clear hR hes
  go_enter Tryz.func90, Tryz.ntmps90
  go_wp2_with fail
  refine (dgValid_any s A es.length c w (by omega)).mono ?_
  rintro e w1 ⟨rfl, rfl⟩
  cases ho : openB s es.length with
  | false =>
    have HF : Hid (R = []) := hid (by rw [HR.out, if_neg (by rw [ho]; simp)])
    replace ho := hid ho
    go_wp2
    go_ret
    exact ⟨_, rfl, by rw [HF.out]; exact Sl.nil _ _ _, Kp.refl _⟩
  | true =>
    obtain ⟨n, rfl, h1, h6, hl⟩ := openB_iff ho
    by_cases p1 : a < 0
    · have e1 : decide (a < 0) = true := decide_eq_true p1
      have HF : Hid (R = []) := hid (by rw [HR.out, if_neg (by omega)])
      replace hl := hid hl
      go_wp2
      go_ret
      exact ⟨_, rfl, by rw [HF.out]; exact Sl.nil _ _ _, Kp.refl _⟩
    · have e1 : decide (a < 0) = false := decide_eq_false p1
      by_cases p2 : (n : Int) ≤ a
      · have e2 : decide ((n : Int) ≤ a) = true := decide_eq_true p2
        have HF : Hid (R = []) := hid (by rw [HR.out, if_neg (by omega)])
        replace hl := hid hl
        go_wp2
        go_ret
        exact ⟨_, rfl, by rw [HF.out]; exact Sl.nil _ _ _, Kp.refl _⟩
      · have e2 : decide ((n : Int) ≤ a) = false := decide_eq_false p2
        by_cases p3 : b < 0
        · have e3 : decide (b < 0) = true := decide_eq_true p3
          have HF : Hid (R = []) := hid (by rw [HR.out, if_neg (by omega)])
          replace hl := hid hl
          go_wp2
          go_ret
          exact ⟨_, rfl, by rw [HF.out]; exact Sl.nil _ _ _, Kp.refl _⟩
        · have e3 : decide (b < 0) = false := decide_eq_false p3
          by_cases p4 : (n : Int) ≤ b
          · have e4 : decide ((n : Int) ≤ b) = true := decide_eq_true p4
            have HF : Hid (R = []) := hid (by rw [HR.out, if_neg (by omega)])
            replace hl := hid hl
            go_wp2
            go_ret
            exact ⟨_, rfl, by rw [HF.out]; exact Sl.nil _ _ _, Kp.refl _⟩
          · have e4 : decide ((n : Int) ≤ b) = false := decide_eq_false p4
            obtain ⟨a', rfl⟩ := Int.eq_ofNat_of_zero_le (show 0 ≤ a by omega)
            obtain ⟨b', rfl⟩ := Int.eq_ofNat_of_zero_le (show 0 ≤ b by omega)
            have HF : Hid (R = castL (pathR n es b' n [[a']])) := hid (by rw [HR.out, if_pos ⟨ho, by omega, by omega⟩]; rfl)
            have han : a' < n := by omega
            have hbn : b' < n := by omega
            have HL := hid hl
            have hl36 : es.length ≤ 36 := by rw [hl]; exact Nat.mul_le_mul h6 h6
            replace ho := hid ho
            clear hl HR e1 e2 e3 e4
            have o3 := Own.lit (base := 0) (size := 1) encInt (e := 3) w1 #[.int .i64 (a' : Int)] [(a' : Int)] (Nat.zero_le _) (by simp) rfl rfl
            have k3 := (Kp.refl w1).alloc (.cells #[.int .i64 (a' : Int)] 3)
            have z3 := World.size_alloc w1 (.cells #[.int .i64 (a' : Int)] 3)
            have o4 := Own.lit (base := 0) (size := 1) (encC (size := 1)) (e := 30) (w1.alloc (.cells #[.int .i64 (a' : Int)] 3)) #[.slice (some ⟨w1.heap.size, 0, none⟩) 1 1] [⟨[.slice (some ⟨w1.heap.size, 0, none⟩) 1 1], rfl, by simp [Value.oneCell']⟩] (Nat.zero_le _) (by simp) rfl rfl
            have k4 := (Kp.refl (w1.alloc (.cells #[.int .i64 (a' : Int)] 3))).alloc (.cells #[.slice (some ⟨w1.heap.size, 0, none⟩) 1 1] 30)
            have z4 := World.size_alloc (w1.alloc (.cells #[.int .i64 (a' : Int)] 3)) (.cells #[.slice (some ⟨w1.heap.size, 0, none⟩) 1 1] 30)
            rw [z3] at o4 z4
            have NL0 : NL rdL 30 1 (fun q => w1.heap.size ≤ q) ((w1.alloc (.cells #[.int .i64 (a' : Int)] 3)).alloc (.cells #[.slice (some ⟨w1.heap.size, 0, none⟩) 1 1] 30)) (.slice (some ⟨w1.heap.size + 1, 0, none⟩) 1 1) [⟨[.slice (some ⟨w1.heap.size, 0, none⟩) 1 1], rfl, by simp [Value.oneCell']⟩] [[a']] := by
              refine ⟨o4, rfl, fun q hq => ?_, fun k i1 i2 => ?_⟩
              · simp only [Value.ownBlock, Option.some.injEq] at hq
                show w1.heap.size ≤ q
                omega
              · have hk : k = 0 := by simpa using i1
                subst hk
                refine ⟨fun q => (Value.slice (some ⟨w1.heap.size, 0, none⟩) 1 1).ownBlock = some q, fun q hq => ?_, (o3.owS.kp k4).imp fun w' h => ⟨_, rfl, h.sl encInt_len⟩⟩
                simp only [Value.ownBlock, Option.some.injEq] at hq
                subst hq
                exact ⟨Nat.le_refl _, by simp [Value.ownBlock], by omega⟩
            have kk := k3.trans k4
            have HLV : Hid (LvI n 0 [[a']]) := hid ⟨by simp, fun l hl => by
              simp only [List.mem_singleton] at hl
              subst hl
              exact ⟨by simp, fun x hx => by simp only [List.mem_singleton] at hx; omega, rfl⟩⟩
            clear o3 o4 k3 k4 z3 z4
            go_wp2_with fail
            generalize (w1.alloc (.cells #[.int .i64 (a' : Int)] 3)).alloc (.cells #[.slice (some ⟨w1.heap.size, 0, none⟩) 1 1] 30) = w4 at *
            have HZ := hid (rfl : w1.heap.size + 1 = w1.heap.size + 1)
            go_loopw [9, 10] (fun lv rv wr => ∃ (k : Nat) (ls : List (List Nat)) (css : List (Elm 1)), k ≤ n ∧ rv = .int .i64 (k : Int) ∧ NL rdL 30 1 (fun q => w1.heap.size ≤ q) wr lv css ls ∧ Kp w1 wr ∧ Hid (LvI n k ls) ∧ Hid (R = castL (pathR n es b' (n - k) ls))) (fun _ rv _ => n - (intOf rv).toNat)
            case atStart => exact ⟨0, _, _, Nat.zero_le _, rfl, NL0, kk, HLV, HF⟩
            case round =>
              clear NL0 kk HLV HF
              obtain ⟨k, ls, css, hk, rfl, nl, kr, HLV, HF⟩ := hrel
              by_cases hkn : k < n
              · have hkl : (k : Int) < (n : Int) := by omega
                obtain ⟨Al, cl, el, hcl, hml⟩ := nl.form
                have hlen : ls.length ≤ 46656 := Nat.le_trans HLV.out.len (Nat.pow_le_pow_right (by omega) (by omega : k ≤ 6))
                obtain ⟨r, hr⟩ : ∃ r, n - k = r + 1 := ⟨n - k - 1, by omega⟩
                have HR1 := hid hr
                have HNL := hid nl
                generalize hll : ls.length = ll at *
                subst el
                have HLL := hid hll
                clear nl hll hr
                have oN := Own.lit (base := 0) (size := 1) (encC (size := 1)) (e := 30) wr #[] [] (Nat.zero_le _) (by simp) rfl rfl
                have kN := (Kp.refl wr).alloc (.cells #[] 30)
                have NLN : NL rdL 30 1 (fun q => wr.heap.size ≤ q) (wr.alloc (.cells #[] 30)) (.slice (some ⟨wr.heap.size, 0, none⟩) 0 0) [] [] := ⟨oN, rfl, fun q hq => (by simp only [Value.ownBlock, Option.some.injEq] at hq; show wr.heap.size ≤ q; omega), fun k h1 _ => absurd h1 (by simp)⟩
                clear oN
                go_wp2_with fail
                generalize wr.alloc (.cells #[] 30) = wn at *
                obtain ⟨wo, rfl⟩ : ∃ wo : World, wo = wr := ⟨_, rfl⟩
                go_loopw [11, 12] (fun nv iv wi => ∃ (i : Nat) (nx : List (List Nat)) (css' : List (Elm 1)), i ≤ ll ∧ iv = .int .i64 (i : Int) ∧ NL rdL 30 1 (fun q => wo.heap.size ≤ q) wi nv css' nx ∧ Hid (nx = levelR n es ls i) ∧ Hid ((ls.take i).find? (fun l => l.getLastD 0 == b') = none) ∧ Kp wo wi) (fun _ iv _ => ll - (intOf iv).toNat)
                case atStart => exact ⟨0, [], [], Nat.zero_le _, rfl, NLN, hid rfl, hid rfl, kN⟩
                case round =>
                  clear NLN kN
                  obtain ⟨i, nx, css', hi, rfl, nln, HX, HFN, ki⟩ := hrel
                  obtain ⟨An, cn, en, hcn, hmn⟩ := nln.form
                  have hnlen : nx.length ≤ 279936 := by rw [HX.out]; have := levelR_len h6 es ls i; rw [HLL.out] at this; omega
                  by_cases hil : i < ll
                  · have hii : (i : Int) < (ll : Int) := by omega
                    have hil' : i < ls.length := by rw [HLL.out]; exact hil
                    obtain ⟨hl1, hl2, hl3⟩ := HLV.out.els ls[i] (List.getElem_mem hil')
                    have hsl := HNL.out.sl
                    obtain ⟨bl, ol, lv, hAl, hbl, j0, hlv⟩ := hsl.rdL hil'
                    subst hAl
                    have HLS := hid (levelR_succ n es ls hil')
                    have HFA := hid (fun h1 => find_at (p := fun l => l.getLastD 0 == b') hil' HFN.out h1)
                    have HFN2 := hid (fun h1 => find_next (p := fun l => l.getLastD 0 == b') hil' HFN.out h1)
                    generalize ls[i] = l at *
                    have hlast : l.getLastD 0 = l[k]'(by omega) := by rw [getLastD_eq hl1]; congr 1; omega
                    obtain ⟨A0, c0, rfl, hc0, hm0⟩ := hlv.form
                    obtain ⟨gl, og, hA0, hgl, j1⟩ := hlv.ints (k := k) (by rw [castL_len]; omega)
                    subst hA0
                    rw [castL_get l k (by omega), ← hlast] at j1
                    have i1 := ki.cellS j1
                    have hln : l.getLastD 0 < n := by rw [hlast]; exact hl2 _ (List.getElem_mem _)
                    have HLV0 := hid hlv
                    have HL3 := hid hl3
                    rw [castL_len, hl3] at j0
                    have i0 := ki.cellS j0
                    clear hlast hl1 hl2 hl3 hsl hlv hc0
                    have hki : (k : Int) < 6 := by omega
                    have HEXL := hid (fun v => extR_succ n es l v)
                    have HEL := hid (fun v => extR_len n es l v)
                    have HTL := hid (rfl : l.getLastD 0 = l.getLastD 0)
                    generalize htl : l.getLastD 0 = t at *
                    have HT := hid htl
                    clear htl HTL
                    go_upto_region 11 with (fail)
                    refine G2.wp_region_growT Kp [] 12 103 (G2.pvL [G2.eqv (.slice (some ⟨bl, ol, none⟩) ll cl), G2.eqv (.int .i64 (i : Int)), G2.eqv (.pointer (some ⟨bl, ol + i, none⟩)), G2.eqv (.slice (some ⟨gl, og, none⟩) (k + 1) c0), G2.eqv (.slice (some ⟨bl, ol, none⟩) ll cl), G2.eqv (.int .i64 (i : Int)), G2.eqv (.pointer (some ⟨bl, ol + i, none⟩)), G2.eqv (.slice (some ⟨gl, og, none⟩) (k + 1) c0), G2.eqv (.int .i64 ((k : Int) + 1)), G2.eqv (.int .i64 (k : Int)), G2.eqv (.pointer (some ⟨gl, og + k, none⟩)), G2.eqv (.int .i64 (t : Int))]) (by kernel_rfl) (by kernel_rfl) rfl (fun x => Kp.refl x) (fun _ _ _ h k => h.trans k) (Kp.refl _).drew (fun _ _ _ _ _ h => h) (G2.pvL_keep (G2.stabL_cons (G2.stab_eq _) (G2.stabL_cons (G2.stab_eq _) (G2.stabL_cons (G2.stab_eq _) (G2.stabL_cons (G2.stab_eq _) (G2.stabL_cons (G2.stab_eq _) (G2.stabL_cons (G2.stab_eq _) (G2.stabL_cons (G2.stab_eq _) (G2.stabL_cons (G2.stab_eq _) (G2.stabL_cons (G2.stab_eq _) (G2.stabL_cons (G2.stab_eq _) (G2.stabL_cons (G2.stab_eq _) (G2.stabL_cons (G2.stab_eq _) (G2.stabL_nil)))))))))))))) (G2.stepsT_cons 0 ?_ (G2.stepsT_cons 1 ?_ (G2.stepsT_cons 2 ?_ (G2.stepsT_cons 3 ?_ (G2.stepsT_cons 4 ?_ (G2.stepsT_cons 5 ?_ (G2.stepsT_cons 6 ?_ (G2.stepsT_cons 7 ?_ (G2.stepsT_cons 8 ?_ (G2.stepsT_cons 9 ?_ (G2.stepsT_cons 10 ?_ (G2.stepsT_cons 11 ?_ (G2.stepsT_nil _ _ _))))))))))))) ?_ ?_
                    · intro a w' hk hF hD K hK
                      have h9 : a.tmps[9]?.getD undef = .slice (some ⟨bl, ol, none⟩) ll cl := hF 9 (by kernel_rfl)
                      clear hF hD
                      go_simp
                      exact hK.out _ _ (Kp.refl _) rfl
                    · intro a w' hk hF hD K hK
                      have h12 : a.tmps[12]?.getD undef = .int .i64 (i : Int) := hF 12 (by kernel_rfl)
                      clear hF hD
                      go_simp
                      exact hK.out _ _ (Kp.refl _) rfl
                    · intro a w' hk hF hD K hK
                      have h52 : a.tmps[52]?.getD undef = .slice (some ⟨bl, ol, none⟩) ll cl := hD 0 (by kernel_rfl)
                      have h53 : a.tmps[53]?.getD undef = .int .i64 (i : Int) := hD 1 (by kernel_rfl)
                      clear hF hD
                      go_simp
                      exact hK.out _ _ (Kp.refl _) rfl
                    · intro a w' hk hF hD K hK
                      have h54 : a.tmps[54]?.getD undef = .pointer (some ⟨bl, ol + i, none⟩) := hD 2 (by kernel_rfl)
                      clear hF hD
                      have z := hk.cellS i0
                      go_simp
                      exact hK.out _ _ (Kp.refl _) rfl
                    · intro a w' hk hF hD K hK
                      have h9 : a.tmps[9]?.getD undef = .slice (some ⟨bl, ol, none⟩) ll cl := hF 9 (by kernel_rfl)
                      clear hF hD
                      go_simp
                      exact hK.out _ _ (Kp.refl _) rfl
                    · intro a w' hk hF hD K hK
                      have h12 : a.tmps[12]?.getD undef = .int .i64 (i : Int) := hF 12 (by kernel_rfl)
                      clear hF hD
                      go_simp
                      exact hK.out _ _ (Kp.refl _) rfl
                    · intro a w' hk hF hD K hK
                      have h56 : a.tmps[56]?.getD undef = .slice (some ⟨bl, ol, none⟩) ll cl := hD 4 (by kernel_rfl)
                      have h57 : a.tmps[57]?.getD undef = .int .i64 (i : Int) := hD 5 (by kernel_rfl)
                      clear hF hD
                      go_simp
                      exact hK.out _ _ (Kp.refl _) rfl
                    · intro a w' hk hF hD K hK
                      have h58 : a.tmps[58]?.getD undef = .pointer (some ⟨bl, ol + i, none⟩) := hD 6 (by kernel_rfl)
                      clear hF hD
                      have z := hk.cellS i0
                      go_simp
                      exact hK.out _ _ (Kp.refl _) rfl
                    · intro a w' hk hF hD K hK
                      have h59 : a.tmps[59]?.getD undef = .slice (some ⟨gl, og, none⟩) (k + 1) c0 := hD 7 (by kernel_rfl)
                      clear hF hD
                      go_simp
                      exact hK.out _ _ (Kp.refl _) rfl
                    · intro a w' hk hF hD K hK
                      have h60 : a.tmps[60]?.getD undef = .int .i64 ((k : Int) + 1) := hD 8 (by kernel_rfl)
                      clear hF hD
                      have hw : IntKind.i64.wrap (k : Int) = (k : Int) := (by rw [IntKind.wrap_i64]; omega)
                      go_simp
                      exact hK.out _ _ (Kp.refl _) rfl
                    · intro a w' hk hF hD K hK
                      have h55 : a.tmps[55]?.getD undef = .slice (some ⟨gl, og, none⟩) (k + 1) c0 := hD 3 (by kernel_rfl)
                      have h61 : a.tmps[61]?.getD undef = .int .i64 (k : Int) := hD 9 (by kernel_rfl)
                      clear hF hD
                      have hq : (k : Int) < (k : Int) + 1 := (by omega)
                      go_simp
                      exact hK.out _ _ (Kp.refl _) rfl
                    · intro a w' hk hF hD K hK
                      have h62 : a.tmps[62]?.getD undef = .pointer (some ⟨gl, og + k, none⟩) := hD 10 (by kernel_rfl)
                      clear hF hD
                      have z := hk.cellS i1
                      go_simp
                      exact hK.out _ _ (Kp.refl _) rfl
                    · exact fun i0 hi0 => by simp at hi0
                    intro v w9 k9 hv
                    have v11 : v 11 = .int .i64 (t : Int) := hv 11 (by omega)
                    clear hv
                    simp only [G2.growPut, G2.gSlot, List.getElem?_toArray, List.getElem?_cons_zero, List.getElem?_cons_succ, Option.bind_some, List.setIfInBounds_toArray, List.set_cons_zero, List.set_cons_succ, List.drop_succ_cons, List.drop_zero, v11]
                    have i2 := k9.cellS i0
                    have ki9 := ki.trans k9
                    by_cases htb : t = b'
                    · have e1 : ((t : Int) == (b' : Int)) = true := by rw [htb]; simp
                      have HF2 : Hid (R = castL l) := hid (by rw [HF.out, HR1.out, pathR, HFA.out (by simpa using htb)])
                      replace htb := hid htb
                      clear nln HF
                      go_wp2
                      go_ret
                      exact ⟨_, rfl, by rw [HF2.out]; have := HLV0.out; rw [castL_len, HL3.out] at this; exact this.keep (pl_stable _) ki9, kr.trans ki9⟩
                    · have e1 : ((t : Int) == (b' : Int)) = false := beq_false_of_ne (by omega)
                      have HFN3 : Hid ((ls.take (i + 1)).find? (fun l => l.getLastD 0 == b') = none) := hid (HFN2.out (by simpa using htb))
                      replace htb := hid htb
                      have nl9 := nln.kp k9
                      have HLV9 := HLV0
                      clear i0 i1 i2 j1 nln
                      subst en
                      go_wp2_with fail
                      go_loopw [11, 14] (fun nv vv wi => ∃ (v : Nat) (nx2 : List (List Nat)) (css2 : List (Elm 1)), v ≤ n ∧ vv = .int .i64 (v : Int) ∧ NL rdL 30 1 (fun q => wo.heap.size ≤ q) wi nv css2 nx2 ∧ Hid (nx2 = nx ++ extR n es l v) ∧ Kp wo wi) (fun _ vv _ => n - (intOf vv).toNat)
                      case atStart => exact ⟨0, nx, css', Nat.zero_le _, rfl, nl9, hid (by simp [extR]), ki9⟩
                      case round =>
                        clear nl9
                        obtain ⟨v, nx2, css2, hv, rfl, nl2, HX2, k2⟩ := hrel
                        obtain ⟨A2, c2, e2, hc2, hm2⟩ := nl2.form
                        have hn2 : nx2.length ≤ 279942 := by rw [HX2.out, List.length_append]; have := HEL.out v; omega
                        by_cases hvn : v < n
                        · have hvi : (v : Int) < (n : Int) := by omega
                          have hi : t * n + v < es.length := by rw [HL.out]; exact dg_idx_lt hln hvn
                          obtain ⟨g, o, hA, hg, i0⟩ := (HES.out.keep (pl_stable _) (kr.trans k2)).bools hi
                          subst hA
                          have HE0 := hid (hasE_get hi)
                          have hp := mul_cast t n
                          have HES2 := hid (HEXL.out v)
                          have j1 := k2.cellS j0
                          have HEXV : Hid (extR n es l (v + 1) = extR n es l v ++ if (es[t * n + v] && !decide (v ∈ l)) = true then [l ++ [v]] else []) := hid (by rw [HES2.out, HE0.out])
                          generalize es[t * n + v] = x at *
                          generalize t * n = tn at *
                          have hvx : (tn : Int) + (v : Int) < (es.length : Int) := by omega
                          cases x with
                          | false =>
                            have HEX : Hid (extR n es l (v + 1) = extR n es l v) := hid (by rw [HEXV.out]; simp)
                            subst e2
                            go_wp2_with fail
                            go_roundw
                            case rel => exact ⟨v + 1, nx2, css2, by omega, by go_num, nl2, hid (by rw [HEX.out]; exact HX2.out), k2⟩
                            case measure => simp [intOf]; omega
                          | true =>
                            have HEX0 : Hid (extR n es l (v + 1) = extR n es l v ++ if (!decide (v ∈ l)) = true then [l ++ [v]] else []) := hid (by rw [HEXV.out]; simp)
                            subst e2
                            go_wp2_with fail
                            refine (qHas_any _ l v _ (by have := HLV9.out.keep (pl_stable _) k2; rw [castL_len, HL3.out] at this; exact this)).mono ?_
                            rintro e w8 ⟨rfl, rfl⟩
                            generalize decide (v ∈ l) = ub at *
                            cases ub with
                            | true =>
                              have HEX : Hid (extR n es l (v + 1) = extR n es l v) := hid (by rw [HEX0.out]; simp)
                              go_wp2_with fail
                              go_roundw
                              case rel => exact ⟨v + 1, nx2, css2, by omega, by go_num, nl2, hid (by rw [HEX.out]; exact HX2.out), k2⟩
                              case measure => simp [intOf]; omega
                            | false =>
                              have HEX : Hid (extR n es l (v + 1) = extR n es l v ++ [l ++ [v]]) := hid (by rw [HEX0.out]; simp)
                              have hll6 : l.length ≤ 1000 := by rw [HL3.out]; omega
                              go_wp2_with fail
                              refine (qWith_any _ l v _ (by have := HLV9.out.keep (pl_stable _) k2; rw [castL_len, HL3.out] at this; exact this) hll6).mono ?_
                              rintro e wa ⟨vw, rfl, ownw, ka⟩
                              have nla := nl2.kp ka
                              have kwa := k2.trans ka
                              have hge := ownw.ge
                              have hlw := ownw.blk_lt
                              have hlo := nl2.own.blk_lt
                              have hn2' : css2.length = nx2.length := nl2.len
                              have hzo : wo.heap.size ≤ w8.heap.size := k2.size
                              have HOWS := hid (ownw.owS.kp ((Kp.refl wa).alloc (.cells #[vw] 30)))
                              obtain ⟨Aw, cw, ew, -, -⟩ := ownw.form
                              subst ew
                              have kz := (Kp.refl wa).alloc (.cells #[.slice Aw (castL (l ++ [v])).length cw] 30)
                              have zz := World.size_alloc wa (.cells #[.slice Aw (castL (l ++ [v])).length cw] 30)
                              have hza := ka.size
                              have nlz := nla.kp kz
                              have hob := nlz.blk
                              clear nla ownw i0 j1
                              go_wp2_with (at_builtin; refine wpl_append_flat (base := 0) rfl (.tmp 93) (.tmp 100) rfl dgIntsM encC_len encC_one rfl nlz.own rfl (Sl.one (R := Pl encC) wa [.slice Aw (castL (l ++ [v])).length cw] 30 1 (⟨[.slice Aw (castL (l ++ [v])).length cw], rfl, by simp [Value.oneCell']⟩ : Elm 1) rfl rfl) (by rw [hn2']; simp; omega) (by rw [hn2']; simp; omega) (Nat.zero_le _) ?_; intro vz wz ownz hgr hat hnil; obtain ⟨Az, cz, ez, -, -⟩ := ownz.form; rw [List.length_append, List.length_singleton, hn2'] at ez; subst ez)
                              have hgr9 : (wa.alloc (.cells #[.slice Aw (castL (l ++ [v])).length cw] 30)).grownBy wz (Value.slice A2 nx2.length c2).ownBlock := hgr
                              have hat9 : (Value.slice Az (nx2.length + 1) cz).ownBlock = (Value.slice A2 nx2.length c2).ownBlock ∨ (Value.slice Az (nx2.length + 1) cz).ownBlock = some (wa.alloc (.cells #[.slice Aw (castL (l ++ [v])).length cw] 30)).heap.size := hat
                              have nlq := nlz.snoc (S' := fun q => wo.heap.size ≤ q) (x := l ++ [v]) ownz hgr9 hat9 (fun q => (Value.slice Aw (castL (l ++ [v])).length cw).ownBlock = some q) (fun q hq => ⟨by have := hge q hq; show _ ≤ q; omega, fun e => by have h1 := hge q hq; have h2 := hlo q e; omega, by have := hlw q hq; omega⟩) (HOWS.out.imp fun w' h => ⟨_, rfl, h.sl encInt_len⟩) (fun _ h => h) (by show _ ≤ _; omega)
                              have kwz : Kp wo wz := (kwa.trans kz).grown hgr9 fun q hq => hob q hq
                              clear hgr hat hnil
                              go_roundw
                              case rel => exact ⟨v + 1, nx2 ++ [l ++ [v]], _, by omega, by go_num, nlq, hid (by rw [HEX.out, HX2.out, List.append_assoc]), kwz⟩
                              case measure => simp [intOf]; omega
                        · obtain rfl : v = n := by omega
                          have hvi : ¬ (v : Int) < (v : Int) := by omega
                          subst e2
                          go_wp2_with fail
                          go_roundw
                          case rel => exact ⟨i + 1, nx2, css2, by omega, by go_num, nl2, hid (by rw [HX2.out, HX.out, HLS.out]), HFN3, k2⟩
                          case measure => simp [intOf]; omega
                  · obtain rfl : i = ll := by omega
                    have hii : ¬ (i : Int) < (i : Int) := by omega
                    have HFN1 : Hid (ls.find? (fun l => l.getLastD 0 == b') = none) := hid (by have := HFN.out; rw [List.take_of_length_le (by rw [HLL.out]; exact Nat.le_refl _)] at this; exact this)
                    have HX1 : Hid (nx = levelR n es ls ls.length) := hid (by rw [HX.out, HLL.out])
                    have HF2 : Hid (R = castL (pathR n es b' (n - (k + 1)) nx)) := hid (by rw [HF.out, HR1.out, pathR, HFN1.out, HX1.out]; have := HR1.out; rw [show n - (k + 1) = r by omega])
                    have HLV2 : Hid (LvI n (k + 1) nx) := hid (by rw [HX1.out]; exact HLV.out.next h6)
                    have hko := kr.size
                    subst en
                    clear HF HLV
                    go_wp2_with fail
                    go_roundw
                    case rel => exact ⟨_, _, _, ⟨k + 1, by omega, rfl, nx, ⟨css', nln.mono (fun q h => by have h' : wo.heap.size ≤ q := h; show w1.heap.size ≤ q; omega)⟩, kr.trans ki, HLV2, HF2⟩, rfl, rfl, by go_num⟩
                    case measure => simp [intOf]; omega
              · obtain rfl : k = n := by omega
                have hkl : ¬ (k : Int) < (k : Int) := by omega
                have HF2 : Hid (R = []) := hid (by rw [HF.out, Nat.sub_self]; rfl)
                clear nl HLV HF
                go_wp2
                go_ret
                exact ⟨_, rfl, by rw [HF2.out]; exact Sl.nil _ _ _, kr⟩
end Go.Proofs.YtlbhidiliogflaaGreat
