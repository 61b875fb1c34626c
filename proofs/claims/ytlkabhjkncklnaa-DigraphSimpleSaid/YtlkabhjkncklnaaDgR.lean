
/-
Graphs: reaches, Reach, Path: the walks.
-/
import Derived.Test.YtlkabhjkncklnaaDgP
namespace Go.Proofs.Ytlkabhjkncklnaa
set_option linter.unusedSimpArgs false
set_option linter.unusedVariables false
open Go.RowKit

/-- a path with at least one edge -/
def reachesF (n : Nat) (es : List Bool) (a b : Nat) : Bool := (List.range n).any fun c => hasE n es a c && !decide ((pathF n es c b).length = 0)
theorem any_range_succ (p : Nat → Bool) (k : Nat) : (List.range (k + 1)).any p = ((List.range k).any p || p k) := by
  rw [List.range_succ, List.any_append]
  simp
theorem any_range_true {p : Nat → Bool} {k n : Nat} (hk : k < n) (h : p k = true) : (List.range n).any p = true := List.any_eq_true.2 ⟨k, List.mem_range.2 hk, h⟩
set_option maxRecDepth 8000 in
set_option maxHeartbeats 3200000 in
theorem dReaches_any (v : Value) (n : Nat) (es : List Bool) (a b : Nat) (w : World) (hg : GrV w v n es) (ha : a < n) (hb : b < n) : Calls Try.prog 44 #[v, .int .i64 (a : Int), .int .i64 (b : Int)] w fun e w' => e = .returned (.bool (reachesF n es a b)) ∧ Kp w w' := by
  have HGR := hid hg
  generalize hR : reachesF n es a b = R
  have HR : Hid (R = (List.range n).any fun c => hasE n es a c && !decide ((pathF n es c b).length = 0)) := hid hR.symm
  clear hR
  obtain ⟨vb, rfl, hes, hl, h1, h6⟩ := hg
  obtain ⟨A, c, rfl, hc, hm⟩ := hes.form
  have hA := Bx.new w [.int .i64 (n : Int), .slice A es.length c].toArray 51
  have k0 := (Kp.refl w).alloc (.cells [.int .i64 (n : Int), .slice A es.length c].toArray 51)
  have la := alloc_lt w (.cells [.int .i64 (n : Int), .slice A es.length c].toArray 51)
  clear hes hl
  go_enter Try.func44, Try.ntmps44
  go_upto_region 1 with (fail)
  generalize hw0 : w.alloc (.cells [.int .i64 (n : Int), .slice A es.length c].toArray 51) = w0 at *
  generalize hb0 : w.heap.size = b0 at *
  simp only [List.toList_toArray] at hA
  have c0 := hA.cell (j := 0) rfl
  clear hw0
  go_wp2_with fail
  go_loopw [10] (fun i wr => ∃ k : Nat, k ≤ n ∧ i = .int .i64 (k : Int) ∧ Kp w wr ∧ Bx wr b0 [.int .i64 (n : Int), .slice A es.length c] ∧ b0 < wr.heap.size ∧ Hid (((List.range k).any fun c => hasE n es a c && !decide ((pathF n es c b).length = 0)) = false)) (fun i _ => n - (intOf i).toNat)
  case atStart => exact ⟨0, Nat.zero_le _, rfl, k0, hA, la, hid rfl⟩
  case round =>
    clear k0 hA la c0
    obtain ⟨k, hk, rfl, kr, hB, lb, HK⟩ := hrel
    by_cases hkn : k < n
    · have hkl : (k : Int) < (n : Int) := by omega
      have HS := hid (any_range_succ (fun c => hasE n es a c && !decide ((pathF n es c b).length = 0)) k)
      have HT := hid (fun h => any_range_true (p := fun c => hasE n es a c && !decide ((pathF n es c b).length = 0)) hkn h)
      have c0 := hB.cell (j := 0) rfl
      have c1 := hB.cell (j := 1) rfl
      go_wp2_with fail
      refine (dHas_any _ n es a k _ (HGR.out.kp kr) ha hkn).mono ?_
      rintro e w5 ⟨rfl, k5⟩
      have kr5 := kr.trans k5
      have hB5 := hB.kp k5 lb
      have lb5 := Nat.lt_of_lt_of_le lb k5.size
      clear c0 c1 kr hB lb k5
      cases hE : hasE n es a k with
      | false =>
        have HK2 : Hid (((List.range (k + 1)).any fun c => hasE n es a c && !decide ((pathF n es c b).length = 0)) = false) := hid (by rw [HS.out, HK.out, hE]; rfl)
        replace hE := hid hE
        go_wp2_with fail
        go_roundw
        case rel => exact ⟨k + 1, by omega, by go_num, kr5, hB5, lb5, HK2⟩
        case measure => simp [intOf]; omega
      | true =>
        have c0 := hB5.cell (j := 0) rfl
        have c1 := hB5.cell (j := 1) rfl
        replace hE := hid hE
        go_wp2_with fail
        refine (dPath_any _ n es k b _ (HGR.out.kp kr5) hkn hb).mono ?_
        rintro e w6 ⟨vp, rfl, hp, k6⟩
        obtain ⟨Ap, cp, rfl, hcp, hmp⟩ := hp.form
        rw [castL_len] at hcp ⊢
        have kr6 := kr5.trans k6
        have hB6 := hB5.kp k6 lb5
        have lb6 := Nat.lt_of_lt_of_le lb5 k6.size
        clear c0 c1 kr5 hB5 lb5 k6 hp
        by_cases h0 : (pathF n es k b).length = 0
        · have HK2 : Hid (((List.range (k + 1)).any fun c => hasE n es a c && !decide ((pathF n es c b).length = 0)) = false) := hid (by rw [HS.out, HK.out, hE.out, decide_eq_true h0]; rfl)
          generalize (pathF n es k b).length = p at *
          subst h0
          go_wp2_with fail
          go_roundw
          case rel => exact ⟨k + 1, by omega, by go_num, kr6, hB6, lb6, HK2⟩
          case measure => simp [intOf]; omega
        · have HF : Hid (R = true) := hid (by rw [HR.out]; exact HT.out (by rw [hE.out, decide_eq_false h0]; rfl))
          generalize (pathF n es k b).length = p at *
          have hp0 : (0 : Int) < (p : Int) := by omega
          have hp1 : 0 < p := by omega
          replace h0 := hid h0
          go_wp2
          go_ret
          exact ⟨by rw [HF.out]; rfl, kr6⟩
    · obtain rfl : k = n := by omega
      have HF : Hid (R = false) := hid (by rw [HR.out, HK.out])
      go_wp2
      go_ret
      exact ⟨by rw [HF.out]; rfl, kr⟩
theorem openB_iff {s : Int} {len : Nat} (h : openB s len = true) : ∃ n : Nat, s = (n : Int) ∧ 1 ≤ n ∧ n ≤ 6 ∧ len = n * n := by
  simp only [openB, Bool.and_eq_true, decide_eq_true_eq] at h
  obtain ⟨⟨h1, h2⟩, h3⟩ := h
  obtain ⟨n, rfl⟩ := Int.eq_ofNat_of_zero_le (show 0 ≤ s by omega)
  exact ⟨n, rfl, by omega, by omega, by exact_mod_cast h3⟩
def pathPub (s : Int) (es : List Bool) (a b : Int) : List Int := if openB s es.length = true ∧ (0 ≤ a ∧ a < s) ∧ 0 ≤ b ∧ b < s then castL (pathF s.toNat es a.toNat b.toNat) else []
set_option maxRecDepth 8000 in
set_option maxHeartbeats 3200000 in
theorem dPathP_any (s : Int) (v : Value) (es : List Bool) (a b : Int) (w : World) (hes : Bools w v es) : Calls Try.prog 17 #[.int .i64 s, v, .int .i64 a, .int .i64 b] w fun e w' => ∃ v', e = .returned v' ∧ Ints w' v' (pathPub s es a b) ∧ Kp w w' := by
  obtain ⟨A, c, rfl, hc, hm⟩ := hes.form
  have HES := hid hes
  generalize hR : pathPub s es a b = R
  have HR : Hid (R = if openB s es.length = true ∧ (0 ≤ a ∧ a < s) ∧ 0 ≤ b ∧ b < s then castL (pathF s.toNat es a.toNat b.toNat) else []) := hid hR.symm
  clear hR hes
  go_enter Try.func17, Try.ntmps17
  go_wp2_with fail
  refine (dOpen_any s A es.length c w (by omega)).mono ?_
  rintro e w1 ⟨rfl, k1⟩
  have k2 := k1.alloc (.cells #[.int .i64 s, .slice A es.length c] 51)
  cases ho : openB s es.length with
  | false =>
    have HF : Hid (R = []) := hid (by rw [HR.out, if_neg (by rw [ho]; simp)])
    replace ho := hid ho
    go_wp2
    go_ret
    exact ⟨_, rfl, by rw [HF.out]; exact Sl.nil _ _ _, k2⟩
  | true =>
    obtain ⟨n, rfl, h1, h6, hl⟩ := openB_iff ho
    by_cases p1 : a < 0
    · have e1 : decide (a < 0) = true := decide_eq_true p1
      have HF : Hid (R = []) := hid (by rw [HR.out, if_neg (by omega)])
      replace hl := hid hl
      go_wp2
      go_ret
      exact ⟨_, rfl, by rw [HF.out]; exact Sl.nil _ _ _, k2⟩
    · have e1 : decide (a < 0) = false := decide_eq_false p1
      by_cases p2 : (n : Int) ≤ a
      · have e2 : decide ((n : Int) ≤ a) = true := decide_eq_true p2
        have HF : Hid (R = []) := hid (by rw [HR.out, if_neg (by omega)])
        replace hl := hid hl
        go_wp2
        go_ret
        exact ⟨_, rfl, by rw [HF.out]; exact Sl.nil _ _ _, k2⟩
      · have e2 : decide ((n : Int) ≤ a) = false := decide_eq_false p2
        by_cases p3 : b < 0
        · have e3 : decide (b < 0) = true := decide_eq_true p3
          have HF : Hid (R = []) := hid (by rw [HR.out, if_neg (by omega)])
          replace hl := hid hl
          go_wp2
          go_ret
          exact ⟨_, rfl, by rw [HF.out]; exact Sl.nil _ _ _, k2⟩
        · have e3 : decide (b < 0) = false := decide_eq_false p3
          by_cases p4 : (n : Int) ≤ b
          · have e4 : decide ((n : Int) ≤ b) = true := decide_eq_true p4
            have HF : Hid (R = []) := hid (by rw [HR.out, if_neg (by omega)])
            replace hl := hid hl
            go_wp2
            go_ret
            exact ⟨_, rfl, by rw [HF.out]; exact Sl.nil _ _ _, k2⟩
          · have e4 : decide ((n : Int) ≤ b) = false := decide_eq_false p4
            obtain ⟨a', rfl⟩ := Int.eq_ofNat_of_zero_le (show 0 ≤ a by omega)
            obtain ⟨b', rfl⟩ := Int.eq_ofNat_of_zero_le (show 0 ≤ b by omega)
            have HF : Hid (R = castL (pathF n es a' b')) := hid (by rw [HR.out, if_pos ⟨ho, by omega, by omega⟩]; rfl)
            have han : a' < n := by omega
            have hbn : b' < n := by omega
            have HG : Hid (GrV (w1.alloc (.cells #[.int .i64 (n : Int), .slice A es.length c] 51)) (.agg #[.int .i64 (n : Int), .slice A es.length c]) n es) := hid ⟨_, rfl, HES.out.keep (pl_stable _) k2, hl, h1, h6⟩
            replace hl := hid hl
            replace ho := hid ho
            go_wp2_with fail
            refine (dPath_any _ n es a' b' _ HG.out han hbn).mono ?_
            rintro e w6 ⟨vp, rfl, hp, k6⟩
            obtain ⟨Ap, cp, rfl, hcp, hmp⟩ := hp.form
            go_wp2
            go_ret
            exact ⟨_, rfl, by rw [HF.out]; exact hp, k2.trans k6⟩
/-- the matrix, row by row -/
def reachRows (n : Nat) (es : List Bool) (k : Nat) : List Bool := (List.range k).flatMap fun a => (List.range n).map fun b => reachesF n es a b
def reachPub (s : Int) (es : List Bool) : List Bool := if openB s es.length = true then reachRows s.toNat es s.toNat else []
theorem reachRows_succ (n : Nat) (es : List Bool) (k : Nat) : reachRows n es (k + 1) = reachRows n es k ++ (List.range n).map fun b => reachesF n es k b := by
  unfold reachRows
  rw [List.range_succ, List.flatMap_append]
  simp
theorem reachRows_len (n : Nat) (es : List Bool) : ∀ k, (reachRows n es k).length = k * n
  | 0 => by simp [reachRows]
  | k + 1 => by rw [reachRows_succ, List.length_append, reachRows_len n es k, List.length_map, List.length_range, Nat.add_mul, Nat.one_mul]
theorem map_range_succ {α : Type} (f : Nat → α) (k : Nat) : (List.range (k + 1)).map f = (List.range k).map f ++ [f k] := by
  rw [List.range_succ, List.map_append]
  rfl
set_option maxRecDepth 8000 in
set_option maxHeartbeats 3200000 in
theorem dReach_any (s : Int) (v : Value) (es : List Bool) (w : World) (hes : Bools w v es) : Calls Try.prog 14 #[.int .i64 s, v] w fun e w' => ∃ v', e = .returned v' ∧ Bools w' v' (reachPub s es) ∧ Kp w w' := by
  obtain ⟨A, c, rfl, hc, hm⟩ := hes.form
  have HES := hid hes
  generalize hR : reachPub s es = R
  have HR : Hid (R = if openB s es.length = true then reachRows s.toNat es s.toNat else []) := hid hR.symm
  clear hR hes
  go_enter Try.func14, Try.ntmps14
  go_wp2_with fail
  refine (dOpen_any s A es.length c w (by omega)).mono ?_
  rintro e w1 ⟨rfl, k1⟩
  have k2 := k1.alloc (.cells #[.int .i64 s, .slice A es.length c] 51)
  cases ho : openB s es.length with
  | false =>
    have HF : Hid (R = []) := hid (by rw [HR.out, if_neg (by rw [ho]; simp)])
    replace ho := hid ho
    go_wp2
    go_ret
    exact ⟨_, rfl, by rw [HF.out]; exact Sl.nil _ _ _, k2⟩
  | true =>
    obtain ⟨n, rfl, h1, h6, hl⟩ := openB_iff ho
    have HF : Hid (R = reachRows n es n) := hid (by rw [HR.out, if_pos ho]; rfl)
    have HL := hid hl
    replace ho := hid ho
    have hA := Bx.new w1 #[.int .i64 (n : Int), .slice A es.length c] 51
    have la := alloc_lt w1 (.cells #[.int .i64 (n : Int), .slice A es.length c] 51)
    have h1w := k1.size
    clear hl HR
    go_upto_region 2 with (fail)
    generalize hw2 : w1.alloc (.cells #[.int .i64 (n : Int), .slice A es.length c] 51) = w2 at *
    generalize hb0 : w1.heap.size = b0 at *
    clear hw2 k1
    go_wp2_with fail
    go_loopw [7, 19] (fun ov i wr => ∃ (k : Nat) (L : List Bool), k ≤ n ∧ i = .int .i64 (k : Int) ∧ Own encBool 4 1 (b0 + 1) wr ov L ∧ Hid (L = reachRows n es k) ∧ Kp w wr ∧ Bx wr b0 [.int .i64 (n : Int), .slice A es.length c] ∧ b0 < wr.heap.size) (fun _ i _ => n - (intOf i).toNat)
    case atStart => exact ⟨0, [], Nat.zero_le _, rfl, Own.nil _ _ _ _ _, hid rfl, k2, hA, la⟩
    case round =>
      clear k2 hA la
      obtain ⟨k, L, hk, rfl, own, HLk, kr, hB, lb⟩ := hrel
      obtain ⟨Ao, co, rfl, hco, hmo⟩ := own.form
      by_cases hkn : k < n
      · have hkl : (k : Int) < (n : Int) := by omega
        have HRS := hid (reachRows_succ n es k)
        have HLen := hid (reachRows_len n es k)
        go_wp2_with fail
        obtain ⟨wo, rfl⟩ : ∃ wo : World, wo = wr := ⟨_, rfl⟩
        go_loopw [7, 23] (fun ov i wi => ∃ (j : Nat) (L2 : List Bool), j ≤ n ∧ i = .int .i64 (j : Int) ∧ Own encBool 4 1 (b0 + 1) wi ov L2 ∧ Hid (L2 = L ++ (List.range j).map fun b => reachesF n es k b) ∧ Kp w wi ∧ Bx wi b0 [.int .i64 (n : Int), .slice A es.length c] ∧ b0 < wi.heap.size) (fun _ i _ => n - (intOf i).toNat)
        case atStart => exact ⟨0, L, Nat.zero_le _, rfl, own, hid (by simp), kr, hB, lb⟩
        case round =>
          clear own kr hB lb
          obtain ⟨j, L2, hj, rfl, own, HL2, kr, hB, lb⟩ := hrel
          obtain ⟨A2, c2, rfl, hc2, hm2⟩ := own.form
          by_cases hjn : j < n
          · have hjl : (j : Int) < (n : Int) := by omega
            have hlen : L2.length ≤ 100 := by
              have e1 := HL2.out
              have e2 := HLk.out
              have e3 := HLen.out
              rw [e1, List.length_append, List.length_map, List.length_range, e2, e3]
              have := Nat.mul_le_mul (Nat.le_of_lt (Nat.lt_of_lt_of_le hkn h6)) h6
              omega
            have HMS := hid (map_range_succ (fun b => reachesF n es k b) j)
            have HG : Hid (GrV wr (.agg #[.int .i64 (n : Int), .slice A es.length c]) n es) := hid ⟨_, rfl, HES.out.keep (pl_stable _) kr, HL.out, h1, h6⟩
            have c0 := hB.cell (j := 0) rfl
            have c1 := hB.cell (j := 1) rfl
            go_wp2_with fail
            refine (dReaches_any _ n es k j _ HG.out hkn hjn).mono ?_
            rintro e w5 ⟨rfl, k5⟩
            have HX := hid (rfl : reachesF n es k j = reachesF n es k j)
            generalize hx : reachesF n es k j = x at *
            have HX2 := hid hx
            clear hx HX c0 c1
            have own5 := own.kp k5
            have h5 := k5.size
            have kr5 := kr.trans k5
            have hB5 := hB.kp k5 lb
            have hb5 : b0 + 1 ≤ w5.heap.size := by omega
            clear own kr hB k5
            go_wp2_with (at_builtin; refine wpl_append_flat rfl (.tmp 26) (.tmp 31) rfl stBoolM encBool_len encBool_one rfl (own5.alloc _) rfl (Sl.one (R := Pl encBool) w5 _ 4 1 x rfl rfl) (by simp; omega) (by simp; omega) (by simp; omega) ?_; intro v9 w9 own9 hgr hat hnil)
            have hgr9 : (w5.alloc (.cells #[.bool x] 4)).grownBy w9 (Value.slice A2 L2.length c2).ownBlock := hgr
            have hge := own5.ge
            have hs9 := hgr9.size
            have hsa := alloc_lt w5 (.cells #[.bool x] 4)
            have kr9 := (kr5.alloc (.cells #[.bool x] 4)).grown hgr9 (fun q hq => by have := hge q hq; omega)
            have hB9 := (hB5.kp ((Kp.refl w5).alloc (.cells #[.bool x] 4)) (by omega)).grown hgr9 (fun e => by have := hge b0 e; omega) (by omega)
            clear hgr hat hnil hgr9 own5 kr5 hB5
            go_roundw
            case rel => exact ⟨j + 1, L2 ++ [x], by omega, by go_num, own9, hid (by rw [HMS.out, ← List.append_assoc, ← HL2.out]), kr9, hB9, by omega⟩
            case measure => simp [intOf]; omega
          · obtain rfl : j = n := by omega
            have hjl : ¬ (j : Int) < (j : Int) := by omega
            go_wp2_with fail
            go_roundw
            case rel => exact ⟨k + 1, L2, by omega, by go_num, own, hid (by rw [HRS.out, HL2.out, HLk.out]), kr, hB, lb⟩
            case measure => simp [intOf]; omega
      · obtain rfl : k = n := by omega
        have hkl : ¬ (k : Int) < (k : Int) := by omega
        go_wp2
        go_ret
        exact ⟨_, rfl, by rw [HF.out, ← HLk.out]; exact own.sl encBool_len, kr⟩
end Go.Proofs.Ytlkabhjkncklnaa
