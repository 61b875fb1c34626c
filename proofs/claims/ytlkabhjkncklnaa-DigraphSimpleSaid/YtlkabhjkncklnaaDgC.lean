
/-
Graphs: whether a list contains a vertex; Forbidden: the walks.
-/
import Derived.Test.YtlkabhjkncklnaaDgR
namespace Go.Proofs.Ytlkabhjkncklnaa
set_option linter.unusedSimpArgs false
set_option linter.unusedVariables false
open Go.RowKit

theorem guard_get {T : Array Value} {i : Nat} {b : Bool} (h : T[i]?.getD undef = .bool b) : T[i]? = some (.bool b) := by
  cases hT : T[i]? with
  | none => rw [hT] at h; cases h
  | some v => rw [hT] at h; exact congrArg some h
def idxL (x : Int) : List Int → Nat → Int
  | [], _ => -1
  | y :: r, i => if x = y then (i : Int) else idxL x r (i + 1)
theorem idxL_iff (x : Int) : ∀ (l : List Int) (i : Nat), (0 ≤ idxL x l i ↔ x ∈ l)
  | [], i => by simp [idxL]
  | y :: r, i => by
    unfold idxL
    by_cases h : x = y
    · rw [if_pos h]
      simp [h]
    · rw [if_neg h, idxL_iff x r (i + 1)]
      simp [h]
set_option maxHeartbeats 1600000 in
theorem IndexI_any (v : Value) (l : List Int) (x : Int) (w : World) (hl : Ints w v l) : Calls Try.prog 52 #[v, .int .i64 x] w fun e w' => e = .returned (.int .i64 (idxL x l 0)) ∧ w' = w := by
  obtain ⟨A, c, rfl, hc, hm⟩ := hl.form
  generalize hR : idxL x l 0 = R
  have HR : Hid (R = idxL x (l.drop 0) 0) := hid hR.symm
  clear hR
  go_enter Try.func52, Try.ntmps52
  go_wp2
  go_loopw [8] (fun i wr => ∃ k : Nat, k ≤ l.length ∧ i = .int .i64 (k : Int) ∧ Hid (R = idxL x (l.drop k) k) ∧ wr = w) (fun i _ => l.length - (intOf i).toNat)
  case atStart => exact ⟨0, Nat.zero_le _, rfl, HR, rfl⟩
  case round =>
    obtain ⟨k, hk, rfl, HD, rfl⟩ := hrel
    by_cases hlt : k < l.length
    · have hkl : (k : Int) < (l.length : Int) := by omega
      obtain ⟨g, o, rfl, hg, i0⟩ := hl.ints hlt
      have HX := hid (List.drop_eq_getElem_cons hlt)
      clear hl
      generalize l[k] = y at *
      by_cases h : x = y
      · have e1 : (x == y) = true := by simpa using h
        have HF : Hid (R = (k : Int)) := hid (by rw [HD.out, HX.out, idxL, if_pos h])
        replace h := hid h
        go_wp2
        go_ret
        exact ⟨by rw [HF.out]; rfl, rfl⟩
      · have e1 : (x == y) = false := by simpa using h
        have HF : Hid (R = idxL x (l.drop (k + 1)) (k + 1)) := hid (by rw [HD.out, HX.out, idxL, if_neg h])
        replace h := hid h
        go_wp2_with fail
        go_roundw
        case rel => exact ⟨k + 1, by omega, by go_num, HF, trivial⟩
        case measure => simp [intOf]; omega
    · have hkl : ¬ (k : Int) < (l.length : Int) := by omega
      have HF : Hid (R = -1) := hid (by rw [HD.out, List.drop_of_length_le (by omega)]; rfl)
      go_wp2
      go_ret
      exact ⟨by rw [HF.out]; rfl, rfl⟩
set_option maxHeartbeats 1600000 in
theorem ContainsI_any (v : Value) (l : List Int) (x : Int) (w : World) (hl : Ints w v l) : Calls Try.prog 32 #[v, .int .i64 x] w fun e w' => e = .returned (.bool (decide (x ∈ l))) ∧ w' = w := by
  obtain ⟨A, c, rfl, hc, hm⟩ := hl.form
  generalize hb : decide (x ∈ l) = bb
  have HX : Hid (0 ≤ idxL x l 0 ↔ bb = true) := hid (by rw [← hb, decide_eq_true_iff]; exact idxL_iff x l 0)
  clear hb
  go_enter Try.func32, Try.ntmps32
  go_wp2_with fail
  refine (IndexI_any _ l x w hl).mono ?_
  rintro e w1 ⟨rfl, rfl⟩
  generalize idxL x l 0 = i at *
  cases bb with
  | true =>
    have e1 : decide (0 ≤ i) = true := decide_eq_true (HX.out.2 rfl)
    go_wp2
    go_ret
    exact ⟨by simp [e1], rfl⟩
  | false =>
    have e1 : decide (0 ≤ i) = false := decide_eq_false (fun h2 => by have := HX.out.1 h2; cases this)
    go_wp2
    go_ret
    exact ⟨by simp [e1], rfl⟩
/-- whether edge k is forbidden -/
def forbB (n : Nat) (es ps : List Bool) (k : Nat) : Bool := ps.getD k false && (!es.getD k false && !decide ((pathF n es (k % n) (k / n)).length = 0))
def forbL (n : Nat) (es ps : List Bool) (k : Nat) : List Int := ((List.range k).filter (forbB n es ps)).map (fun x : Nat => (x : Int))
def forbPub (s : Int) (es ps : List Bool) : List Int := if openB s es.length = true ∧ openB s ps.length = true then forbL s.toNat es ps ps.length else []
theorem forbL_succ (n : Nat) (es ps : List Bool) (k : Nat) : forbL n es ps (k + 1) = forbL n es ps k ++ if forbB n es ps k then [(k : Int)] else [] := by
  unfold forbL
  rw [List.range_succ, List.filter_append, List.map_append]
  congr 1
  cases h : forbB n es ps k <;> simp [h]
theorem forbL_len (n : Nat) (es ps : List Bool) (k : Nat) : (forbL n es ps k).length ≤ k := by
  unfold forbL
  rw [List.length_map]
  exact Nat.le_trans (List.length_filter_le _ _) (by simp)
set_option maxRecDepth 8000 in
set_option maxHeartbeats 4000000 in
theorem dForbid_any (s : Int) (v1 v2 : Value) (es ps : List Bool) (w : World) (hes : Bools w v1 es) (hps : Bools w v2 ps) : Calls Try.prog 26 #[.int .i64 s, v1, v2] w fun e w' => ∃ v', e = .returned v' ∧ Ints w' v' (forbPub s es ps) ∧ Kp w w' := by
  obtain ⟨A, c, rfl, hc, hm⟩ := hes.form
  obtain ⟨A2, c2, rfl, hc2, hm2⟩ := hps.form
  have HES := hid hes
  have HPS := hid hps
  generalize hR : forbPub s es ps = R
  have HR : Hid (R = if openB s es.length = true ∧ openB s ps.length = true then forbL s.toNat es ps ps.length else []) := hid hR.symm
  clear hR hes hps
  go_enter Try.func26, Try.ntmps26
  go_wp2_with fail
  refine (dOpen_any s A es.length c w (by omega)).mono ?_
  rintro e w1 ⟨rfl, k1⟩
  have k2 := k1.alloc (.cells #[.int .i64 s, .slice A es.length c] 51)
  have hA := Bx.new w1 #[.int .i64 s, .slice A es.length c] 51
  have la := alloc_lt w1 (.cells #[.int .i64 s, .slice A es.length c] 51)
  have h1w := k1.size
  go_upto_region 2 with (fail)
  generalize hw2 : w1.alloc (.cells #[.int .i64 s, .slice A es.length c] 51) = w2 at *
  generalize hb0 : w1.heap.size = b0 at *
  clear hw2 k1
  go_wp2_with fail
  refine (dOpen_any s A2 ps.length c2 w2 (by omega)).mono ?_
  rintro e w3 ⟨rfl, k3⟩
  have k4 := (k2.trans k3).alloc (.cells #[.int .i64 s, .slice A2 ps.length c2] 51)
  have hA4 := (hA.kp k3 la).kp ((Kp.refl w3).alloc (.cells #[.int .i64 s, .slice A2 ps.length c2] 51)) (Nat.lt_of_lt_of_le la k3.size)
  have la4 := Nat.lt_trans (Nat.lt_of_lt_of_le la k3.size) (alloc_lt w3 (.cells #[.int .i64 s, .slice A2 ps.length c2] 51))
  cases ho : openB s es.length with
  | false =>
    have HF : Hid (R = []) := hid (by rw [HR.out, if_neg (by rw [ho]; simp)])
    replace ho := hid ho
    go_wp2
    go_ret
    exact ⟨_, rfl, by rw [HF.out]; exact Sl.nil _ _ _, k4⟩
  | true =>
    cases ho2 : openB s ps.length with
    | false =>
      have HF : Hid (R = []) := hid (by rw [HR.out, if_neg (by rw [ho2]; simp)])
      replace ho := hid ho
      replace ho2 := hid ho2
      go_wp2
      go_ret
      exact ⟨_, rfl, by rw [HF.out]; exact Sl.nil _ _ _, k4⟩
    | true =>
      obtain ⟨n, rfl, h1, h6, hl⟩ := openB_iff ho
      have hl2 : ps.length = n * n := by
        obtain ⟨n', e1, -, -, e2⟩ := openB_iff ho2
        rw [e2, show n' = n by omega]
      have HF : Hid (R = forbL n es ps ps.length) := hid (by rw [HR.out, if_pos ⟨ho, ho2⟩]; rfl)
      have HL := hid hl
      have HL2 := hid hl2
      have hps36 : ps.length ≤ 36 := by rw [hl2]; exact Nat.mul_le_mul h6 h6
      replace ho := hid ho
      replace ho2 := hid ho2
      clear HR hl hl2 hA k2 k3 la
      go_upto_region 6 with (fail)
      generalize hw4 : w3.alloc (.cells #[.int .i64 (n : Int), .slice A2 ps.length c2] 51) = w4 at *
      clear hw4
      go_wp2_with fail
      go_loopw [11, 34] (fun ov i wr => ∃ (k : Nat) (L : List Int), k ≤ ps.length ∧ i = .int .i64 (k : Int) ∧ Own encInt 3 1 (b0 + 1) wr ov L ∧ Hid (L = forbL n es ps k) ∧ Kp w wr ∧ Bx wr b0 [.int .i64 (n : Int), .slice A es.length c] ∧ b0 < wr.heap.size) (fun _ i _ => ps.length - (intOf i).toNat)
      case atStart => exact ⟨0, [], Nat.zero_le _, rfl, Own.nil _ _ _ _ _, hid rfl, k4, hA4, la4⟩
      case round =>
        clear k4 hA4 la4
        obtain ⟨k, L, hk, rfl, own, HLk, kr, hB, lb⟩ := hrel
        obtain ⟨Ao, co, rfl, hco, hmo⟩ := own.form
        by_cases hkn : k < ps.length
        · have hkl : (k : Int) < (ps.length : Int) := by omega
          have HFS := hid (forbL_succ n es ps k)
          have HLe := hid (forbL_len n es ps k)
          have hke : k < es.length := by rw [HL.out, ← HL2.out]; exact hkn
          have hkle : (k : Int) < (es.length : Int) := by omega
          obtain ⟨g1, o1, rfl, hg1, i1⟩ := (HES.out.keep (pl_stable _) kr).bools hke
          obtain ⟨g2, o2, rfl, hg2, i2⟩ := (HPS.out.keep (pl_stable _) kr).bools hkn
          have HX : Hid (ps.getD k false = ps[k]) := hid (by simp [List.getD, List.getElem?_eq_getElem hkn])
          have HY : Hid (es.getD k false = es[k]) := hid (by simp [List.getD, List.getElem?_eq_getElem hke])
          generalize ps[k] = x at *
          generalize es[k] = y at *
          have HFB0 : Hid (forbB n es ps k = (x && (!y && !decide ((pathF n es (k % n) (k / n)).length = 0)))) := hid (by rw [forbB, HX.out, HY.out])
          have c0 := hB.cell (j := 0) rfl
          have c1 := hB.cell (j := 1) rfl
          go_upto_region 9 with (fail)
          cases x with
          | false =>
            have HFB : Hid (forbB n es ps k = false) := hid (by rw [HFB0.out]; rfl)
            refine G2.wp_region_growT Kp [] 19 65 (G2.pvL [G2.eqv (.bool false), G2.eqv (.bool false), G2.eqv (undef), G2.eqv (undef), G2.eqv (undef), G2.eqv (undef), G2.eqv (undef), G2.eqv (.bool false), G2.eqv (.bool false), G2.eqv (undef), G2.eqv (undef), G2.eqv (undef), G2.eqv (undef), G2.eqv (undef), G2.eqv (undef), G2.eqv (undef), G2.eqv (undef), G2.eqv (undef), G2.eqv (undef)]) (by kernel_rfl) (by kernel_rfl) rfl (fun x => Kp.refl x) (fun _ _ _ h k => h.trans k) (Kp.refl _).drew (fun _ _ _ _ _ h => h) (G2.pvL_keep (G2.stabL_cons (G2.stab_eq _) (G2.stabL_cons (G2.stab_eq _) (G2.stabL_cons (G2.stab_eq _) (G2.stabL_cons (G2.stab_eq _) (G2.stabL_cons (G2.stab_eq _) (G2.stabL_cons (G2.stab_eq _) (G2.stabL_cons (G2.stab_eq _) (G2.stabL_cons (G2.stab_eq _) (G2.stabL_cons (G2.stab_eq _) (G2.stabL_cons (G2.stab_eq _) (G2.stabL_cons (G2.stab_eq _) (G2.stabL_cons (G2.stab_eq _) (G2.stabL_cons (G2.stab_eq _) (G2.stabL_cons (G2.stab_eq _) (G2.stabL_cons (G2.stab_eq _) (G2.stabL_cons (G2.stab_eq _) (G2.stabL_cons (G2.stab_eq _) (G2.stabL_cons (G2.stab_eq _) (G2.stabL_cons (G2.stab_eq _) (G2.stabL_nil))))))))))))))))))))) (G2.stepsT_cons 0 ?_ (G2.stepsT_cons 1 ?_ (G2.stepsT_cons 2 ?_ (G2.stepsT_cons 3 ?_ (G2.stepsT_cons 4 ?_ (G2.stepsT_cons 5 ?_ (G2.stepsT_cons 6 ?_ (G2.stepsT_cons 7 ?_ (G2.stepsT_cons 8 ?_ (G2.stepsT_cons 9 ?_ (G2.stepsT_cons 10 ?_ (G2.stepsT_cons 11 ?_ (G2.stepsT_cons 12 ?_ (G2.stepsT_cons 13 ?_ (G2.stepsT_cons 14 ?_ (G2.stepsT_cons 15 ?_ (G2.stepsT_cons 16 ?_ (G2.stepsT_cons 17 ?_ (G2.stepsT_cons 18 ?_ (G2.stepsT_nil _ _ _)))))))))))))))))))) ?_ ?_
            · intro a w' hk hF hD K hK
              have h13 : a.tmps[13]?.getD undef = .bool false := hF 13 (by kernel_rfl)
              clear hF hD
              go_simp
              exact hK.out _ _ (Kp.refl _) rfl
            · intro a w' hk hF hD K hK
              have h39 : a.tmps[39]?.getD undef = .bool false := hD 0 (by kernel_rfl)
              clear hF hD
              go_simp
              exact hK.out _ _ (Kp.refl _) rfl
            · intro a w' hk hF hD K hK
              have h1 : a.tmps[1]?.getD undef = .slice (some ⟨g1, o1, none⟩) es.length c := hF 1 (by kernel_rfl)
              have h40 : a.tmps[40]?.getD undef = .bool false := hD 1 (by kernel_rfl)
              have g40 := guard_get h40
              clear hF hD
              go_simp
              exact hK.out _ _ (Kp.refl _) rfl
            · intro a w' hk hF hD K hK
              have h12 : a.tmps[12]?.getD undef = .int .i64 (k : Int) := hF 12 (by kernel_rfl)
              have h40 : a.tmps[40]?.getD undef = .bool false := hD 1 (by kernel_rfl)
              have g40 := guard_get h40
              clear hF hD
              go_simp
              exact hK.out _ _ (Kp.refl _) rfl
            · intro a w' hk hF hD K hK
              have h41 : a.tmps[41]?.getD undef = undef := hD 2 (by kernel_rfl)
              have h42 : a.tmps[42]?.getD undef = undef := hD 3 (by kernel_rfl)
              have h40 : a.tmps[40]?.getD undef = .bool false := hD 1 (by kernel_rfl)
              have g40 := guard_get h40
              clear hF hD
              go_simp
              exact hK.out _ _ (Kp.refl _) rfl
            · intro a w' hk hF hD K hK
              have h43 : a.tmps[43]?.getD undef = undef := hD 4 (by kernel_rfl)
              have h40 : a.tmps[40]?.getD undef = .bool false := hD 1 (by kernel_rfl)
              have g40 := guard_get h40
              clear hF hD
              go_simp
              exact hK.out _ _ (Kp.refl _) rfl
            · intro a w' hk hF hD K hK
              have h44 : a.tmps[44]?.getD undef = undef := hD 5 (by kernel_rfl)
              have h40 : a.tmps[40]?.getD undef = .bool false := hD 1 (by kernel_rfl)
              have g40 := guard_get h40
              clear hF hD
              go_simp
              exact hK.out _ _ (Kp.refl _) rfl
            · intro a w' hk hF hD K hK
              have h40 : a.tmps[40]?.getD undef = .bool false := hD 1 (by kernel_rfl)
              have h45 : a.tmps[45]?.getD undef = undef := hD 6 (by kernel_rfl)
              clear hF hD
              go_simp
              exact hK.out _ _ (Kp.refl _) rfl
            · intro a w' hk hF hD K hK
              have h46 : a.tmps[46]?.getD undef = .bool false := hD 7 (by kernel_rfl)
              clear hF hD
              go_simp
              exact hK.out _ _ (Kp.refl _) rfl
            · intro a w' hk hF hD K hK
              have h7 : a.tmps[7]?.getD undef = .pointer (some ⟨b0, 0, none⟩) := hF 7 (by kernel_rfl)
              have h47 : a.tmps[47]?.getD undef = .bool false := hD 8 (by kernel_rfl)
              have g47 := guard_get h47
              clear hF hD
              go_simp
              exact hK.out _ _ (Kp.refl _) rfl
            · intro a w' hk hF hD K hK
              have h12 : a.tmps[12]?.getD undef = .int .i64 (k : Int) := hF 12 (by kernel_rfl)
              have h47 : a.tmps[47]?.getD undef = .bool false := hD 8 (by kernel_rfl)
              have g47 := guard_get h47
              clear hF hD
              go_simp
              exact hK.out _ _ (Kp.refl _) rfl
            · intro a w' hk hF hD K hK
              have h0 : a.tmps[0]?.getD undef = .int .i64 (n : Int) := hF 0 (by kernel_rfl)
              have h47 : a.tmps[47]?.getD undef = .bool false := hD 8 (by kernel_rfl)
              have g47 := guard_get h47
              clear hF hD
              go_simp
              exact hK.out _ _ (Kp.refl _) rfl
            · intro a w' hk hF hD K hK
              have h49 : a.tmps[49]?.getD undef = undef := hD 10 (by kernel_rfl)
              have h50 : a.tmps[50]?.getD undef = undef := hD 11 (by kernel_rfl)
              have h47 : a.tmps[47]?.getD undef = .bool false := hD 8 (by kernel_rfl)
              have g47 := guard_get h47
              clear hF hD
              go_simp
              exact hK.out _ _ (Kp.refl _) rfl
            · intro a w' hk hF hD K hK
              have h12 : a.tmps[12]?.getD undef = .int .i64 (k : Int) := hF 12 (by kernel_rfl)
              have h47 : a.tmps[47]?.getD undef = .bool false := hD 8 (by kernel_rfl)
              have g47 := guard_get h47
              clear hF hD
              go_simp
              exact hK.out _ _ (Kp.refl _) rfl
            · intro a w' hk hF hD K hK
              have h0 : a.tmps[0]?.getD undef = .int .i64 (n : Int) := hF 0 (by kernel_rfl)
              have h47 : a.tmps[47]?.getD undef = .bool false := hD 8 (by kernel_rfl)
              have g47 := guard_get h47
              clear hF hD
              go_simp
              exact hK.out _ _ (Kp.refl _) rfl
            · intro a w' hk hF hD K hK
              have h52 : a.tmps[52]?.getD undef = undef := hD 13 (by kernel_rfl)
              have h53 : a.tmps[53]?.getD undef = undef := hD 14 (by kernel_rfl)
              have h47 : a.tmps[47]?.getD undef = .bool false := hD 8 (by kernel_rfl)
              have g47 := guard_get h47
              clear hF hD
              go_simp
              exact hK.out _ _ (Kp.refl _) rfl
            · intro a w' hk hF hD K hK
              have h48 : a.tmps[48]?.getD undef = undef := hD 9 (by kernel_rfl)
              have h51 : a.tmps[51]?.getD undef = undef := hD 12 (by kernel_rfl)
              have h54 : a.tmps[54]?.getD undef = undef := hD 15 (by kernel_rfl)
              have h47 : a.tmps[47]?.getD undef = .bool false := hD 8 (by kernel_rfl)
              have g47 := guard_get h47
              clear hF hD
              go_simp
              exact hK.out _ _ (Kp.refl _) rfl
            · intro a w' hk hF hD K hK
              have h55 : a.tmps[55]?.getD undef = undef := hD 16 (by kernel_rfl)
              have h47 : a.tmps[47]?.getD undef = .bool false := hD 8 (by kernel_rfl)
              have g47 := guard_get h47
              clear hF hD
              go_simp
              exact hK.out _ _ (Kp.refl _) rfl
            · intro a w' hk hF hD K hK
              have h56 : a.tmps[56]?.getD undef = undef := hD 17 (by kernel_rfl)
              have h47 : a.tmps[47]?.getD undef = .bool false := hD 8 (by kernel_rfl)
              have g47 := guard_get h47
              clear hF hD
              go_simp
              exact hK.out _ _ (Kp.refl _) rfl
            · exact fun i0 hi0 => by simp at hi0
            intro v w9 k9 hv
            have v8 : v 8 = .bool false := hv 8 (by omega)
            have v18 : v 18 = undef := hv 18 (by omega)
            clear hv
            simp only [G2.growPut, G2.gSlot, List.getElem?_toArray, List.getElem?_cons_zero, List.getElem?_cons_succ, Option.bind_some, List.setIfInBounds_toArray, List.set_cons_zero, List.set_cons_succ, List.drop_succ_cons, List.drop_zero, v8, v18]
            go_wp2_with fail
            go_roundw
            case rel => exact ⟨k + 1, L, by omega, by go_num, own.kp k9, hid (by rw [HFS.out, HFB.out, ← HLk.out]; simp), kr.trans k9, hB.kp k9 lb, Nat.lt_of_lt_of_le lb k9.size⟩
            case measure => simp [intOf]; omega
          | true =>
            cases y with
            | true =>
              have HFB : Hid (forbB n es ps k = false) := hid (by rw [HFB0.out]; rfl)
              refine G2.wp_region_growT Kp [] 19 65 (G2.pvL [G2.eqv (.bool true), G2.eqv (.bool true), G2.eqv (.slice (some ⟨g1, o1, none⟩) es.length c), G2.eqv (.int .i64 (k : Int)), G2.eqv (.pointer (some ⟨g1, o1 + k, none⟩)), G2.eqv (.bool true), G2.eqv (.bool false), G2.eqv (.bool false), G2.eqv (.bool false), G2.eqv (undef), G2.eqv (undef), G2.eqv (undef), G2.eqv (undef), G2.eqv (undef), G2.eqv (undef), G2.eqv (undef), G2.eqv (undef), G2.eqv (undef), G2.eqv (undef)]) (by kernel_rfl) (by kernel_rfl) rfl (fun x => Kp.refl x) (fun _ _ _ h k => h.trans k) (Kp.refl _).drew (fun _ _ _ _ _ h => h) (G2.pvL_keep (G2.stabL_cons (G2.stab_eq _) (G2.stabL_cons (G2.stab_eq _) (G2.stabL_cons (G2.stab_eq _) (G2.stabL_cons (G2.stab_eq _) (G2.stabL_cons (G2.stab_eq _) (G2.stabL_cons (G2.stab_eq _) (G2.stabL_cons (G2.stab_eq _) (G2.stabL_cons (G2.stab_eq _) (G2.stabL_cons (G2.stab_eq _) (G2.stabL_cons (G2.stab_eq _) (G2.stabL_cons (G2.stab_eq _) (G2.stabL_cons (G2.stab_eq _) (G2.stabL_cons (G2.stab_eq _) (G2.stabL_cons (G2.stab_eq _) (G2.stabL_cons (G2.stab_eq _) (G2.stabL_cons (G2.stab_eq _) (G2.stabL_cons (G2.stab_eq _) (G2.stabL_cons (G2.stab_eq _) (G2.stabL_cons (G2.stab_eq _) (G2.stabL_nil))))))))))))))))))))) (G2.stepsT_cons 0 ?_ (G2.stepsT_cons 1 ?_ (G2.stepsT_cons 2 ?_ (G2.stepsT_cons 3 ?_ (G2.stepsT_cons 4 ?_ (G2.stepsT_cons 5 ?_ (G2.stepsT_cons 6 ?_ (G2.stepsT_cons 7 ?_ (G2.stepsT_cons 8 ?_ (G2.stepsT_cons 9 ?_ (G2.stepsT_cons 10 ?_ (G2.stepsT_cons 11 ?_ (G2.stepsT_cons 12 ?_ (G2.stepsT_cons 13 ?_ (G2.stepsT_cons 14 ?_ (G2.stepsT_cons 15 ?_ (G2.stepsT_cons 16 ?_ (G2.stepsT_cons 17 ?_ (G2.stepsT_cons 18 ?_ (G2.stepsT_nil _ _ _)))))))))))))))))))) ?_ ?_
              · intro a w' hk hF hD K hK
                have h13 : a.tmps[13]?.getD undef = .bool true := hF 13 (by kernel_rfl)
                clear hF hD
                go_simp
                exact hK.out _ _ (Kp.refl _) rfl
              · intro a w' hk hF hD K hK
                have h39 : a.tmps[39]?.getD undef = .bool true := hD 0 (by kernel_rfl)
                clear hF hD
                go_simp
                exact hK.out _ _ (Kp.refl _) rfl
              · intro a w' hk hF hD K hK
                have h1 : a.tmps[1]?.getD undef = .slice (some ⟨g1, o1, none⟩) es.length c := hF 1 (by kernel_rfl)
                have h40 : a.tmps[40]?.getD undef = .bool true := hD 1 (by kernel_rfl)
                have g40 := guard_get h40
                clear hF hD
                go_simp
                exact hK.out _ _ (Kp.refl _) rfl
              · intro a w' hk hF hD K hK
                have h12 : a.tmps[12]?.getD undef = .int .i64 (k : Int) := hF 12 (by kernel_rfl)
                have h40 : a.tmps[40]?.getD undef = .bool true := hD 1 (by kernel_rfl)
                have g40 := guard_get h40
                clear hF hD
                go_simp
                exact hK.out _ _ (Kp.refl _) rfl
              · intro a w' hk hF hD K hK
                have h41 : a.tmps[41]?.getD undef = .slice (some ⟨g1, o1, none⟩) es.length c := hD 2 (by kernel_rfl)
                have h42 : a.tmps[42]?.getD undef = .int .i64 (k : Int) := hD 3 (by kernel_rfl)
                have h40 : a.tmps[40]?.getD undef = .bool true := hD 1 (by kernel_rfl)
                have g40 := guard_get h40
                clear hF hD
                go_simp
                exact hK.out _ _ (Kp.refl _) rfl
              · intro a w' hk hF hD K hK
                have h43 : a.tmps[43]?.getD undef = .pointer (some ⟨g1, o1 + k, none⟩) := hD 4 (by kernel_rfl)
                have h40 : a.tmps[40]?.getD undef = .bool true := hD 1 (by kernel_rfl)
                have g40 := guard_get h40
                clear hF hD
                have z := hk.cellS i1
                go_simp
                exact hK.out _ _ (Kp.refl _) rfl
              · intro a w' hk hF hD K hK
                have h44 : a.tmps[44]?.getD undef = .bool true := hD 5 (by kernel_rfl)
                have h40 : a.tmps[40]?.getD undef = .bool true := hD 1 (by kernel_rfl)
                have g40 := guard_get h40
                clear hF hD
                go_simp
                exact hK.out _ _ (Kp.refl _) rfl
              · intro a w' hk hF hD K hK
                have h40 : a.tmps[40]?.getD undef = .bool true := hD 1 (by kernel_rfl)
                have h45 : a.tmps[45]?.getD undef = .bool false := hD 6 (by kernel_rfl)
                clear hF hD
                go_simp
                exact hK.out _ _ (Kp.refl _) rfl
              · intro a w' hk hF hD K hK
                have h46 : a.tmps[46]?.getD undef = .bool false := hD 7 (by kernel_rfl)
                clear hF hD
                go_simp
                exact hK.out _ _ (Kp.refl _) rfl
              · intro a w' hk hF hD K hK
                have h7 : a.tmps[7]?.getD undef = .pointer (some ⟨b0, 0, none⟩) := hF 7 (by kernel_rfl)
                have h47 : a.tmps[47]?.getD undef = .bool false := hD 8 (by kernel_rfl)
                have g47 := guard_get h47
                clear hF hD
                go_simp
                exact hK.out _ _ (Kp.refl _) rfl
              · intro a w' hk hF hD K hK
                have h12 : a.tmps[12]?.getD undef = .int .i64 (k : Int) := hF 12 (by kernel_rfl)
                have h47 : a.tmps[47]?.getD undef = .bool false := hD 8 (by kernel_rfl)
                have g47 := guard_get h47
                clear hF hD
                go_simp
                exact hK.out _ _ (Kp.refl _) rfl
              · intro a w' hk hF hD K hK
                have h0 : a.tmps[0]?.getD undef = .int .i64 (n : Int) := hF 0 (by kernel_rfl)
                have h47 : a.tmps[47]?.getD undef = .bool false := hD 8 (by kernel_rfl)
                have g47 := guard_get h47
                clear hF hD
                go_simp
                exact hK.out _ _ (Kp.refl _) rfl
              · intro a w' hk hF hD K hK
                have h49 : a.tmps[49]?.getD undef = undef := hD 10 (by kernel_rfl)
                have h50 : a.tmps[50]?.getD undef = undef := hD 11 (by kernel_rfl)
                have h47 : a.tmps[47]?.getD undef = .bool false := hD 8 (by kernel_rfl)
                have g47 := guard_get h47
                clear hF hD
                go_simp
                exact hK.out _ _ (Kp.refl _) rfl
              · intro a w' hk hF hD K hK
                have h12 : a.tmps[12]?.getD undef = .int .i64 (k : Int) := hF 12 (by kernel_rfl)
                have h47 : a.tmps[47]?.getD undef = .bool false := hD 8 (by kernel_rfl)
                have g47 := guard_get h47
                clear hF hD
                go_simp
                exact hK.out _ _ (Kp.refl _) rfl
              · intro a w' hk hF hD K hK
                have h0 : a.tmps[0]?.getD undef = .int .i64 (n : Int) := hF 0 (by kernel_rfl)
                have h47 : a.tmps[47]?.getD undef = .bool false := hD 8 (by kernel_rfl)
                have g47 := guard_get h47
                clear hF hD
                go_simp
                exact hK.out _ _ (Kp.refl _) rfl
              · intro a w' hk hF hD K hK
                have h52 : a.tmps[52]?.getD undef = undef := hD 13 (by kernel_rfl)
                have h53 : a.tmps[53]?.getD undef = undef := hD 14 (by kernel_rfl)
                have h47 : a.tmps[47]?.getD undef = .bool false := hD 8 (by kernel_rfl)
                have g47 := guard_get h47
                clear hF hD
                go_simp
                exact hK.out _ _ (Kp.refl _) rfl
              · intro a w' hk hF hD K hK
                have h48 : a.tmps[48]?.getD undef = undef := hD 9 (by kernel_rfl)
                have h51 : a.tmps[51]?.getD undef = undef := hD 12 (by kernel_rfl)
                have h54 : a.tmps[54]?.getD undef = undef := hD 15 (by kernel_rfl)
                have h47 : a.tmps[47]?.getD undef = .bool false := hD 8 (by kernel_rfl)
                have g47 := guard_get h47
                clear hF hD
                go_simp
                exact hK.out _ _ (Kp.refl _) rfl
              · intro a w' hk hF hD K hK
                have h55 : a.tmps[55]?.getD undef = undef := hD 16 (by kernel_rfl)
                have h47 : a.tmps[47]?.getD undef = .bool false := hD 8 (by kernel_rfl)
                have g47 := guard_get h47
                clear hF hD
                go_simp
                exact hK.out _ _ (Kp.refl _) rfl
              · intro a w' hk hF hD K hK
                have h56 : a.tmps[56]?.getD undef = undef := hD 17 (by kernel_rfl)
                have h47 : a.tmps[47]?.getD undef = .bool false := hD 8 (by kernel_rfl)
                have g47 := guard_get h47
                clear hF hD
                go_simp
                exact hK.out _ _ (Kp.refl _) rfl
              · exact fun i0 hi0 => by simp at hi0
              intro v w9 k9 hv
              have v8 : v 8 = .bool false := hv 8 (by omega)
              have v18 : v 18 = undef := hv 18 (by omega)
              clear hv
              simp only [G2.growPut, G2.gSlot, List.getElem?_toArray, List.getElem?_cons_zero, List.getElem?_cons_succ, Option.bind_some, List.setIfInBounds_toArray, List.set_cons_zero, List.set_cons_succ, List.drop_succ_cons, List.drop_zero, v8, v18]
              go_wp2_with fail
              go_roundw
              case rel => exact ⟨k + 1, L, by omega, by go_num, own.kp k9, hid (by rw [HFS.out, HFB.out, ← HLk.out]; simp), kr.trans k9, hB.kp k9 lb, Nat.lt_of_lt_of_le lb k9.size⟩
              case measure => simp [intOf]; omega
            | false =>
              have hn0 : n ≠ 0 := by omega
              have hn0i : ¬ (n : Int) = 0 := by omega
              have ht : Int.tmod (k : Int) (n : Int) = ((k % n : Nat) : Int) := by rw [Int.ofNat_tmod]
              have hq : Int.tdiv (k : Int) (n : Int) = ((k / n : Nat) : Int) := by rw [Int.ofNat_tdiv]
              have hq2 : (k : Int) / (n : Int) = ((k / n : Nat) : Int) := by simp
              have hmn : k % n < n := Nat.mod_lt _ (by omega)
              have hqn : k / n < n := (Nat.div_lt_iff_lt_mul (by omega)).2 (by rw [← HL2.out]; exact hkn)
              have HG : Hid (GrV wr (.agg #[.int .i64 (n : Int), .slice (some ⟨g1, o1, none⟩) es.length c]) n es) := hid ⟨_, rfl, HES.out.keep (pl_stable _) kr, HL.out, h1, h6⟩
              generalize hkm : k % n = km at *
              generalize hkq : k / n = kq at *
              have HKM := hid hkm
              have HKQ := hid hkq
              clear hkm hkq
              generalize hpl : (pathF n es km kq).length = pl at *
              have HPL := hid hpl
              clear hpl
              obtain ⟨pb, hpb⟩ : ∃ pb, decide ((0 : Int) < (pl : Int)) = pb := ⟨_, rfl⟩
              have hpb2 : decide (0 < pl) = pb := by rw [← hpb]; simp
              have HFB1 : Hid (forbB n es ps k = pb) := hid (by
                rw [HFB0.out, ← hpb2]
                rcases Nat.eq_zero_or_pos pl with h | h
                · subst h
                  rfl
                · have : pl ≠ 0 := by omega
                  simp [h, this])
              refine G2.wp_region_growT Kp [] 19 65 (G2.pvL [G2.eqv (.bool true), G2.eqv (.bool true), G2.eqv (.slice (some ⟨g1, o1, none⟩) es.length c), G2.eqv (.int .i64 (k : Int)), G2.eqv (.pointer (some ⟨g1, o1 + k, none⟩)), G2.eqv (.bool false), G2.eqv (.bool true), G2.eqv (.bool true), G2.eqv (.bool true), G2.eqv (.agg #[.int .i64 (n : Int), .slice (some ⟨g1, o1, none⟩) es.length c]), G2.eqv (.int .i64 (k : Int)), G2.eqv (.int .i64 (n : Int)), G2.eqv (.int .i64 (km : Int)), G2.eqv (.int .i64 (k : Int)), G2.eqv (.int .i64 (n : Int)), G2.eqv (.int .i64 (kq : Int)), (fun u _ => ∃ Ap cp, u = .slice Ap pl cp), G2.eqv (.int .i64 (pl : Int)), G2.eqv (.bool pb)]) (by kernel_rfl) (by kernel_rfl) rfl (fun x => Kp.refl x) (fun _ _ _ h k => h.trans k) (Kp.refl _).drew (fun _ _ _ _ _ h => h) (G2.pvL_keep (G2.stabL_cons (G2.stab_eq _) (G2.stabL_cons (G2.stab_eq _) (G2.stabL_cons (G2.stab_eq _) (G2.stabL_cons (G2.stab_eq _) (G2.stabL_cons (G2.stab_eq _) (G2.stabL_cons (G2.stab_eq _) (G2.stabL_cons (G2.stab_eq _) (G2.stabL_cons (G2.stab_eq _) (G2.stabL_cons (G2.stab_eq _) (G2.stabL_cons (G2.stab_eq _) (G2.stabL_cons (G2.stab_eq _) (G2.stabL_cons (G2.stab_eq _) (G2.stabL_cons (G2.stab_eq _) (G2.stabL_cons (G2.stab_eq _) (G2.stabL_cons (G2.stab_eq _) (G2.stabL_cons (G2.stab_eq _) (G2.stabL_cons (fun _ _ _ h _ => h) (G2.stabL_cons (G2.stab_eq _) (G2.stabL_cons (G2.stab_eq _) (G2.stabL_nil))))))))))))))))))))) (G2.stepsT_cons 0 ?_ (G2.stepsT_cons 1 ?_ (G2.stepsT_cons 2 ?_ (G2.stepsT_cons 3 ?_ (G2.stepsT_cons 4 ?_ (G2.stepsT_cons 5 ?_ (G2.stepsT_cons 6 ?_ (G2.stepsT_cons 7 ?_ (G2.stepsT_cons 8 ?_ (G2.stepsT_cons 9 ?_ (G2.stepsT_cons 10 ?_ (G2.stepsT_cons 11 ?_ (G2.stepsT_cons 12 ?_ (G2.stepsT_cons 13 ?_ (G2.stepsT_cons 14 ?_ (G2.stepsT_cons 15 ?_ (G2.stepsT_cons 16 ?_ (G2.stepsT_cons 17 ?_ (G2.stepsT_cons 18 ?_ (G2.stepsT_nil _ _ _)))))))))))))))))))) ?_ ?_
              · intro a w' hk hF hD K hK
                have h13 : a.tmps[13]?.getD undef = .bool true := hF 13 (by kernel_rfl)
                clear hF hD
                go_simp
                exact hK.out _ _ (Kp.refl _) rfl
              · intro a w' hk hF hD K hK
                have h39 : a.tmps[39]?.getD undef = .bool true := hD 0 (by kernel_rfl)
                clear hF hD
                go_simp
                exact hK.out _ _ (Kp.refl _) rfl
              · intro a w' hk hF hD K hK
                have h1 : a.tmps[1]?.getD undef = .slice (some ⟨g1, o1, none⟩) es.length c := hF 1 (by kernel_rfl)
                have h40 : a.tmps[40]?.getD undef = .bool true := hD 1 (by kernel_rfl)
                have g40 := guard_get h40
                clear hF hD
                go_simp
                exact hK.out _ _ (Kp.refl _) rfl
              · intro a w' hk hF hD K hK
                have h12 : a.tmps[12]?.getD undef = .int .i64 (k : Int) := hF 12 (by kernel_rfl)
                have h40 : a.tmps[40]?.getD undef = .bool true := hD 1 (by kernel_rfl)
                have g40 := guard_get h40
                clear hF hD
                go_simp
                exact hK.out _ _ (Kp.refl _) rfl
              · intro a w' hk hF hD K hK
                have h41 : a.tmps[41]?.getD undef = .slice (some ⟨g1, o1, none⟩) es.length c := hD 2 (by kernel_rfl)
                have h42 : a.tmps[42]?.getD undef = .int .i64 (k : Int) := hD 3 (by kernel_rfl)
                have h40 : a.tmps[40]?.getD undef = .bool true := hD 1 (by kernel_rfl)
                have g40 := guard_get h40
                clear hF hD
                go_simp
                exact hK.out _ _ (Kp.refl _) rfl
              · intro a w' hk hF hD K hK
                have h43 : a.tmps[43]?.getD undef = .pointer (some ⟨g1, o1 + k, none⟩) := hD 4 (by kernel_rfl)
                have h40 : a.tmps[40]?.getD undef = .bool true := hD 1 (by kernel_rfl)
                have g40 := guard_get h40
                clear hF hD
                have z := hk.cellS i1
                go_simp
                exact hK.out _ _ (Kp.refl _) rfl
              · intro a w' hk hF hD K hK
                have h44 : a.tmps[44]?.getD undef = .bool false := hD 5 (by kernel_rfl)
                have h40 : a.tmps[40]?.getD undef = .bool true := hD 1 (by kernel_rfl)
                have g40 := guard_get h40
                clear hF hD
                go_simp
                exact hK.out _ _ (Kp.refl _) rfl
              · intro a w' hk hF hD K hK
                have h40 : a.tmps[40]?.getD undef = .bool true := hD 1 (by kernel_rfl)
                have h45 : a.tmps[45]?.getD undef = .bool true := hD 6 (by kernel_rfl)
                clear hF hD
                go_simp
                exact hK.out _ _ (Kp.refl _) rfl
              · intro a w' hk hF hD K hK
                have h46 : a.tmps[46]?.getD undef = .bool true := hD 7 (by kernel_rfl)
                clear hF hD
                go_simp
                exact hK.out _ _ (Kp.refl _) rfl
              · intro a w' hk hF hD K hK
                have h7 : a.tmps[7]?.getD undef = .pointer (some ⟨b0, 0, none⟩) := hF 7 (by kernel_rfl)
                have h47 : a.tmps[47]?.getD undef = .bool true := hD 8 (by kernel_rfl)
                have g47 := guard_get h47
                clear hF hD
                have z0 := hk.cellS c0
                have z1 := hk.cellS c1
                go_simp
                exact hK.out _ _ (Kp.refl _) rfl
              · intro a w' hk hF hD K hK
                have h12 : a.tmps[12]?.getD undef = .int .i64 (k : Int) := hF 12 (by kernel_rfl)
                have h47 : a.tmps[47]?.getD undef = .bool true := hD 8 (by kernel_rfl)
                have g47 := guard_get h47
                clear hF hD
                go_simp
                exact hK.out _ _ (Kp.refl _) rfl
              · intro a w' hk hF hD K hK
                have h0 : a.tmps[0]?.getD undef = .int .i64 (n : Int) := hF 0 (by kernel_rfl)
                have h47 : a.tmps[47]?.getD undef = .bool true := hD 8 (by kernel_rfl)
                have g47 := guard_get h47
                clear hF hD
                go_simp
                exact hK.out _ _ (Kp.refl _) rfl
              · intro a w' hk hF hD K hK
                have h49 : a.tmps[49]?.getD undef = .int .i64 (k : Int) := hD 10 (by kernel_rfl)
                have h50 : a.tmps[50]?.getD undef = .int .i64 (n : Int) := hD 11 (by kernel_rfl)
                have h47 : a.tmps[47]?.getD undef = .bool true := hD 8 (by kernel_rfl)
                have g47 := guard_get h47
                clear hF hD
                go_simp
                exact hK.out _ _ (Kp.refl _) rfl
              · intro a w' hk hF hD K hK
                have h12 : a.tmps[12]?.getD undef = .int .i64 (k : Int) := hF 12 (by kernel_rfl)
                have h47 : a.tmps[47]?.getD undef = .bool true := hD 8 (by kernel_rfl)
                have g47 := guard_get h47
                clear hF hD
                go_simp
                exact hK.out _ _ (Kp.refl _) rfl
              · intro a w' hk hF hD K hK
                have h0 : a.tmps[0]?.getD undef = .int .i64 (n : Int) := hF 0 (by kernel_rfl)
                have h47 : a.tmps[47]?.getD undef = .bool true := hD 8 (by kernel_rfl)
                have g47 := guard_get h47
                clear hF hD
                go_simp
                exact hK.out _ _ (Kp.refl _) rfl
              · intro a w' hk hF hD K hK
                have h52 : a.tmps[52]?.getD undef = .int .i64 (k : Int) := hD 13 (by kernel_rfl)
                have h53 : a.tmps[53]?.getD undef = .int .i64 (n : Int) := hD 14 (by kernel_rfl)
                have h47 : a.tmps[47]?.getD undef = .bool true := hD 8 (by kernel_rfl)
                have g47 := guard_get h47
                clear hF hD
                have hwq : IntKind.i64.wrap ((kq : Nat) : Int) = (kq : Int) := IntWalk.i64_in _ (by omega)
                go_simp
                exact hK.out _ _ (Kp.refl _) rfl
              · intro a w' hk hF hD K hK
                have h48 : a.tmps[48]?.getD undef = .agg #[.int .i64 (n : Int), .slice (some ⟨g1, o1, none⟩) es.length c] := hD 9 (by kernel_rfl)
                have h51 : a.tmps[51]?.getD undef = .int .i64 (km : Int) := hD 12 (by kernel_rfl)
                have h54 : a.tmps[54]?.getD undef = .int .i64 (kq : Int) := hD 15 (by kernel_rfl)
                have h47 : a.tmps[47]?.getD undef = .bool true := hD 8 (by kernel_rfl)
                have g47 := guard_get h47
                clear hF hD
                go_simp
                refine (dPath_any _ n es km kq _ (HG.out.kp hk) hmn hqn).mono ?_
                rintro e w9 ⟨vp, rfl, hp, hk9⟩
                obtain ⟨Ap, cp, rfl, -, -⟩ := hp.form
                rw [castL_len, HPL.out]
                exact hK.out _ _ hk9 ⟨_, _, rfl⟩
              · intro a w' hk hF hD K hK
                have h55 : (fun u _ => ∃ Ap cp, u = .slice Ap pl cp) (a.tmps[55]?.getD undef) w' := hD 16 (by kernel_rfl)
                have h47 : a.tmps[47]?.getD undef = .bool true := hD 8 (by kernel_rfl)
                have g47 := guard_get h47
                clear hF hD
                obtain ⟨Ap, cp, e55⟩ := h55
                go_simp
                exact hK.out _ _ (Kp.refl _) rfl
              · intro a w' hk hF hD K hK
                have h56 : a.tmps[56]?.getD undef = .int .i64 (pl : Int) := hD 17 (by kernel_rfl)
                have h47 : a.tmps[47]?.getD undef = .bool true := hD 8 (by kernel_rfl)
                have g47 := guard_get h47
                clear hF hD
                go_simp
                exact hK.out _ _ (Kp.refl _) rfl
              · exact fun i0 hi0 => by simp at hi0
              intro v w9 k9 hv
              have v8 : v 8 = .bool true := hv 8 (by omega)
              have v18 : v 18 = .bool pb := hv 18 (by omega)
              clear hv
              simp only [G2.growPut, G2.gSlot, List.getElem?_toArray, List.getElem?_cons_zero, List.getElem?_cons_succ, Option.bind_some, List.setIfInBounds_toArray, List.set_cons_zero, List.set_cons_succ, List.drop_succ_cons, List.drop_zero, v8, v18]
              clear hpb hpb2 ht hq hq2
              cases pb with
              | false =>
                have HFB := HFB1
                go_wp2_with fail
                go_roundw
                case rel => exact ⟨k + 1, L, by omega, by go_num, own.kp k9, hid (by rw [HFS.out, HFB.out, ← HLk.out]; simp), kr.trans k9, hB.kp k9 lb, Nat.lt_of_lt_of_le lb k9.size⟩
                case measure => simp [intOf]; omega
              | true =>
                have hLl : L.length ≤ 36 := by rw [HLk.out]; have := HLe.out; omega
                have own9 := own.kp k9
                have kr9 := kr.trans k9
                have hB9 := hB.kp k9 lb
                have hz9 := k9.size
                have hb9 : b0 + 1 ≤ w9.heap.size := by omega
                clear own kr hB k9 i1 i2 c0 c1
                go_upto_region 11 with (at_builtin; refine wpl_append_flat rfl (.tmp 59) (.tmp 61) rfl stIntM encInt_len encInt_one rfl (own9.alloc _) rfl (Sl.one (R := Pl encInt) w9 _ 3 1 (k : Int) rfl rfl) (by simp; omega) (by simp; omega) (by simp; omega) ?_; intro vA wA ownA hgr hat hnil)
                have hgrA : (w9.alloc (.cells #[.int .i64 (k : Int)] 3)).grownBy wA (Value.slice Ao L.length co).ownBlock := hgr
                have hge := own9.ge
                have hsA := hgrA.size
                have hsa := alloc_lt w9 (.cells #[.int .i64 (k : Int)] 3)
                have krA := (kr9.alloc (.cells #[.int .i64 (k : Int)] 3)).grown hgrA (fun q hq => by have := hge q hq; omega)
                have hBA := (hB9.kp ((Kp.refl w9).alloc (.cells #[.int .i64 (k : Int)] 3)) (by omega)).grown hgrA (fun e => by have := hge b0 e; omega) (by omega)
                clear hgr hat hnil hgrA own9 kr9 hB9
                go_wp2_with fail
                go_roundw
                case rel => exact ⟨k + 1, L ++ [(k : Int)], by omega, by go_num, ownA, hid (by rw [HFS.out, HFB1.out, ← HLk.out]; rfl), krA, hBA, by omega⟩
                case measure => simp [intOf]; omega
        · obtain rfl : k = ps.length := by omega
          have hkl : ¬ (ps.length : Int) < (ps.length : Int) := by omega
          go_wp2
          go_ret
          exact ⟨_, rfl, by rw [HF.out, ← HLk.out]; exact own.sl encInt_len, kr⟩
end Go.Proofs.Ytlkabhjkncklnaa
