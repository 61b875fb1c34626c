
/-
Clocks side by side: alike, Join, Compare, Missing, Zero, Advance: the walks.
-/
import Derived.Test.YtcddllaljgfjbaaClA
namespace Go.Proofs.Ytcddllaljgfjbaa
set_option linter.unusedSimpArgs false
set_option linter.unusedVariables false
open Go.RowKit

/-- a slice of integers as an element -/
def rdIs : Rd (List Int) := fun w cs x => ∃ v, cs = [v] ∧ Ints w v x
theorem rdIs_stable : Stable rdIs := fun _ _ _ _ hk ⟨v, e, h⟩ => ⟨v, e, h.keep (pl_stable _) hk⟩
abbrev IsL := Sl rdIs 1
theorem Sl.isAt {w : World} {A : Option Addr} {n c : Nat} {l : List (List Int)} (h : IsL w (.slice A n c) l) {k : Nat} (hk : k < l.length) :
    ∃ b o A' c', A = some ⟨b, o, none⟩ ∧ b < w.heap.size ∧ w.cell? ⟨b, o + k, none⟩ = some (.slice A' l[k].length c') ∧ Ints w (.slice A' l[k].length c') l[k] := by
  obtain ⟨b, o, cs, hA, had, hcs, hc, v, rfl, hr⟩ := h.at_ hk
  have hr' := hr
  obtain ⟨A', c', e, -, -⟩ := hr.form
  exact ⟨b, o, A', c', hA, had, by rw [← e]; simpa using hc 0 _ rfl, by rw [← e]; exact hr'⟩
/-- two slices in a new block -/
theorem isL2 (w : World) {va vb : Value} {a b : List Int} (ha : Ints w va a) (hb : Ints w vb b) : IsL (w.alloc (.cells #[va, vb] 27)) (.slice (some ⟨w.heap.size, 0, none⟩) 2 2) [a, b] := by
  have k0 := (Kp.refl w).alloc (.cells #[va, vb] 27)
  refine ⟨_, 2, rfl, by simp, by omega, fun k hk => ?_⟩
  have hk2 : k = 0 ∨ k = 1 := by simp at hk; omega
  rcases hk2 with rfl | rfl
  · exact ⟨w.heap.size, 0, [va], rfl, by simp, rfl, fun j u hj => by
      have hj0 : j = 0 := by have := (List.getElem?_eq_some_iff.1 hj).1; simpa using this
      subst hj0
      exact alloc_cell w _ _ 0 (by simpa using hj), _, rfl, ha.keep (pl_stable _) k0⟩
  · exact ⟨w.heap.size, 0, [vb], rfl, by simp, rfl, fun j u hj => by
      have hj0 : j = 0 := by have := (List.getElem?_eq_some_iff.1 hj).1; simpa using this
      subst hj0
      exact alloc_cell w _ _ 1 (by simpa using hj), _, rfl, hb.keep (pl_stable _) k0⟩
def alikeG (n : Nat) (c : List Int) : Bool := validC c && decide (c.length = n)
def alikeL (l : List (List Int)) : Bool := l.all (alikeG (l.headD []).length) && decide (0 < l.length)
theorem alikeL_no {l : List (List Int)} {k : Nat} (hk : k < l.length) (h : alikeG (l.headD []).length l[k] = false) : alikeL l = false := by
  unfold alikeL
  have : l.all (alikeG (l.headD []).length) = false := by
    rw [List.all_eq_false]
    exact ⟨l[k], List.getElem_mem hk, by rw [h]; decide⟩
  rw [this]
  rfl
theorem headD_at {l : List (List Int)} (h : 0 < l.length) : l.headD [] = l[0] := by
  cases l with
  | nil => cases h
  | cons x l => rfl
def alike2 (a b : List Int) : Bool := validC a && validC b && decide (b.length = a.length)
theorem alikeL_two (a b : List Int) : alikeL [a, b] = alike2 a b := by
  unfold alikeL alike2 alikeG
  simp [Bool.and_assoc]
set_option maxHeartbeats 4000000 in
theorem cAlike_any (l : List (List Int)) (v : Value) (w : World) (hS : IsL w v l) : Calls Try.prog 57 #[v] w fun e w' => e = .returned (.bool (alikeL l)) ∧ Kp w w' := by
  obtain ⟨A, cp, rfl, hc, hm⟩ := hS.form
  go_enter Try.func57, Try.ntmps57
  go_wp2
  go_loopw [7] (fun i wr => ∃ k : Nat, k ≤ l.length ∧ i = .int .i64 k ∧ Hid (∀ x ∈ l.take k, alikeG (l.headD []).length x = true) ∧ Kp w wr) (fun i _ => l.length - (intOf i).toNat)
  case atStart => exact ⟨0, Nat.zero_le _, rfl, hid (fun x hx => by simp at hx), Kp.refl _⟩
  case round =>
    obtain ⟨k, hk, rfl, HF, kr⟩ := hrel
    by_cases hlt : k < l.length
    · have hkl : (k : Int) < (l.length : Int) := by omega
      have hl0 : 0 < l.length := by omega
      obtain ⟨b, o, A1, c1, rfl, hb, i0, h1⟩ := (hS.keep rdIs_stable kr).isAt hlt
      obtain ⟨b', o', A2, c2, hA', hb', i1, h2⟩ := (hS.keep rdIs_stable kr).isAt hl0
      injection hA' with hA'
      injection hA' with hA1 hA2 _
      subst hA1 hA2
      simp only [Nat.add_zero] at i1
      have HN := hid (alikeL_no hlt)
      have HT := hid (List.take_succ_eq_append_getElem hlt)
      have HH := headD_at hl0
      rw [HH] at HN HF
      generalize l[k] = x at *
      generalize l[0] = y at *
      have hbw : b < wr.heap.size := hb
      go_wp2_with fail
      refine (cValid_any x (.slice A1 x.length c1) wr h1).mono ?_
      rintro e w2 ⟨rfl, k2⟩
      replace i1 := k2.cellS i1
      have hbw2 : b < w2.heap.size := block_lt_of_cell i1
      cases hv : validC x with
      | false =>
        have HG : Hid (alikeL l = false) := hid (HN.out (by unfold alikeG; rw [hv]; rfl))
        clear HN HT HF i0 HH
        go_wp2_with fail
        go_ret
        exact ⟨ret_bool HG.out.symm, kr.trans k2⟩
      | true =>
        by_cases he : x.length = y.length
        · have e1 : ((x.length : Int) != (y.length : Int)) = false := by simp; omega
          have HF2 : Hid (∀ z ∈ l.take (k + 1), alikeG (l.headD []).length z = true) := hid (fun z hz => by
            rw [HT.out] at hz
            rw [HH]
            rcases List.mem_append.1 hz with hz | hz
            · exact HF.out z hz
            · simp only [List.mem_singleton] at hz
              subst hz
              unfold alikeG
              rw [hv, decide_eq_true he]
              rfl)
          replace he := hid he
          clear HN HT HF i0 HH
          go_wp2_with fail
          go_roundw
          case rel => exact ⟨k + 1, by omega, by go_num, HF2, kr.trans k2⟩
          case measure => simp [intOf]; omega
        · have e1 : ((x.length : Int) != (y.length : Int)) = true := by simp; omega
          have HG : Hid (alikeL l = false) := hid (HN.out (by unfold alikeG; rw [decide_eq_false he, Bool.and_false]))
          replace he := hid he
          clear HN HT HF i0 HH
          go_wp2_with fail
          go_ret
          exact ⟨ret_bool HG.out.symm, kr.trans k2⟩
    · have hkl : ¬ (k : Int) < (l.length : Int) := by omega
      obtain rfl : k = l.length := by omega
      have HG : Hid (alikeL l = decide ((0 : Int) < (l.length : Int))) := hid (by
        have h1 := HF.out
        rw [List.take_length] at h1
        unfold alikeL
        rw [List.all_eq_true.2 h1, Bool.true_and, Bool.eq_iff_iff]
        simp only [decide_eq_true_eq]
        omega)
      clear HF
      by_cases h0 : 0 < l.length
      · have e1 : decide ((0 : Int) < (l.length : Int)) = true := decide_eq_true (by omega)
        rw [e1] at HG
        go_wp2
        go_ret
        exact ⟨ret_bool HG.out.symm, kr⟩
      · have e1 : decide ((0 : Int) < (l.length : Int)) = false := decide_eq_false (by omega)
        rw [e1] at HG
        have e2 : ¬ (0 : Int) < (l.length : Int) := by omega
        go_wp2
        go_ret
        exact ⟨ret_bool HG.out.symm, kr⟩
/-! Zero -/
def zeroC (n : Int) : List Int := if n < 1 ∨ 5 < n then [] else List.replicate n.toNat 0
set_option maxHeartbeats 1600000 in
theorem cZero_any (n : Int) (w : World) : Calls Try.prog 25 #[.int .i64 n] w fun e w' => ∃ v, e = .returned v ∧ Own encInt 3 1 w.heap.size w' v (zeroC n) ∧ Kp w w' ∧ (zeroC n = [] → v = .slice none 0 0) := by
  by_cases h1 : n < 1
  · have e1 : decide (n < 1) = true := decide_eq_true h1
    have HX : Hid (zeroC n = []) := hid (if_pos (.inl h1))
    go_enter Try.func25, Try.ntmps25
    go_wp2
    go_ret
    exact ⟨_, rfl, by rw [HX.out]; exact Own.nil _ _ _ _ _, Kp.refl _, fun _ => rfl⟩
  · have e1 : decide (n < 1) = false := decide_eq_false h1
    by_cases h2 : 5 < n
    · have e2 : decide (5 < n) = true := decide_eq_true h2
      have HX : Hid (zeroC n = []) := hid (if_pos (.inr h2))
      go_enter Try.func25, Try.ntmps25
      go_wp2
      go_ret
      exact ⟨_, rfl, by rw [HX.out]; exact Own.nil _ _ _ _ _, Kp.refl _, fun _ => rfl⟩
    · have e2 : decide (5 < n) = false := decide_eq_false h2
      obtain ⟨k, rfl⟩ : ∃ k : Nat, n = (k : Int) := ⟨n.toNat, by omega⟩
      have HX : Hid (zeroC (k : Int) = List.replicate k 0) := hid (by unfold zeroC; rw [if_neg (by omega), Int.toNat_natCast])
      go_enter Try.func25, Try.ntmps25
      go_wp2_with (refine wpl_make_flat (enc := encInt) (base := w.heap.size) rfl (.tmp 9) (.tmp 9) rfl stI (0 : Int) (zero_of (u := .int .i64 0) (by kernel_rfl) rfl) k rfl rfl (by omega) (by omega) (Nat.le_refl _) ?_; intro w1 own1 k1 z1)
      go_ret
      exact ⟨_, rfl, by rw [HX.out]; have h := own1; unfold Own at h ⊢; rw [List.length_replicate] at h ⊢; exact h, k1, fun h => by
        rw [HX.out] at h
        have := congrArg List.length h
        simp at this
        omega⟩
/-! Join -/
def joinZ (a b : List Int) : List Int := List.zipWith max a b
def joinC (a b : List Int) : List Int := if alike2 a b then joinZ a b else []
theorem alike2_iff {a b : List Int} : alike2 a b = true ↔ validC a = true ∧ validC b = true ∧ b.length = a.length := by
  unfold alike2
  simp only [Bool.and_eq_true, decide_eq_true_eq, and_assoc]
theorem cJoin1_any (a b : Int) (w : World) : Calls Try.prog 56 #[.int .i64 a, .int .i64 b] w fun e w' => e = .returned (.int .i64 (max a b)) ∧ Kp w w' := by
  obtain ⟨m, hm⟩ : ∃ m, max a b = m := ⟨_, rfl⟩
  rw [hm]
  go_enter Try.func56, Try.ntmps56
  go_wp2
  all_goals go_ret
  all_goals exact ⟨ret_int (by omega), Kp.refl w⟩
theorem slice_from {P : Program} {t e size bytes : Nat} (hT : SliceT P t e size bytes) (g n c i : Nat) (h1 : i < n) (h2 : n ≤ c) (w : World) : (Instr.slice t (.slice (some ⟨g, 0, none⟩) n c) (some (.int .i64 (i : Int))) none none).run P w = .ok (.slice (some ⟨g, i * size, none⟩) (n - i) (c - i)) w := by
  obtain ⟨ti, z, hi, hz, hs, hb, hzs⟩ := hT.info
  have hsz : Sem.run P (sizeOf e) w = .ok size w := by simp [sizeOf, typeInfo, hi, hs]
  have hk : (i : Int) ≤ (n : Int) := by omega
  have hc : ¬ c = i := by omega
  have hc2 : ¬ c - i = 0 := by omega
  have ha : (⟨g, 0, none⟩ : Addr).add (i * size) = ⟨g, i * size, none⟩ := by unfold Addr.add; split <;> simp_all
  have hni : ¬ n < i := by omega
  unfold Instr.slice Instr.sliceBounds Instr.sliceBound
  simp [run_underlying hT.ht, hsz, hk, asIntOf, hc, hc2, ha, hni]
theorem stII : SliceT Try.prog 100 27 1 24 := SliceT.mk' Try.underlying100 (z := .slice none 0 0) (by kernel_rfl) rfl (by omega)
theorem zip_snoc (a b : List Int) (k : Nat) (ha : k < a.length) (hb : k < b.length) : ((joinZ a b).take k ++ a.drop k).set k (max a[k] b[k]) = (joinZ a b).take (k + 1) ++ a.drop (k + 1) := by
  have hz : (joinZ a b).length = min a.length b.length := by unfold joinZ; exact List.length_zipWith
  have h1 : ((joinZ a b).take k).length = k := by rw [List.length_take, hz]; omega
  rw [List.set_append_right _ _ (by omega), h1, Nat.sub_self, List.drop_eq_getElem_cons ha, List.set_cons_zero, List.take_succ_eq_append_getElem (by rw [hz]; omega), List.append_assoc]
  congr 1
  unfold joinZ
  rw [List.getElem_zipWith]
  rfl
theorem zip_len (a b : List Int) (k : Nat) (ha : k < a.length) (hb : k < b.length) : ((joinZ a b).take k ++ a.drop k).length = a.length := by
  have hz : (joinZ a b).length = min a.length b.length := by unfold joinZ; exact List.length_zipWith
  rw [List.length_append, List.length_take, List.length_drop, hz]
  omega
theorem zip_get (a b : List Int) (k : Nat) (ha : k < a.length) (hb : k < b.length) : ((joinZ a b).take k ++ a.drop k)[k]'(by rw [zip_len a b k ha hb]; exact ha) = a[k] := by
  have hz : (joinZ a b).length = min a.length b.length := by unfold joinZ; exact List.length_zipWith
  have h1 : ((joinZ a b).take k).length = k := by rw [List.length_take, hz]; omega
  rw [List.getElem_append_right (by omega)]
  simp [h1]
set_option maxRecDepth 8000 in
set_option maxHeartbeats 4000000 in
theorem cFold_any (a b : List Int) (g c : Nat) (w : World) (hS : IsL w (.slice (some ⟨g, 0, none⟩) 2 c) [a, b]) : Calls Try.prog 55 #[.func (.func 56) #[] #[], .slice (some ⟨g, 0, none⟩) 2 c] w fun e w' => ∃ v, e = .returned v ∧ Own encInt 3 1 w.heap.size w' v (joinC a b) ∧ Kp w w' := by
  have hc2 : 2 ≤ c := by
    obtain ⟨A', c', hfm, hcc, -⟩ := hS.form
    injection hfm with _ _ hfm
    subst hfm
    exact hcc
  have hsl : ∀ W, (Instr.slice 100 (.slice (some ⟨g, 0, none⟩) 2 c) (some (.int .i64 1)) none none).run Try.prog W = .ok (.slice (some ⟨g, 1, none⟩) 1 (c - 1)) W := fun W => slice_from stII g 2 c 1 (by omega) hc2 W
  go_enter Try.func55, Try.ntmps55
  go_wp2_with fail
  refine (cAlike_any [a, b] _ w hS).mono ?_
  rintro e w1 ⟨rfl, k1⟩
  rw [alikeL_two]
  cases hal : alike2 a b with
  | false =>
    have HX : Hid (joinC a b = []) := hid (by unfold joinC; rw [hal]; rfl)
    go_wp2
    go_ret
    exact ⟨_, rfl, by rw [HX.out]; exact Own.nil _ _ _ _ _, k1⟩
  | true =>
    have HX : Hid (joinC a b = joinZ a b) := hid (by unfold joinC; rw [hal]; rfl)
    obtain ⟨hva, hvb, hlen⟩ := alike2_iff.1 hal
    have hal1 := (validC_iff.1 hva).2
    replace hva := hid hva
    replace hvb := hid hvb
    replace hal := hid hal
    obtain ⟨ba, oa, A1, c1, hA, hba, i0, ha⟩ := (hS.keep rdIs_stable k1).isAt (k := 0) (by simp)
    injection hA with hA
    injection hA with hA1 hA2 _
    subst hA1 hA2
    simp only [List.getElem_cons_zero, Nat.add_zero] at i0 ha
    have hgw : g < w1.heap.size := hba
    go_wp2_with fail
    refine (CloneI_any (.slice A1 a.length c1) a w1 ha (by omega)).mono ?_
    rintro e w2 ⟨vo, rfl, own2, k2⟩
    obtain ⟨go, co, rfl, hco, hcm, hgo1, hgo2⟩ := own2.row (by omega)
    have hkw := k1.size
    have k02 := k1.trans k2
    have HL := hid hlen
    have HO : Hid (Own encInt 3 1 w1.heap.size w2 (.slice (some ⟨go, 0, none⟩) a.length co) a) := hid own2
    clear own2 hlen i0
    go_wp2_with fail
    go_loopw [20] (fun i wr => ∃ j : Nat, j ≤ 1 ∧ i = .int .i64 (j : Int) ∧ Kp w wr ∧ go < wr.heap.size ∧ Hid (Own encInt 3 1 w1.heap.size wr (.slice (some ⟨go, 0, none⟩) a.length co) (if j = 0 then a else joinZ a b))) (fun i _ => 1 - (intOf i).toNat)
    case atStart => exact ⟨0, by omega, rfl, k02, hgo2, HO⟩
    case round =>
      clear HO
      obtain ⟨j, hj, rfl, kr, hgr, HO⟩ := hrel
      obtain ⟨wo, hwo⟩ : ∃ wo, wo = wr := ⟨_, rfl⟩
      subst hwo
      by_cases hj0 : j = 0
      · subst hj0
        have HO1 : Hid (Own encInt 3 1 w1.heap.size wo (.slice (some ⟨go, 0, none⟩) a.length co) ((joinZ a b).take 0 ++ a.drop 0)) := hid (by have h := HO.out; rw [if_pos rfl] at h; simpa using h)
        obtain ⟨bb, ob, A2, c2, hA, hbb, i1w, hb⟩ := hS.isAt (k := 1) (by simp)
        injection hA with hA
        injection hA with hA1 hA2 _
        subst hA1 hA2
        simp only [List.getElem_cons_succ, List.getElem_cons_zero, Nat.zero_add] at i1w hb
        have i1 := kr.cellS i1w
        have hgw2 : g < wo.heap.size := block_lt_of_cell i1
        clear i1w
        have hji : (0 : Int) < 1 := by omega
        have HB := hid hb
        clear hb HO
        go_wp2_with fail
        go_loopw [26] (fun i wr => ∃ k : Nat, k ≤ b.length ∧ i = .int .i64 (k : Int) ∧ Kp w wr ∧ go < wr.heap.size ∧ Kg wo wr go ∧ Hid (Own encInt 3 1 w1.heap.size wr (.slice (some ⟨go, 0, none⟩) a.length co) ((joinZ a b).take k ++ a.drop k))) (fun i _ => b.length - (intOf i).toNat)
        case atStart => exact ⟨0, Nat.zero_le _, rfl, kr, hgr, Kg.refl _ _, HO1⟩
        case round =>
          clear HO1
          obtain ⟨k, hk, rfl, kq, hgq, kg, HO⟩ := hrel
          obtain ⟨wq, hwq⟩ : ∃ wq, wq = wr := ⟨_, rfl⟩
          subst hwq
          by_cases hkb : k < b.length
          · have hki : (k : Int) < (b.length : Int) := by omega
            have hka : k < a.length := by have := HL.out; omega
            obtain ⟨b2, o2, rfl, hb2, i2⟩ := (HB.out.keep (pl_stable _) kq).ints hkb
            have hzl := zip_len a b k hka hkb
            have ci := Own.intCell HO.out hzl.symm (k := k) (by omega)
            rw [zip_get a b k hka hkb] at ci
            have HZS := hid (zip_snoc a b k hka hkb)
            have HZL := hid hzl
            generalize b[k] = y at *
            generalize a[k] = x at *
            clear hzl
            have hkal : (k : Int) < (a.length : Int) := by omega
            go_wp2_with fail
            refine (cJoin1_any x y wq).mono ?_
            rintro e w5 ⟨rfl, k5⟩
            obtain ⟨m, hm⟩ : ∃ m, max x y = m := ⟨_, rfl⟩
            rw [hm] at HZS ⊢
            have HM := hid hm
            have own5 := Own.kp HO.out k5
            have hlz : ((joinZ a b).take k ++ a.drop k).length = a.length := HZL.out
            have ff := own5.frozen hlz.symm k
            replace ci := k5.cellS ci
            have HON : Hid (Own encInt 3 1 w1.heap.size (w5.setCell ⟨go, k, none⟩ (.int .i64 m)) (.slice (some ⟨go, 0, none⟩) a.length co) ((joinZ a b).take (k + 1) ++ a.drop (k + 1))) := hid (by
              have h := Own.intSet own5 hlz.symm (k := k) (by omega) m
              rw [HZS.out] at h
              exact h)
            have kgn := (kg.kp k5).set (p := ⟨go, k, none⟩) (.inl rfl) (.int .i64 m)
            have kqn := (kq.trans k5).set (p := ⟨go, k, none⟩) (Nat.le_trans hkw hgo1) (.int .i64 m)
            have hgn : go < (w5.setCell ⟨go, k, none⟩ (.int .i64 m)).heap.size := by have := k5.size; rw [set_size]; omega
            clear hm hlz own5 HO
            go_wp2_with fail
            go_roundw
            case rel => exact ⟨k + 1, by omega, by go_num, kqn, hgn, kgn, HON⟩
            case measure => simp [intOf]; omega
          · have hki : ¬ (k : Int) < (b.length : Int) := by omega
            have hkb2 : k = b.length := by omega
            have HOE : Hid (Own encInt 3 1 w1.heap.size wq (.slice (some ⟨go, 0, none⟩) a.length co) (joinZ a b)) := hid (by
              have h := HO.out
              have hl := HL.out
              rw [hkb2, List.take_of_length_le (by unfold joinZ; rw [List.length_zipWith]; omega), List.drop_of_length_le (by omega), List.append_nil] at h
              exact h)
            replace hkb2 := hid hkb2
            clear HO
            go_wp2_with fail
            go_roundw
            case rel => exact ⟨1, by omega, by go_num, kq, hgq, by simpa using HOE⟩
            case measure => simp [intOf]
      · have hj1 : j = 1 := by omega
        subst hj1
        have hji : ¬ (1 : Int) < 1 := by omega
        have hO := HO.out
        rw [if_neg (by omega)] at hO
        go_wp2
        go_ret
        exact ⟨_, rfl, by rw [HX.out]; exact hO.less hkw, kr⟩
end Go.Proofs.Ytcddllaljgfjbaa
