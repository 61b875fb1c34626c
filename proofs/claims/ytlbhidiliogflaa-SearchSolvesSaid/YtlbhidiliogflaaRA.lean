/-
The reference's edges and its test for cycles: the walks.
The reference's test for cycles: the walk.
-/
import Derived.Test.YtlbhidiliogflaaSB
import Derived.Test.YtlbhidiliogflaaGM
namespace Go.Proofs.Ytlbhidiliogflaa
set_option linter.unusedSimpArgs false
set_option linter.unusedVariables false
open Go.RowKit

theorem srcBool (w : World) (x : Bool) : Bools (w.alloc (.cells #[.bool x] 4)) (.slice (some ⟨w.heap.size, 0, none⟩) 1 1) [x] := Sl.one w [.bool x] _ 1 x rfl rfl
/-- the edges of a graph for values -/
def edgesL (f : Nat) (le vs : List Int) (n : Nat) : List Bool := (List.range n).map fun j => decide (le.getD j 0 ≤ vs.getD (f + j) 0)
theorem edgesL_len (f : Nat) (le vs : List Int) (n : Nat) : (edgesL f le vs n).length = n := by simp [edgesL]
theorem edgesL_snoc (f : Nat) (le vs : List Int) (n : Nat) : edgesL f le vs (n + 1) = edgesL f le vs n ++ [decide (le.getD n 0 ≤ vs.getD (f + n) 0)] := by simp [edgesL, List.range_succ]
set_option maxRecDepth 8000 in
set_option maxHeartbeats 8000000 in
theorem qEdges_any (va vv : Value) (g : Gr) (vs : List Int) (n : Nat) (w : World) (hg : GrV w va g) (hv : Ints w vv vs) (hok : grOk n g = true) (hn : vs.length = n) (hn2 : n ≤ 1000) :
    Calls Try.prog 55 #[va, vv] w fun e w' => ∃ v, e = .returned v ∧ Own encBool 4 1 w.heap.size w' v (edgesL g.first.toNat g.least vs (g.size.toNat * g.size.toNat)) ∧ Kp w w' := by
  obtain ⟨A, c, rfl, hl⟩ := hg
  obtain ⟨fi, sz, le⟩ := g
  unfold grOk at hok
  dsimp only at *
  rw [Bool.and_eq_true, decide_eq_true_eq] at hok
  obtain ⟨⟨a1, a2, a3, a4, a5⟩, -⟩ := hok
  obtain ⟨s, rfl⟩ := Int.eq_ofNat_of_zero_le (show 0 ≤ sz by omega)
  obtain ⟨f, rfl⟩ := Int.eq_ofNat_of_zero_le a3
  simp only [Int.toNat_natCast]
  have hs1 : 1 ≤ s := by omega
  have hs6 : s ≤ 6 := by omega
  have hss : ((s * s : Nat) : Int) = (s : Int) * (s : Int) := by simp
  have hll : le.length = s * s := by omega
  have hvl : f + s * s ≤ vs.length := by omega
  have hf : f ≤ 1000 := by omega
  have hsq : s * s ≤ 36 := Nat.mul_le_mul hs6 hs6
  obtain ⟨m, hm0⟩ : ∃ m, m = s * s := ⟨_, rfl⟩
  rw [← hm0] at hll hvl hsq ⊢
  obtain ⟨wm1, wm2⟩ : IntKind.i64.wrap ((s : Int) * (s : Int)) = (m : Int) ∧ wrap64 ((s : Int) * (s : Int)) = (m : Int) := by
    rw [← hss, ← hm0]
    exact ⟨IntWalk.i64_in _ (by omega), IntWalk.wrap64_in _ (by omega)⟩
  have hmp : 1 ≤ m := by rw [hm0]; exact Nat.mul_pos hs1 hs1
  clear a1 a2 a3 a4 a5 hss hn hm0
  have Hl := hid hll
  have Hv := hid hvl
  obtain ⟨A', c', rfl, hc', hm'⟩ := hv.form
  obtain ⟨hc, hm⟩ := hl.caps
  have k0 := (Kp.refl w).alloc (.cells #[.int .i64 (f : Int), .int .i64 (s : Int), .slice A le.length c] 90)
  have c0 := alloc_cell w #[.int .i64 (f : Int), .int .i64 (s : Int), .slice A le.length c] 90 0 rfl
  have c1 := alloc_cell w #[.int .i64 (f : Int), .int .i64 (s : Int), .slice A le.length c] 90 1 rfl
  have c2 := alloc_cell w #[.int .i64 (f : Int), .int .i64 (s : Int), .slice A le.length c] 90 2 rfl
  have z0 := alloc_lt w (.cells #[.int .i64 (f : Int), .int .i64 (s : Int), .slice A le.length c] 90)
  have hz0 : (w.alloc (.cells #[.int .i64 (f : Int), .int .i64 (s : Int), .slice A le.length c] 90)).heap.size = w.heap.size + 1 := by simp
  clear hll hvl
  go_enter Try.func55, Try.ntmps55
  go_wp2
  generalize w.alloc (.cells #[.int .i64 (f : Int), .int .i64 (s : Int), .slice A le.length c] 90) = w0 at *
  generalize hb0 : w.heap.size = b at *
  replace hb0 := hid hb0
  have hz0' := hid hz0
  clear hz0
  go_loopw [5, 6] (fun v i wr => ∃ k : Nat, k ≤ m ∧ i = .int .i64 k ∧ Own encBool 4 1 (b + 1) wr v (edgesL f le vs k) ∧ Kp w0 wr) (fun _ i _ => m - (intOf i).toNat)
  case atStart => exact ⟨0, Nat.zero_le _, rfl, by
    have h := Own.lit (base := b + 1) (e := 4) (size := 1) encBool w0 #[] [] (by have := hz0'.out; omega) (by simp) rfl rfl
    rw [hz0'.out] at h
    exact h, (Kp.refl _).alloc _⟩
  case round =>
    obtain ⟨k, hk, rfl, hown, hbel⟩ := hrel
    have d0 := hbel.cellS c0
    have d1 := hbel.cellS c1
    have d2 := hbel.cellS c2
    have hgl := block_lt_of_cell d0
    have hsz := hbel.size
    have hbk := k0.trans hbel
    by_cases hlt : k < m
    · obtain ⟨pv, ov, rfl, hpv, cv⟩ := (hv.keep (pl_stable _) hbk).ints (k := f + k) (by have := Hv.out; omega)
      obtain ⟨pl, ol, rfl, hpl, cl⟩ := (hl.keep (pl_stable _) hbk).ints (k := k) (by have := Hl.out; omega)
      have HS : Hid (edgesL f le vs (k + 1) = edgesL f le vs k ++ [decide (le[k]'(by have := Hl.out; omega) ≤ vs[f + k]'(by have := Hv.out; omega))]) := hid (by
        rw [edgesL_snoc]
        have h1 := Hl.out
        have h2 := Hv.out
        have h3 : k < le.length := by omega
        have h4 : f + k < vs.length := by omega
        simp [List.getD, h3, h4])
      generalize le[k]'(by have := Hl.out; omega) = y at *
      generalize vs[f + k]'(by have := Hv.out; omega) = z at *
      have hel := edgesL_len f le vs k
      generalize edgesL f le vs k = L at *
      obtain ⟨A5, c5, rfl, _, _⟩ := hown.form
      have q1 : (0 : Int) ≤ (f : Int) + (k : Int) := by omega
      have q2 : (f : Int) + (k : Int) < vs.length := by have := Hv.out; omega
      have q3 : (k : Int) < le.length := by have := Hl.out; omega
      have q4 : ((f : Int) + (k : Int)).toNat = f + k := by omega
      have w1 : IntKind.i64.wrap ((f : Int) + (k : Int)) = (f : Int) + (k : Int) := IntWalk.i64_in _ (by omega)
      have q5 : (k : Int) < m := by omega
      replace hel := hid hel
      have hvl2 := hv.caps
      go_wp2
      refine G2.wp_region_growG Kp [] 15 34 (G2.pvL [G2.eqv (.slice A5 L.length c5), G2.eqv (.slice (some ⟨pv, ov, none⟩) vs.length c'), G2.eqv (.pointer (some ⟨b, 0, none⟩)), G2.eqv (.int .i64 (f : Int)), G2.eqv (.int .i64 (k : Int)), G2.eqv (.int .i64 ((f : Int) + (k : Int))), G2.eqv (.pointer (some ⟨pv, ov + (f + k), none⟩)), G2.eqv (.int .i64 z), G2.eqv (.pointer (some ⟨b, 2, none⟩)), G2.eqv (.slice (some ⟨pl, ol, none⟩) le.length c), G2.eqv (.int .i64 (k : Int)), G2.eqv (.pointer (some ⟨pl, ol + k, none⟩)), G2.eqv (.int .i64 y), G2.eqv (.bool (decide (y ≤ z))), (G2.newSl encBool 1 [decide (y ≤ z)])]) (by kernel_rfl) (by kernel_rfl) rfl (fun x => Kp.refl x) (fun _ _ _ h k => h.trans k) (Kp.refl _).drew (fun _ _ _ _ _ h => h) (G2.pvL_keep (G2.stabL_cons (G2.stab_eq _) (G2.stabL_cons (G2.stab_eq _) (G2.stabL_cons (G2.stab_eq _) (G2.stabL_cons (G2.stab_eq _) (G2.stabL_cons (G2.stab_eq _) (G2.stabL_cons (G2.stab_eq _) (G2.stabL_cons (G2.stab_eq _) (G2.stabL_cons (G2.stab_eq _) (G2.stabL_cons (G2.stab_eq _) (G2.stabL_cons (G2.stab_eq _) (G2.stabL_cons (G2.stab_eq _) (G2.stabL_cons (G2.stab_eq _) (G2.stabL_cons (G2.stab_eq _) (G2.stabL_cons (G2.stab_eq _) (G2.stabL_cons (G2.stab_newSl _ _ _) (G2.stabL_nil))))))))))))))))) ?_ ?_ ?_
      · intro i0 hi0
        have hi' : i0 = 0 ∨ i0 = 1 ∨ i0 = 2 ∨ i0 = 3 ∨ i0 = 4 ∨ i0 = 5 ∨ i0 = 6 ∨ i0 = 7 ∨ i0 = 8 ∨ i0 = 9 ∨ i0 = 10 ∨ i0 = 11 ∨ i0 = 12 ∨ i0 = 13 ∨ i0 = 14 := by omega
        rcases hi' with rfl | rfl | rfl | rfl | rfl | rfl | rfl | rfl | rfl | rfl | rfl | rfl | rfl | rfl | rfl
        · intro a w' hk hF hD K hK
          simp only [List.getElem?_toArray, List.getElem?_cons_zero, List.getElem?_cons_succ, Option.map_some, Option.getD_some]
          have h5 : a.tmps[5]?.getD undef = .slice A5 L.length c5 := hF 5 (by kernel_rfl)
          clear hF hD
          go_simp
          exact hK.out _ _ (Kp.refl _) rfl
        · intro a w' hk hF hD K hK
          simp only [List.getElem?_toArray, List.getElem?_cons_zero, List.getElem?_cons_succ, Option.map_some, Option.getD_some]
          have h1 : a.tmps[1]?.getD undef = .slice (some ⟨pv, ov, none⟩) vs.length c' := hF 1 (by kernel_rfl)
          clear hF hD
          go_simp
          exact hK.out _ _ (Kp.refl _) rfl
        · intro a w' hk hF hD K hK
          simp only [List.getElem?_toArray, List.getElem?_cons_zero, List.getElem?_cons_succ, Option.map_some, Option.getD_some]
          have h2 : a.tmps[2]?.getD undef = .pointer (some ⟨b, 0, none⟩) := hF 2 (by kernel_rfl)
          clear hF hD
          go_simp
          exact hK.out _ _ (Kp.refl _) rfl
        · intro a w' hk hF hD K hK
          simp only [List.getElem?_toArray, List.getElem?_cons_zero, List.getElem?_cons_succ, Option.map_some, Option.getD_some]
          have h19 : a.tmps[19]?.getD undef = .pointer (some ⟨b, 0, none⟩) := hD 2 (by kernel_rfl)
          clear hF hD
          have z1 := hk.cellS d0
          go_simp
          exact hK.out _ _ (Kp.refl _) rfl
        · intro a w' hk hF hD K hK
          simp only [List.getElem?_toArray, List.getElem?_cons_zero, List.getElem?_cons_succ, Option.map_some, Option.getD_some]
          have h6 : a.tmps[6]?.getD undef = .int .i64 (k : Int) := hF 6 (by kernel_rfl)
          clear hF hD
          go_simp
          exact hK.out _ _ (Kp.refl _) rfl
        · intro a w' hk hF hD K hK
          simp only [List.getElem?_toArray, List.getElem?_cons_zero, List.getElem?_cons_succ, Option.map_some, Option.getD_some]
          have h20 : a.tmps[20]?.getD undef = .int .i64 (f : Int) := hD 3 (by kernel_rfl)
          have h21 : a.tmps[21]?.getD undef = .int .i64 (k : Int) := hD 4 (by kernel_rfl)
          clear hF hD
          go_simp
          exact hK.out _ _ (Kp.refl _) rfl
        · intro a w' hk hF hD K hK
          simp only [List.getElem?_toArray, List.getElem?_cons_zero, List.getElem?_cons_succ, Option.map_some, Option.getD_some]
          have h18 : a.tmps[18]?.getD undef = .slice (some ⟨pv, ov, none⟩) vs.length c' := hD 1 (by kernel_rfl)
          have h22 : a.tmps[22]?.getD undef = .int .i64 ((f : Int) + (k : Int)) := hD 5 (by kernel_rfl)
          clear hF hD
          go_simp
          exact hK.out _ _ (Kp.refl _) rfl
        · intro a w' hk hF hD K hK
          simp only [List.getElem?_toArray, List.getElem?_cons_zero, List.getElem?_cons_succ, Option.map_some, Option.getD_some]
          have h23 : a.tmps[23]?.getD undef = .pointer (some ⟨pv, ov + (f + k), none⟩) := hD 6 (by kernel_rfl)
          clear hF hD
          have z1 := hk.cellS cv
          go_simp
          exact hK.out _ _ (Kp.refl _) rfl
        · intro a w' hk hF hD K hK
          simp only [List.getElem?_toArray, List.getElem?_cons_zero, List.getElem?_cons_succ, Option.map_some, Option.getD_some]
          have h2 : a.tmps[2]?.getD undef = .pointer (some ⟨b, 0, none⟩) := hF 2 (by kernel_rfl)
          clear hF hD
          go_simp
          exact hK.out _ _ (Kp.refl _) rfl
        · intro a w' hk hF hD K hK
          simp only [List.getElem?_toArray, List.getElem?_cons_zero, List.getElem?_cons_succ, Option.map_some, Option.getD_some]
          have h25 : a.tmps[25]?.getD undef = .pointer (some ⟨b, 2, none⟩) := hD 8 (by kernel_rfl)
          clear hF hD
          have z1 := hk.cellS d2
          go_simp
          exact hK.out _ _ (Kp.refl _) rfl
        · intro a w' hk hF hD K hK
          simp only [List.getElem?_toArray, List.getElem?_cons_zero, List.getElem?_cons_succ, Option.map_some, Option.getD_some]
          have h6 : a.tmps[6]?.getD undef = .int .i64 (k : Int) := hF 6 (by kernel_rfl)
          clear hF hD
          go_simp
          exact hK.out _ _ (Kp.refl _) rfl
        · intro a w' hk hF hD K hK
          simp only [List.getElem?_toArray, List.getElem?_cons_zero, List.getElem?_cons_succ, Option.map_some, Option.getD_some]
          have h26 : a.tmps[26]?.getD undef = .slice (some ⟨pl, ol, none⟩) le.length c := hD 9 (by kernel_rfl)
          have h27 : a.tmps[27]?.getD undef = .int .i64 (k : Int) := hD 10 (by kernel_rfl)
          clear hF hD
          go_simp
          exact hK.out _ _ (Kp.refl _) rfl
        · intro a w' hk hF hD K hK
          simp only [List.getElem?_toArray, List.getElem?_cons_zero, List.getElem?_cons_succ, Option.map_some, Option.getD_some]
          have h28 : a.tmps[28]?.getD undef = .pointer (some ⟨pl, ol + k, none⟩) := hD 11 (by kernel_rfl)
          clear hF hD
          have z1 := hk.cellS cl
          go_simp
          exact hK.out _ _ (Kp.refl _) rfl
        · intro a w' hk hF hD K hK
          simp only [List.getElem?_toArray, List.getElem?_cons_zero, List.getElem?_cons_succ, Option.map_some, Option.getD_some]
          have h24 : a.tmps[24]?.getD undef = .int .i64 z := hD 7 (by kernel_rfl)
          have h29 : a.tmps[29]?.getD undef = .int .i64 y := hD 12 (by kernel_rfl)
          clear hF hD
          go_simp
          exact hK.out _ _ (Kp.refl _) rfl
        · intro a w' hk hF hD K hK
          simp only [List.getElem?_toArray, List.getElem?_cons_zero, List.getElem?_cons_succ, Option.map_some, Option.getD_some]
          have h30 : a.tmps[30]?.getD undef = .bool (decide (y ≤ z)) := hD 13 (by kernel_rfl)
          clear hF hD
          go_simp
          exact hK.out _ _ ((Kp.refl w').alloc (.cells #[.bool (decide (y ≤ z))] 4)) (G2.newSl_one (cs := [.bool (decide (y ≤ z))]) w' 4 rfl rfl)
      · exact fun i0 hi0 => by simp at hi0
      intro v w9 k9 hv
      have v0 : v 0 = .slice A5 L.length c5 := hv 0 (by omega)
      have v14 : (G2.newSl encBool 1 [decide (y ≤ z)]) (v 14) w9 := hv 14 (by omega)
      clear hv
      obtain ⟨p, v14', hp⟩ := v14
      simp only [G2.growPut, G2.gSlot, List.getElem?_toArray, List.getElem?_cons_zero, List.getElem?_cons_succ, Option.bind_some, List.setIfInBounds_toArray, List.set_cons_zero, List.set_cons_succ, List.drop_succ_cons, List.drop_zero, v0, v14']
      have hown9 := hown.kp k9
      have hs9 := k9.size
      clear hown d0 d1 d2 cv cl
      go_wp2_with (at_builtin; refine wpl_append_flat rfl (.tmp 17) (.tmp 31) rfl stBoolM encBool_len encBool_one rfl hown9 rfl hp (by have := hel.out; simp; omega) (by have := hel.out; simp; omega) (by omega) ?_; intro v1 w1 hown1 hgrow1 hat1 hnil1)
      go_roundw
      case rel => exact ⟨k + 1, by omega, by go_num, by rw [HS.out]; exact hown1, (hbel.trans k9).grown hgrow1 (fun q hq => by have := hown9.ge q hq; have := hz0'.out; omega)⟩
      case measure => simp [intOf]; omega
    · obtain rfl : k = m := by omega
      have g0 : decide ((k : Int) < (k : Int)) = false := decide_eq_false (by omega)
      go_wp2
      go_ret
      exact ⟨_, rfl, hown.less (by have := hb0.out; omega), hbk⟩
end Go.Proofs.Ytlbhidiliogflaa
namespace Go.Proofs.Ytlbhidiliogflaa
set_option linter.unusedSimpArgs false
set_option linter.unusedVariables false
open Go.RowKit

/-- a vertex to which no edge leads from one that is left -/
def freeQ (s : Nat) (es left : List Bool) (a : Nat) : Bool := !(List.range s).any fun b => left.getD b false && es.getD (b * s + a) false
def passQ (s : Nat) (es : List Bool) : List Nat → List Bool → List Bool
  | [], left => left
  | a :: r, left => passQ s es r (if freeQ s es left a then left.set a false else left)
def roundsQ (s : Nat) (es : List Bool) : Nat → List Bool → List Bool
  | 0, left => left
  | n + 1, left => roundsQ s es n (passQ s es (List.range s) left)
def acyQ (s : Nat) (es : List Bool) : Bool := !(roundsQ s es s (List.replicate s true)).any id
theorem range_drop {s a : Nat} (h : a < s) : (List.range s).drop a = a :: (List.range s).drop (a + 1) := by
  rw [List.drop_eq_getElem_cons (by simpa using h)]
  simp
theorem idx_wraps {b k m a : Nat} (hm : b * k = m) (h : m ≤ 36) (ha : a ≤ 6) : IntKind.i64.wrap ((b : Int) * (k : Int)) = (m : Int) ∧ wrap64 ((b : Int) * (k : Int)) = (m : Int) ∧ IntKind.i64.wrap ((m : Int) + (a : Int)) = (m : Int) + (a : Int) ∧ (0 : Int) ≤ (m : Int) + (a : Int) ∧ ((m : Int) + (a : Int)).toNat = m + a := by
  have hmc : ((b : Int) * (k : Int)) = (m : Int) := by rw [← hm]; simp
  rw [hmc]
  exact ⟨IntWalk.i64_in _ (by omega), IntWalk.wrap64_in _ (by omega), IntWalk.i64_in _ (by omega), by omega, by omega⟩
theorem idx_lt {m a n : Nat} (h : m + a < n) : (m : Int) + (a : Int) < n := by omega
theorem le_six {b k : Nat} (h : b < k) (hk : k ≤ 6) : b * k ≤ 36 := Nat.le_trans (Nat.mul_le_mul (by omega : b ≤ 6) hk) (by omega)
set_option maxRecDepth 8000 in
set_option maxHeartbeats 8000000 in
theorem qAcyclic_any (s : Nat) (ve : Value) (es : List Bool) (w : World) (hE : Bools w ve es) (hs1 : 1 ≤ s) (hs : s ≤ 6) (hl : es.length = s * s) :
    Calls Try.prog 54 #[.int .i64 (s : Int), ve] w fun e w' => e = .returned (.bool (acyQ s es)) ∧ Kp w w' := by
  have hpos : 0 < es.length := by rw [hl]; exact Nat.mul_pos hs1 hs1
  obtain ⟨A, c, rfl, hc, hm⟩ := hE.form
  obtain ⟨pe, oe, rfl, hpe, -⟩ := hE.bools hpos
  have HL := hid hl
  have HQ : Hid (acyQ s es = !(roundsQ s es s (List.replicate s true)).any id) := hid rfl
  clear hl hpos
  go_enter Try.func54, Try.ntmps54
  go_wp2
  go_loopw [5, 6] (fun v i wr => ∃ k : Nat, k ≤ s ∧ i = .int .i64 k ∧ Own encBool 4 1 w.heap.size wr v (List.replicate k true) ∧ Kp w wr) (fun _ i _ => s - (intOf i).toNat)
  case atStart => exact ⟨0, Nat.zero_le _, rfl, Own.lit (base := w.heap.size) encBool w #[] [] (Nat.le_refl _) (by simp) rfl rfl, (Kp.refl _).alloc _⟩
  case round =>
    obtain ⟨k, hk, rfl, hown, hbel⟩ := hrel
    by_cases hlt : k < s
    · have hsz := hbel.size
      have HR := hid (show List.replicate (k + 1) true = List.replicate k true ++ [true] from List.replicate_succ')
      have hlen : (List.replicate k true).length = k := by simp
      generalize List.replicate k true = L at *
      go_wp2_with (at_builtin; refine wpl_append_flat rfl (.tmp 18) (.tmp 19) rfl stBoolM encBool_len encBool_one rfl (hown.alloc _) rfl (srcBool wr true) (by first | omega | (simp; omega)) (by first | omega | (simp; omega)) (by simp; omega) ?_; intro v1 w1 hown1 hgrow1 hat1 hnil1)
      go_roundw
      case rel => exact ⟨k + 1, by omega, by go_num, by rw [HR.out]; exact hown1, (hbel.alloc _).grown hgrow1 hown.ge⟩
      case measure => simp [intOf]; omega
    · obtain rfl : k = s := by omega
      have HI := hid (show (List.replicate k true).length = k by simp)
      generalize List.replicate k true = left0 at *
      obtain ⟨A5, c5, rfl, _, _⟩ := hown.form
      obtain ⟨g, rfl, hgb, hg⟩ := hown.at_ (by rw [HI.out]; omega)
      rw [HI.out] at hown ⊢
      obtain ⟨wx, hwx⟩ : ∃ wx : World, wx = wr := ⟨_, rfl⟩
      subst hwx
      have g0 : decide ((k : Int) < (k : Int)) = false := decide_eq_false (by omega)
      go_wp2
      clear g0
      go_loopw [7] (fun i wr => ∃ (j : Nat) (left : List Bool), j ≤ k ∧ i = .int .i64 j ∧ Hid (left.length = k) ∧ Own encBool 4 1 w.heap.size wr (.slice (some ⟨g, 0, none⟩) k c5) left ∧ Kp w wr ∧ Hid (roundsQ k es k left0 = roundsQ k es (k - j) left)) (fun i _ => k - (intOf i).toNat)
      case atStart => exact ⟨0, left0, Nat.zero_le _, rfl, HI, hown, hbel, hid rfl⟩
      case round =>
        clear hown hbel HI
        obtain ⟨j, left, hj, rfl, HLl, own, hbel, HT⟩ := hrel
        by_cases hjl : j < k
        · have HT2 : Hid (roundsQ k es k left0 = roundsQ k es (k - (j + 1)) (passQ k es (List.range k) left)) := hid (by
            rw [HT.out, show k - j = (k - (j + 1)) + 1 by omega]
            rfl)
          obtain ⟨wx, hwx⟩ : ∃ wx : World, wx = wr := ⟨_, rfl⟩
          subst hwx
          have g0 : decide ((j : Int) < (k : Int)) = true := decide_eq_true (by omega)
          generalize hP : passQ k es (List.range k) left = P at *
          have HP : Hid (P = passQ k es (List.range k) left) := hid hP.symm
          clear hP
          go_wp2
          clear g0
          go_loopw [8] (fun i wr => ∃ (a : Nat) (l2 : List Bool), a ≤ k ∧ i = .int .i64 a ∧ Hid (l2.length = k) ∧ Own encBool 4 1 w.heap.size wr (.slice (some ⟨g, 0, none⟩) k c5) l2 ∧ Kp w wr ∧ Hid (P = passQ k es ((List.range k).drop a) l2)) (fun i _ => k - (intOf i).toNat)
          case atStart => exact ⟨0, left, Nat.zero_le _, rfl, HLl, own, hbel, hid (by rw [HP.out]; rfl)⟩
          case round =>
            clear own hbel HLl HP
            obtain ⟨a, l2, ha, rfl, HL2, own, hbel, HP⟩ := hrel
            by_cases hal : a < k
            · have HP2 : Hid (P = passQ k es ((List.range k).drop (a + 1)) (if freeQ k es l2 a then l2.set a false else l2)) := hid (by rw [HP.out, range_drop hal]; rfl)
              have HF : Hid (freeQ k es l2 a = !(List.range k).any fun b => l2.getD b false && es.getD (b * k + a) false) := hid rfl
              obtain ⟨wx, hwx⟩ : ∃ wx : World, wx = wr := ⟨_, rfl⟩
              subst hwx
              have g0 : decide ((a : Int) < (k : Int)) = true := decide_eq_true (by omega)
              go_wp2
              clear g0
              go_loopw [9, 10] (fun v i wr => ∃ b : Nat, b ≤ k ∧ i = .int .i64 b ∧ v = .bool (!(List.range b).any fun b => l2.getD b false && es.getD (b * k + a) false) ∧ Kp wx wr) (fun _ i _ => k - (intOf i).toNat)
              case atStart => exact ⟨0, Nat.zero_le _, rfl, rfl, Kp.refl _⟩
              case round =>
                obtain ⟨b, hb, rfl, rfl, hbx⟩ := hrel
                have own2 := own.kp hbx
                by_cases hbl : b < k
                · have i1 := at_row hbl hal (Nat.le_refl (k * k))
                  have i0 : b * k ≤ 36 := le_six hbl hs
                  have hbl2 : b < l2.length := by rw [HL2.out]; exact hbl
                  have hidx : b * k + a < es.length := by rw [HL.out]; exact i1
                  have cb := own2.boolCell HL2.out.symm hbl2
                  obtain ⟨pe', oe', he', hpe', ce⟩ := (hE.keep (pl_stable _) (hbel.trans hbx)).bools hidx
                  injection he' with he'
                  injection he' with e1 e2
                  subst e1 e2
                  have HS : Hid ((List.range (b + 1)).any (fun b => l2.getD b false && es.getD (b * k + a) false) = ((List.range b).any (fun b => l2.getD b false && es.getD (b * k + a) false) || (l2[b] && es[b * k + a]))) := hid (by
                    rw [List.range_succ, List.any_append]
                    simp [List.getD, hbl2, hidx])
                  generalize (List.range b).any (fun b => l2.getD b false && es.getD (b * k + a) false) = z at *
                  generalize l2[b] = x at *
                  generalize es[b * k + a] = y at *
                  generalize hmm : b * k = m at *
                  have hgl := block_lt_of_cell cb
                  have hpl := block_lt_of_cell ce
                  have ha6 : a ≤ 6 := Nat.le_trans (Nat.le_of_lt hal) hs
                  obtain ⟨w1, w1', w2, q1, q3⟩ := idx_wraps hmm i0 ha6
                  have q2 := idx_lt hidx
                  have q4 : (b : Int) < k := by omega
                  clear hmm i0 i1 ha6 own2 own hbl2 hidx
                  cases x with
                  | false =>
                    have HS2 : Hid ((List.range (b + 1)).any (fun b => l2.getD b false && es.getD (b * k + a) false) = z) := hid (by rw [HS.out]; simp)
                    clear HS
                    go_wp2
                    go_roundw
                    case rel => exact ⟨b + 1, by omega, by go_num, by rw [HS2.out], hbx⟩
                    case measure => simp [intOf]; omega
                  | true =>
                    cases y with
                    | false =>
                      have HS2 : Hid ((List.range (b + 1)).any (fun b => l2.getD b false && es.getD (b * k + a) false) = z) := hid (by rw [HS.out]; simp)
                      clear HS
                      go_wp2
                      go_roundw
                      case rel => exact ⟨b + 1, by omega, by go_num, by rw [HS2.out], hbx⟩
                      case measure => simp [intOf]; omega
                    | true =>
                      have HS2 : Hid ((List.range (b + 1)).any (fun b => l2.getD b false && es.getD (b * k + a) false) = true) := hid (by rw [HS.out]; simp)
                      clear HS
                      go_wp2
                      go_roundw
                      case rel => exact ⟨b + 1, by omega, by go_num, by rw [HS2.out]; rfl, hbx⟩
                      case measure => simp [intOf]; omega
                · obtain rfl : b = k := by omega
                  have g0 : decide ((b : Int) < (b : Int)) = false := decide_eq_false (by omega)
                  rw [← HF.out]
                  have hal2 : a < l2.length := by rw [HL2.out]; exact hal
                  have q1 : (a : Int) < b := by omega
                  cases hf : freeQ b es l2 a with
                  | false =>
                    rw [hf] at HP2
                    have HP3 : Hid (P = passQ b es ((List.range b).drop (a + 1)) l2) := hid (by rw [HP2.out]; simp)
                    clear hf HP2 HF
                    go_wp2
                    go_roundw
                    case rel => exact ⟨a + 1, l2, by omega, by go_num, HL2, own2, hbel.trans hbx, HP3⟩
                    case measure => simp [intOf]; omega
                  | true =>
                    rw [hf] at HP2
                    have HP3 : Hid (P = passQ b es ((List.range b).drop (a + 1)) (l2.set a false)) := hid (by rw [HP2.out]; simp)
                    have hfz := own2.frozen HL2.out.symm a
                    have hcell := own2.boolCell HL2.out.symm hal2
                    have own6 := own2.boolSet HL2.out.symm hal2 false
                    have HL3 : Hid ((l2.set a false).length = b) := hid (by rw [List.length_set, HL2.out])
                    have kk6 := Kg.to_kp (hbel.trans hbx) ((Kg.refl wr g).set (p := ⟨g, a, none⟩) (.inl rfl) (.bool false)) hgb
                    generalize l2.set a false = l3 at *
                    generalize l2[a] = old at *
                    clear hf HP2 HF own2 own
                    go_wp2
                    go_roundw
                    case rel => exact ⟨a + 1, l3, by omega, by go_num, HL3, own6, kk6, HP3⟩
                    case measure => simp [intOf]; omega
            · have HPE : Hid (P = l2) := hid (by rw [HP.out, List.drop_of_length_le (by simp; omega)]; rfl)
              have g0 : decide ((a : Int) < (k : Int)) = false := decide_eq_false (by omega)
              rw [HPE.out] at HT2
              go_wp2
              go_roundw
              case rel => exact ⟨j + 1, l2, by omega, by go_num, HL2, own, hbel, HT2⟩
              case measure => simp [intOf]; omega
        · have HTE : Hid (acyQ k es = !left.any id) := hid (by rw [HQ.out, HT.out, show k - j = 0 by omega]; rfl)
          obtain ⟨wx, hwx⟩ : ∃ wx : World, wx = wr := ⟨_, rfl⟩
          subst hwx
          have g0 : decide ((j : Int) < (k : Int)) = false := decide_eq_false (by omega)
          go_wp2
          clear g0
          go_loopw [11] (fun i wr => ∃ a : Nat, a ≤ k ∧ i = .int .i64 a ∧ Hid (left.any id = (left.drop a).any id) ∧ Kp wx wr) (fun i _ => k - (intOf i).toNat)
          case atStart => exact ⟨0, Nat.zero_le _, rfl, hid rfl, Kp.refl _⟩
          case round =>
            obtain ⟨a, ha, rfl, HA, hbx⟩ := hrel
            have own2 := own.kp hbx
            by_cases hal : a < k
            · have hal2 : a < left.length := by rw [HLl.out]; exact hal
              have cb := own2.boolCell HLl.out.symm hal2
              have hgl := block_lt_of_cell cb
              have HA2 : Hid (left.any id = (left[a] || (left.drop (a + 1)).any id)) := hid (by rw [HA.out, List.drop_eq_getElem_cons hal2, List.any_cons]; rfl)
              generalize left[a] = x at *
              have q1 : (a : Int) < k := by omega
              clear own own2 hal2
              cases x with
              | true =>
                have HE : Hid (acyQ k es = false) := hid (by rw [HTE.out, HA2.out]; rfl)
                go_wp2
                go_ret
                exact ⟨ret_bool HE.out.symm, hbel.trans hbx⟩
              | false =>
                have HA3 : Hid (left.any id = (left.drop (a + 1)).any id) := hid (by rw [HA2.out]; simp)
                clear HA2
                go_wp2
                go_roundw
                case rel => exact ⟨a + 1, by omega, by go_num, HA3, hbx⟩
                case measure => simp [intOf]; omega
            · have HE : Hid (acyQ k es = true) := hid (by rw [HTE.out, HA.out, List.drop_of_length_le (by rw [HLl.out]; omega)]; rfl)
              have g0 : decide ((a : Int) < (k : Int)) = false := decide_eq_false (by omega)
              go_wp2
              go_ret
              exact ⟨ret_bool HE.out.symm, hbel.trans hbx⟩
end Go.Proofs.Ytlbhidiliogflaa
