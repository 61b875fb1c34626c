
/-
What the reference's Least, Value, With and Sum return, for any input.
-/
import Derived.Test.YtmecjjfpgjpeoaaRef4
namespace Go.Proofs.Ytmecjjfpgjpeoaa
open Go.RowKit

theorem srcInt (w : World) (x : Int) : Ints (w.alloc (.cells #[.int .i64 x] 3)) (.slice (some ⟨w.heap.size, 0, none⟩) 1 1) [x] := Sl.one w [.int .i64 x] _ 1 x rfl rfl
theorem srcRng (w : World) (x : Rng) : Rngs (w.alloc (.cells #[.int .i64 x.lo, .int .i64 x.hi] 27)) (.slice (some ⟨w.heap.size, 0, none⟩) 1 1) [x] := Sl.one w [.int .i64 x.lo, .int .i64 x.hi] _ 2 x rfl rfl
theorem take_snoc {α : Type} (l : List α) (k : Nat) (h : k < l.length) : l.take (k + 1) = l.take k ++ [l[k]] := by rw [List.take_succ_eq_append_getElem h]

set_option maxHeartbeats 1000000 in
theorem rLeast_any (vb : Value) (b : List Rng) (w : World) (hb : Rngs w vb b) (hl : b.length ≤ 1000000000) :
    Calls Try.prog 40 #[vb] w fun e w' => ∃ v', e = .returned v' ∧ Own encInt 3 1 w.heap.size w' v' (b.map (·.lo)) ∧ Kp w w' := by
  obtain ⟨A, c, rfl, hc, hm⟩ := hb.form
  generalize hM : b.map (·.lo) = M
  have HM := hid hM.symm
  have HML : Hid (M.length = b.length) := hid (by rw [← hM]; simp)
  clear hM
  go_enter Try.func40, Try.ntmps40
  go_wp2
  go_loopw [3, 4] (fun v i wr => ∃ k : Nat, k ≤ b.length ∧ i = .int .i64 k ∧ Own encInt 3 1 w.heap.size wr v (M.take k) ∧ Kp w wr) (fun _ i _ => b.length - (intOf i).toNat)
  case atStart => exact ⟨0, Nat.zero_le _, rfl, Own.lit (base := w.heap.size) encInt w #[] [] (Nat.le_refl _) (by simp) rfl rfl, (Kp.refl _).alloc _⟩
  case round =>
    obtain ⟨k, hk, rfl, hown, hbel⟩ := hrel
    by_cases hlt : k < b.length
    · obtain ⟨g, o, rfl, hg, h1', h2'⟩ := hb.rng hlt
      have h1 := hbel.cellS h1'
      have hkM : k < M.length := by rw [HML.out]; exact hlt
      have HT := hid (take_snoc M k hkM)
      have HE : Hid (M[k] = b[k].lo) := hid (by have := HM.out; subst this; simp)
      have hlen : (M.take k).length ≤ k := List.length_take_le _ _
      have hsz := hbel.size
      clear h1' h2' hb
      generalize b[k].lo = x at *
      go_wp2_with (at_builtin; refine wpl_append_flat rfl (.tmp 12) (.tmp 18) rfl stInt encInt_len encInt_one rfl (hown.alloc _) rfl (srcInt wr x) (by first | omega | (simp; omega)) (by first | omega | (simp; omega)) (by simp; omega) ?_; intro v1 w1 hown1 hgrow1 hat1 hnil1)
      go_roundw
      case rel => exact ⟨k + 1, by omega, by go_num, by rw [HT.out, HE.out]; exact hown1, (hbel.alloc _).grown hgrow1 hown.ge⟩
      case measure => simp [intOf]; omega
    · have HF : Hid (M.take k = M) := hid (List.take_of_length_le (by rw [HML.out]; omega))
      go_wp2
      go_ret
      exact ⟨_, rfl, by rw [HF.out] at hown; exact hown, hbel⟩

/-! With -/
def withL (b : List Rng) (c : Int) (r : Rng) : List Rng := if 0 ≤ c then b.set c.toNat r else b
theorem withL_length (b : List Rng) (c : Int) (r : Rng) : (withL b c r).length = b.length := by unfold withL; split <;> simp
theorem withL_at (b : List Rng) (c : Int) (r : Rng) (k : Nat) (hk : k < b.length) : (withL b c r)[k]? = some (if (k : Int) = c then r else b[k]) := by
  unfold withL
  by_cases h0 : 0 ≤ c
  · rw [if_pos h0, List.getElem?_set]
    by_cases h1 : (k : Int) = c
    · rw [if_pos (by omega), if_pos h1, if_pos (by omega)]
    · rw [if_neg (by omega), if_neg h1, List.getElem?_eq_getElem hk]
  · rw [if_neg h0, if_neg (by omega), List.getElem?_eq_getElem hk]
set_option maxHeartbeats 1000000 in
theorem rWith_any (vb : Value) (b : List Rng) (ce lo hi : Int) (w : World) (hb : Rngs w vb b) (hl : b.length ≤ 1000000000) :
    Calls Try.prog 36 #[vb, .int .i64 ce, .agg #[.int .i64 lo, .int .i64 hi]] w fun e w' => ∃ v', e = .returned v' ∧ Own encRng 27 2 w.heap.size w' v' (withL b ce ⟨lo, hi⟩) ∧ Kp w w' := by
  obtain ⟨A, c, rfl, hc, hm⟩ := hb.form
  have HMK : Hid (∀ k (hk : k < (withL b ce ⟨lo, hi⟩).length) (hk' : k < b.length), (withL b ce ⟨lo, hi⟩)[k] = if (k : Int) = ce then ⟨lo, hi⟩ else b[k]) := hid (fun k hk hk' => by
    have h := withL_at b ce ⟨lo, hi⟩ k hk'
    rw [List.getElem?_eq_getElem hk] at h
    exact Option.some.inj h)
  have HML : Hid ((withL b ce ⟨lo, hi⟩).length = b.length) := hid (withL_length _ _ _)
  generalize withL b ce ⟨lo, hi⟩ = M at *
  go_enter Try.func36, Try.ntmps36
  go_wp2
  have hk0 := (Kp.refl w).alloc (.cells #[.int .i64 lo, .int .i64 hi] 27)
  have c0 := alloc_cell w #[.int .i64 lo, .int .i64 hi] 27 0 rfl
  have c1 := alloc_cell w #[.int .i64 lo, .int .i64 hi] 27 1 rfl
  have l0 := alloc_lt w (.cells #[.int .i64 lo, .int .i64 hi] 27)
  have l1 : (w.alloc (.cells #[.int .i64 lo, .int .i64 hi] 27)).heap.size = w.heap.size + 1 := by simp
  rw [← l1]
  generalize w.alloc (.cells #[.int .i64 lo, .int .i64 hi] 27) = w0 at *
  clear l1
  go_loopw [7, 8] (fun v i wr => ∃ k : Nat, k ≤ b.length ∧ i = .int .i64 k ∧ Own encRng 27 2 w0.heap.size wr v (M.take k) ∧ Kp w0 wr) (fun _ i _ => b.length - (intOf i).toNat)
  case atStart => exact ⟨0, Nat.zero_le _, rfl, Own.lit (base := w0.heap.size) encRng w0 #[] [] (Nat.le_refl _) (by simp) rfl rfl, (Kp.refl _).alloc _⟩
  case round =>
    obtain ⟨k, hk, rfl, hown, hbel⟩ := hrel
    by_cases hlt : k < b.length
    · obtain ⟨g, o, rfl, hg, h1', h2'⟩ := hb.rng hlt
      have h1 := (hk0.trans hbel).cellS h1'
      have h2 := (hk0.trans hbel).cellS h2'
      have hkM : k < M.length := by rw [HML.out]; exact hlt
      have HT := hid (take_snoc M k hkM)
      have HE := hid (HMK.out k hkM hlt)
      have hlen : (M.take k).length ≤ k := List.length_take_le _ _
      have hsz := hbel.size
      have d0 := hbel.cellS c0
      have d1 := hbel.cellS c1
      have l2 : w.heap.size < wr.heap.size := by omega
      clear h1' h2' hb c0 c1 HMK
      generalize b[k] = x at *
      obtain ⟨xl, xh⟩ := x
      dsimp only at h1 h2
      by_cases hc : (k : Int) = ce
      · have b1 : ((k : Int) == ce) = true := by simpa using hc
        have HG : Hid (M[k] = ⟨lo, hi⟩) := hid (by rw [HE.out, if_pos hc])
        clear hc
        go_wp2_with (at_builtin; refine wpl_append_flat rfl (.tmp 19) (.tmp 21) rfl stRange encRng_len encRng_one rfl (hown.alloc _) rfl (srcRng wr ⟨lo, hi⟩) (by first | omega | (simp; omega)) (by first | omega | (simp; omega)) (by simp; omega) ?_; intro v1 w1 hown1 hgrow1 hat1 hnil1)
        go_roundw
        case rel => exact ⟨k + 1, by omega, by go_num, by rw [HT.out, HG.out]; exact hown1, (hbel.alloc _).grown hgrow1 hown.ge⟩
        case measure => simp [intOf]; omega
      · have b1 : ((k : Int) == ce) = false := by simpa using hc
        have HG : Hid (M[k] = ⟨xl, xh⟩) := hid (by rw [HE.out, if_neg hc])
        clear hc
        go_wp2_with (at_builtin; refine wpl_append_flat rfl (.tmp 23) (.tmp 28) rfl stRange encRng_len encRng_one rfl (hown.alloc _) rfl (srcRng wr ⟨xl, xh⟩) (by first | omega | (simp; omega)) (by first | omega | (simp; omega)) (by simp; omega) ?_; intro v1 w1 hown1 hgrow1 hat1 hnil1)
        go_roundw
        case rel => exact ⟨k + 1, by omega, by go_num, by rw [HT.out, HG.out]; exact hown1, (hbel.alloc _).grown hgrow1 hown.ge⟩
        case measure => simp [intOf]; omega
    · have HF : Hid (M.take k = M) := hid (List.take_of_length_le (by rw [HML.out]; omega))
      go_wp2
      go_ret
      exact ⟨_, rfl, by rw [HF.out] at hown; exact hown.less hk0.size, hk0.trans hbel⟩

/-! Value -/
def valueL (vs : List Int) : Int → List Term → Int
  | acc, [] => acc
  | acc, t :: l => valueL vs (acc + t.factor * vs.getD t.cell.toNat 0) l
def okV (vs : List Int) : Prop := ∀ x ∈ vs, -1000000 ≤ x ∧ x ≤ 1000000
set_option maxHeartbeats 1000000 in
theorem rValue_any (vt vv : Value) (ts : List Term) (bd : Int) (vs : List Int) (w : World) (ht : Terms w vt ts) (hv : Ints w vv vs)
    (hok : ∀ t ∈ ts, okT vs.length t) (hvs : okV vs) (hl : ts.length ≤ 128) :
    Calls Try.prog 35 #[.agg #[vt, .int .i64 bd], vv] w fun e w' => e = .returned (.int .i64 (valueL vs 0 ts)) ∧ Kp w w' := by
  obtain ⟨A, c, rfl, hc, hm⟩ := ht.form
  obtain ⟨A', c', rfl, hc', hm'⟩ := hv.form
  have HOK := hid hok
  have HVS := hid hvs
  clear hok hvs
  go_enter Try.func35, Try.ntmps35
  go_wp2
  have hk0 := (Kp.refl w).alloc (.cells #[.slice A ts.length c, .int .i64 bd] 41)
  have hb0 := alloc_cell w #[.slice A ts.length c, .int .i64 bd] 41 0 rfl
  have hlt0 := alloc_lt w (.cells #[.slice A ts.length c, .int .i64 bd] 41)
  generalize w.alloc (.cells #[.slice A ts.length c, .int .i64 bd] 41) = w0 at *
  go_loopw [5, 6] (fun z i wr => ∃ (k : Nat) (n : Int), k ≤ ts.length ∧ i = .int .i64 k ∧ -1000000000 * (k : Int) ≤ n ∧ n ≤ 1000000000 * (k : Int) ∧ z = .int .i64 n ∧ Hid (valueL vs 0 ts = valueL vs n (ts.drop k)) ∧ Kp w0 wr) (fun _ i _ => ts.length - (intOf i).toNat)
  case atStart => exact ⟨0, 0, Nat.zero_le _, rfl, by omega, by omega, rfl, rfl, Kp.refl _⟩
  case round =>
    obtain ⟨k, n, hk, rfl, hn1, hn2, rfl, HL, hbel⟩ := hrel
    have hbel' := hk0.trans hbel
    have c0 := hbel.cellS hb0
    have hlt1 : w.heap.size < wr.heap.size := by have := hbel.size; omega
    clear hb0
    by_cases hlt : k < ts.length
    · obtain ⟨g, o, rfl, hg, h1', h2'⟩ := ht.term hlt
      have h1 := hbel'.cellS h1'
      have h2 := hbel'.cellS h2'
      have HD := hid (List.drop_eq_getElem_cons hlt)
      obtain ⟨o1, o2, o3, o4⟩ := HOK.out ts[k] (List.getElem_mem hlt)
      clear h1' h2' ht
      generalize ts[k] = t at *
      obtain ⟨ce, fa⟩ := t
      dsimp only at h1 h2 o1 o2 o3 o4
      obtain ⟨j, rfl⟩ := Int.eq_ofNat_of_zero_le o1
      have hj : j < vs.length := by omega
      obtain ⟨g', o', rfl, hg', h3'⟩ := hv.ints hj
      have h3 := hbel'.cellS h3'
      obtain ⟨g1, g2⟩ := HVS.out vs[j] (List.getElem_mem hj)
      have HP : Hid (vs.getD ((j : Int)).toNat 0 = vs[j]) := hid (by simp [List.getD, hj])
      clear hv h3'
      generalize vs[j] = x at *
      obtain ⟨p1, p2⟩ := mul_bd fa x o3 o4 g1 g2
      have HW1 : wrap64 (fa * x) = fa * x := IntWalk.wrap64_in _ (by omega)
      have HW2 : IntKind.i64.wrap (fa * x) = fa * x := IntWalk.i64_in _ (by omega)
      have HW3 : IntKind.i64.wrap (n + fa * x) = n + fa * x := IntWalk.i64_in _ (by omega)
      have q1 : (0 : Int) ≤ k := by omega
      have q2 : (k : Int) < ts.length := by omega
      have HF : Hid (valueL vs 0 ts = valueL vs (n + fa * x) (ts.drop (k + 1))) := hid (by rw [HL.out, HD.out, valueL]; dsimp only; rw [HP.out])
      go_wp2
      go_quiet (fail)
      go_wp2
      go_roundw
      case rel => exact ⟨k + 1, _, by omega, by go_num, by omega, by omega, rfl, HF, hbel.drewN _⟩
      case measure => simp [intOf]; omega
    · have HF : Hid (valueL vs 0 ts = n) := hid (by rw [HL.out, List.drop_of_length_le (by omega)]; rfl)
      go_wp2
      go_ret
      exact ⟨ret_int HF.out.symm, hbel'⟩

/-! Sum -/
theorem boundL_app (b : List Rng) (wo s : Int) : ∀ (l : List Term) (acc : Int) (t : Term), boundL b wo s acc (l ++ [t]) = boundL b wo s acc l + termV b wo s t
  | [], _, _ => rfl
  | x :: l, acc, t => by simp only [List.cons_append, boundL]; exact boundL_app b wo s l _ t
end Go.Proofs.Ytmecjjfpgjpeoaa
