/-
What the reference's Least, Value, With and Sum return, for any input.
What the reference's Sum and Next return, for any input.
What the reference's Tighten returns, for any input.
What the reference's Fix returns, for any input: what the code's Fix returns.
-/
import Derived.Test.YtlbhidiliogflaaGreatKA
namespace Go.Proofs.YtlbhidiliogflaaGreat
set_option linter.unusedSimpArgs false
set_option linter.unusedVariables false
open Go.RowKit

theorem srcInt (w : World) (x : Int) : Ints (w.alloc (.cells #[.int .i64 x] 3)) (.slice (some ⟨w.heap.size, 0, none⟩) 1 1) [x] := Sl.one w [.int .i64 x] _ 1 x rfl rfl
theorem srcRng (w : World) (x : Rng) : Rngs (w.alloc (.cells #[.int .i64 x.lo, .int .i64 x.hi] 57)) (.slice (some ⟨w.heap.size, 0, none⟩) 1 1) [x] := Sl.one w [.int .i64 x.lo, .int .i64 x.hi] _ 2 x rfl rfl
theorem take_snoc {α : Type} (l : List α) (k : Nat) (h : k < l.length) : l.take (k + 1) = l.take k ++ [l[k]] := by rw [List.take_succ_eq_append_getElem h]

set_option maxHeartbeats 1000000 in
theorem rLeast_any (vb : Value) (b : List Rng) (w : World) (hb : Rngs w vb b) (hl : b.length ≤ 1000000000) :
    Calls Tryz.prog 50 #[vb] w fun e w' => ∃ v', e = .returned v' ∧ Own encInt 3 1 w.heap.size w' v' (b.map (·.lo)) ∧ Kp w w' := by
  obtain ⟨A, c, rfl, hc, hm⟩ := hb.form
  generalize hM : b.map (·.lo) = M
  have HM := hid hM.symm
  have HML : Hid (M.length = b.length) := hid (by rw [← hM]; simp)
  clear hM
  go_enter Tryz.func50, Tryz.ntmps50
  go_wp2
  go_loopw [3, 4] (fun v i wr => ∃ k : Nat, k ≤ b.length ∧ i = .int .i64 k ∧ Own encInt 3 1 w.heap.size wr v (M.take k) ∧ Kp w wr) (fun _ i _ => b.length - (intOf i).toNat)
  case atStart => exact ⟨0, Nat.zero_le _, rfl, Own.lit (base := w.heap.size) encInt w #[] [] (Nat.le_refl _) (by simp) rfl rfl, (Kp.refl _).alloc _⟩
  case round =>
    obtain ⟨k, hk, rfl, hown, hbel⟩ := hrel
    by_cases hlt : k < b.length
    · obtain ⟨g, o, rfl, hg, h1', h2'⟩ := hb.rng hlt
      have h1 := hbel.cellS h1'
      have hkM : k < M.length := by rw [HML.out]; exact hlt
      have HT := hid (take_snoc M k hkM)
      have HE : Hid (M[k] = b[k].lo) := hid (by have := HM.out; subst this; simp)
      have hlen : (M.take k).length ≤ k := List.length_take_le _ _
      have hsz := hbel.size
      clear h1' h2' hb
      generalize b[k].lo = x at *
      go_wp2_with (at_builtin; refine wpl_append_flat rfl (.tmp 12) (.tmp 18) rfl stInt encInt_len encInt_one rfl (hown.alloc _) rfl (srcInt wr x) (by first | omega | (simp; omega)) (by first | omega | (simp; omega)) (by simp; omega) ?_; intro v1 w1 hown1 hgrow1 hat1 hnil1)
      go_roundw
      case rel => exact ⟨k + 1, by omega, by go_num, by rw [HT.out, HE.out]; exact hown1, (hbel.alloc _).grown hgrow1 hown.ge⟩
      case measure => simp [intOf]; omega
    · have HF : Hid (M.take k = M) := hid (List.take_of_length_le (by rw [HML.out]; omega))
      go_wp2
      go_ret
      exact ⟨_, rfl, by rw [HF.out] at hown; exact hown, hbel⟩

/-! With -/
def withL (b : List Rng) (c : Int) (r : Rng) : List Rng := if 0 ≤ c then b.set c.toNat r else b
theorem withL_length (b : List Rng) (c : Int) (r : Rng) : (withL b c r).length = b.length := by unfold withL; split <;> simp
theorem withL_at (b : List Rng) (c : Int) (r : Rng) (k : Nat) (hk : k < b.length) : (withL b c r)[k]? = some (if (k : Int) = c then r else b[k]) := by
  unfold withL
  by_cases h0 : 0 ≤ c
  · rw [if_pos h0, List.getElem?_set]
    by_cases h1 : (k : Int) = c
    · rw [if_pos (by omega), if_pos h1, if_pos (by omega)]
    · rw [if_neg (by omega), if_neg h1, List.getElem?_eq_getElem hk]
  · rw [if_neg h0, if_neg (by omega), List.getElem?_eq_getElem hk]
set_option maxHeartbeats 1000000 in
theorem rWith_any (vb : Value) (b : List Rng) (ce lo hi : Int) (w : World) (hb : Rngs w vb b) (hl : b.length ≤ 1000000000) :
    Calls Tryz.prog 52 #[vb, .int .i64 ce, .agg #[.int .i64 lo, .int .i64 hi]] w fun e w' => ∃ v', e = .returned v' ∧ Own encRng 57 2 w.heap.size w' v' (withL b ce ⟨lo, hi⟩) ∧ Kp w w' := by
  obtain ⟨A, c, rfl, hc, hm⟩ := hb.form
  have HMK : Hid (∀ k (hk : k < (withL b ce ⟨lo, hi⟩).length) (hk' : k < b.length), (withL b ce ⟨lo, hi⟩)[k] = if (k : Int) = ce then ⟨lo, hi⟩ else b[k]) := hid (fun k hk hk' => by
    have h := withL_at b ce ⟨lo, hi⟩ k hk'
    rw [List.getElem?_eq_getElem hk] at h
    exact Option.some.inj h)
  have HML : Hid ((withL b ce ⟨lo, hi⟩).length = b.length) := hid (withL_length _ _ _)
  generalize withL b ce ⟨lo, hi⟩ = M at *
  go_enter Tryz.func52, Tryz.ntmps52
  go_wp2
  have hk0 := (Kp.refl w).alloc (.cells #[.int .i64 lo, .int .i64 hi] 57)
  have c0 := alloc_cell w #[.int .i64 lo, .int .i64 hi] 57 0 rfl
  have c1 := alloc_cell w #[.int .i64 lo, .int .i64 hi] 57 1 rfl
  have l0 := alloc_lt w (.cells #[.int .i64 lo, .int .i64 hi] 57)
  have l1 : (w.alloc (.cells #[.int .i64 lo, .int .i64 hi] 57)).heap.size = w.heap.size + 1 := by simp
  rw [← l1]
  generalize w.alloc (.cells #[.int .i64 lo, .int .i64 hi] 57) = w0 at *
  clear l1
  go_loopw [7, 8] (fun v i wr => ∃ k : Nat, k ≤ b.length ∧ i = .int .i64 k ∧ Own encRng 57 2 w0.heap.size wr v (M.take k) ∧ Kp w0 wr) (fun _ i _ => b.length - (intOf i).toNat)
  case atStart => exact ⟨0, Nat.zero_le _, rfl, Own.lit (base := w0.heap.size) encRng w0 #[] [] (Nat.le_refl _) (by simp) rfl rfl, (Kp.refl _).alloc _⟩
  case round =>
    obtain ⟨k, hk, rfl, hown, hbel⟩ := hrel
    by_cases hlt : k < b.length
    · obtain ⟨g, o, rfl, hg, h1', h2'⟩ := hb.rng hlt
      have h1 := (hk0.trans hbel).cellS h1'
      have h2 := (hk0.trans hbel).cellS h2'
      have hkM : k < M.length := by rw [HML.out]; exact hlt
      have HT := hid (take_snoc M k hkM)
      have HE := hid (HMK.out k hkM hlt)
      have hlen : (M.take k).length ≤ k := List.length_take_le _ _
      have hsz := hbel.size
      have d0 := hbel.cellS c0
      have d1 := hbel.cellS c1
      have l2 : w.heap.size < wr.heap.size := by omega
      clear h1' h2' hb c0 c1 HMK
      generalize b[k] = x at *
      obtain ⟨xl, xh⟩ := x
      dsimp only at h1 h2
      by_cases hc : (k : Int) = ce
      · have b1 : ((k : Int) == ce) = true := by simpa using hc
        have HG : Hid (M[k] = ⟨lo, hi⟩) := hid (by rw [HE.out, if_pos hc])
        clear hc
        go_wp2_with (at_builtin; refine wpl_append_flat rfl (.tmp 19) (.tmp 21) rfl stRange encRng_len encRng_one rfl (hown.alloc _) rfl (srcRng wr ⟨lo, hi⟩) (by first | omega | (simp; omega)) (by first | omega | (simp; omega)) (by simp; omega) ?_; intro v1 w1 hown1 hgrow1 hat1 hnil1)
        go_roundw
        case rel => exact ⟨k + 1, by omega, by go_num, by rw [HT.out, HG.out]; exact hown1, (hbel.alloc _).grown hgrow1 hown.ge⟩
        case measure => simp [intOf]; omega
      · have b1 : ((k : Int) == ce) = false := by simpa using hc
        have HG : Hid (M[k] = ⟨xl, xh⟩) := hid (by rw [HE.out, if_neg hc])
        clear hc
        go_wp2_with (at_builtin; refine wpl_append_flat rfl (.tmp 23) (.tmp 28) rfl stRange encRng_len encRng_one rfl (hown.alloc _) rfl (srcRng wr ⟨xl, xh⟩) (by first | omega | (simp; omega)) (by first | omega | (simp; omega)) (by simp; omega) ?_; intro v1 w1 hown1 hgrow1 hat1 hnil1)
        go_roundw
        case rel => exact ⟨k + 1, by omega, by go_num, by rw [HT.out, HG.out]; exact hown1, (hbel.alloc _).grown hgrow1 hown.ge⟩
        case measure => simp [intOf]; omega
    · have HF : Hid (M.take k = M) := hid (List.take_of_length_le (by rw [HML.out]; omega))
      go_wp2
      go_ret
      exact ⟨_, rfl, by rw [HF.out] at hown; exact hown.less hk0.size, hk0.trans hbel⟩

/-! Value -/
def valueL (vs : List Int) : Int → List Term → Int
  | acc, [] => acc
  | acc, t :: l => valueL vs (acc + t.factor * vs.getD t.cell.toNat 0) l
def okV (vs : List Int) : Prop := ∀ x ∈ vs, -1000000 ≤ x ∧ x ≤ 1000000
/-! Sum -/
theorem boundL_app (b : List Rng) (wo s : Int) : ∀ (l : List Term) (acc : Int) (t : Term), boundL b wo s acc (l ++ [t]) = boundL b wo s acc l + termV b wo s t
  | [], _, _ => rfl
  | x :: l, acc, t => by simp only [List.cons_append, boundL]; exact boundL_app b wo s l _ t
end Go.Proofs.YtlbhidiliogflaaGreat
namespace Go.Proofs.YtlbhidiliogflaaGreat
set_option linter.unusedSimpArgs false
set_option linter.unusedVariables false
open Go.RowKit

theorem fits_nz {b : List Rng} {r : Row} (h : fitsB b.length r = true) : ∀ t ∈ r.terms, okT b.length t ∧ t.factor ≠ 0 := fits_all h

/-! Next -/
def mixL (b : List Rng) (vs : List Int) (j : Nat) : List Int := (List.range vs.length).map fun k => if k < j then vs.getD k 0 else (pick b k).lo
theorem mixL_length (b : List Rng) (vs : List Int) (j : Nat) : (mixL b vs j).length = vs.length := by simp [mixL]
theorem mixL_getD (b : List Rng) (vs : List Int) (j k : Nat) (hk : k < vs.length) : (mixL b vs j).getD k 0 = if k < j then vs.getD k 0 else (pick b k).lo := by simp [mixL, List.getD, hk]
theorem mixL_all (b : List Rng) (vs : List Int) : mixL b vs vs.length = vs := by
  apply List.ext_getElem
  · simp [mixL]
  · intro k h1 h2
    simp [mixL, h2, List.getD]
theorem mixL_set (b : List Rng) (vs : List Int) (i : Nat) : (mixL b vs (i + 1)).set i (pick b i).lo = mixL b vs i := by
  apply List.ext_getElem
  · simp [mixL]
  · intro k h1 h2
    rw [List.getElem_set]
    simp only [mixL, List.getElem_map, List.getElem_range]
    by_cases h3 : i = k
    · subst h3; simp
    · rw [if_neg h3]
      by_cases h4 : k < i
      · rw [if_pos (by omega), if_pos h4]
      · rw [if_neg (by omega), if_neg h4]
def nxtL (b : List Rng) (vs : List Int) (i : Nat) : List Int := (mixL b vs (i + 1)).set i (vs.getD i 0 + 1)
theorem nxtL_at (b : List Rng) (vs : List Int) (i k : Nat) (hi : i < vs.length) (hk : k < vs.length) : (nxtL b vs i)[k]? = some (if k < i then vs.getD k 0 else if k = i then vs.getD k 0 + 1 else (pick b k).lo) := by
  unfold nxtL
  rw [List.getElem?_set]
  by_cases h : i = k
  · subst h
    rw [if_pos rfl, if_pos (by rw [mixL_length]; exact hi), if_neg (by omega), if_pos rfl]
  · rw [if_neg h]
    have h0 : k < (mixL b vs (i + 1)).length := by rw [mixL_length]; exact hk
    rw [List.getElem?_eq_getElem h0]
    simp only [mixL, List.getElem_map, List.getElem_range]
    by_cases h2 : k < i
    · rw [if_pos (by omega), if_pos h2]
    · rw [if_neg (by omega), if_neg h2, if_neg (fun h3 => h h3.symm)]
theorem nextF_mix (b : List Rng) (vs : List Int) (i : Nat) (hi : i < vs.length) :
    nextF b (mixL b vs (i + 1)) (i + 1) = if vs.getD i 0 < (pick b i).hi then some (nxtL b vs i) else nextF b (mixL b vs i) i := by
  rw [nextF, mixL_getD _ _ _ _ hi, show (if i < i + 1 then vs.getD i 0 else (pick b i).lo) = vs.getD i 0 from if_pos (by omega), mixL_set]
  rfl

end Go.Proofs.YtlbhidiliogflaaGreat
namespace Go.Proofs.YtlbhidiliogflaaGreat
set_option linter.unusedSimpArgs false
set_option linter.unusedVariables false
open Go.RowKit

def restF (b : List Rng) (cell : Int) : List Term → Int → Int → Int × Int
  | [], rest, f => (rest, f)
  | t :: l, rest, f => if t.cell = cell then restF b cell l rest t.factor else restF b cell l (rest - endV t (pick b t.cell) true) f
theorem boundL_acc (b : List Rng) (wo s : Int) : ∀ (l : List Term) (acc : Int), boundL b wo s acc l = acc + boundL b wo s 0 l
  | [], acc => by simp [boundL]
  | t :: l, acc => by
    unfold boundL
    rw [boundL_acc b wo s l (acc + _), boundL_acc b wo s l (0 + _)]
    omega
theorem endV_pick (b : List Rng) (t : Term) (wo : Int) (hw : t.cell ≠ wo) : endV t (pick b t.cell) true = termV b wo 1 t := by
  unfold endV termV
  rw [if_neg hw, Int.mul_one]
  by_cases h0 : 0 < t.factor <;> simp [h0]
theorem restF_eq (b : List Rng) (cell n : Int) : ∀ (l : List Term) (last rest f : Int), -1 ≤ last → fitsL n last l = true →
    restF b cell l rest f = (rest - boundL b cell 1 0 l, match l.find? (fun t => t.cell == cell) with | none => f | some t => t.factor)
  | [], _, rest, f, _, _ => by simp [restF, boundL]
  | t :: l, last, rest, f, h0, h => by
    unfold fitsL at h
    split at h
    · simp at h
    · rename_i hb
      unfold badT at hb
      have hok := (fitsL_ok n l t.cell (by omega) h).1
      unfold restF boundL
      rw [boundL_acc b cell 1 l (0 + _)]
      by_cases hc : t.cell = cell
      · have hnone : l.find? (fun t => t.cell == cell) = none := by
          rw [List.find?_eq_none]
          intro x hx
          have := hok x hx
          simp
          omega
        rw [if_pos hc, restF_eq b cell n l t.cell rest t.factor (by omega) h, hnone]
        simp [hc, termV]
      · rw [if_neg hc, restF_eq b cell n l t.cell _ f (by omega) h, endV_pick b t cell hc]
        rw [List.find?_cons, show (t.cell == cell) = false by simpa using hc]
        simp only [Prod.mk.injEq, and_true]
        omega

/-- the range, tightened, out of the rest and the factor -/
def tightOf (o : Rng) (rest f : Int) : Rng :=
  if f = 0 then o
  else
    let o' : Rng := if 0 < f then ⟨o.lo, min o.hi (rest / f)⟩ else ⟨max o.lo (-(rest / -f)), o.hi⟩
    if emptyR o' then ⟨1, 0⟩ else o'
theorem tightOf_eq (r : Row) (b : List Rng) (cell : Int) (h : fitsB b.length r = true) : tightR r b cell = tightOf (pick b cell) (restF b cell r.terms r.bound 0).1 (restF b cell r.terms r.bound 0).2 := by
  have hf : fitsL b.length (-1) r.terms = true := by unfold fitsB at h; rw [Bool.and_eq_true] at h; exact h.1
  have hok := (fitsL_ok b.length r.terms (-1) (by omega) hf).1
  rw [restF_eq b cell b.length r.terms (-1) r.bound 0 (by omega) hf]
  unfold tightR tightOf
  cases hx : r.terms.find? (fun t => t.cell == cell) with
  | none => simp
  | some t =>
    have := hok t (List.mem_of_find?_eq_some hx)
    simp only []
    rw [if_neg (show ¬ t.factor = 0 by omega)]

set_option maxHeartbeats 4000000 in
theorem rTighten_any (vt vb : Value) (r : Row) (b : List Rng) (cell : Int) (w : World) (ht : Terms w vt r.terms) (hb : Rngs w vb b) :
    Calls Tryz.prog 82 #[.agg #[vt, .int .i64 r.bound], vb, .int .i64 cell] w fun e w' => e = .returned (.agg #[.int .i64 (tightenB r b cell).lo, .int .i64 (tightenB r b cell).hi]) ∧ Kp w w' := by
  obtain ⟨A, c, rfl, hc, hm⟩ := ht.form
  obtain ⟨A', c', rfl, hc', hm'⟩ := hb.form
  obtain ⟨ts, bd⟩ := r
  dsimp only at *
  go_enter Tryz.func82, Tryz.ntmps82
  have hk0 := ((Kp.refl w).alloc (.cells #[.slice A ts.length c, .int .i64 bd] 51)).alloc (.cells #[.int .i64 0, .int .i64 0] 57)
  have HR := rowLit ((w.alloc (.cells #[.slice A ts.length c, .int .i64 bd] 51)).alloc (.cells #[.int .i64 0, .int .i64 0] 57)) _ ⟨ts, bd⟩ (ht.keep (pl_stable _) hk0)
  rw [World.size_alloc, World.size_alloc] at HR
  dsimp only at HR
  have hk1 := hk0.alloc (.cells #[.slice A ts.length c, .int .i64 bd] 51)
  go_wp2_with fail
  refine (rValid_any _ _ b _ _ (hb.keep (pl_stable _) hk1) HR).mono ?_
  rintro e w1 ⟨rfl, hk2⟩
  have hbel1 := (hk1).trans hk2
  have c0 : w1.cell? ⟨w.heap.size, 0, none⟩ = some (.slice A ts.length c) := hk2.cellS (by go_simp)
  have c1 : w1.cell? ⟨w.heap.size, 1, none⟩ = some (.int .i64 bd) := hk2.cellS (by go_simp)
  have c2 : w1.cell? ⟨w.heap.size + 1, 0, none⟩ = some (.int .i64 0) := hk2.cellS (by go_simp)
  have c3 : w1.cell? ⟨w.heap.size + 1, 1, none⟩ = some (.int .i64 0) := hk2.cellS (by go_simp)
  have f1 : ∀ o, w1.frozen? ⟨w.heap.size + 1, o, none⟩ = false := fun o => by rw [(kcell hk2).2 _ _ (by simp)]; go_simp
  have hz := hk2.size
  simp only [World.size_alloc] at hz
  clear hk0 HR hk1 hk2
  cases hV : validB b [⟨ts, bd⟩] with
  | false =>
    have HF : Hid (tightenB ⟨ts, bd⟩ b cell = ⟨0, 0⟩) := hid (by simp [tightenB, hV])
    clear hV
    go_wp2
    refine bodyPost_agg2 (by simp [results, Tryz.results82, go_sem, c2, c3]; exact ⟨rfl, rfl⟩) rfl ⟨ret_agg2 (by rw [HF.out]) (by rw [HF.out]), ?_⟩
    exact (hbel1.set (by show _ ≤ _; simp) _).set (by show _ ≤ _; simp) _
  | true =>
    have HV := hid hV
    by_cases h0 : 0 ≤ cell
    · by_cases h1 : cell < b.length
      · have v4 := (validB_ok hV).2.2 ⟨ts, bd⟩ (by simp)
        have HF : Hid (tightenB ⟨ts, bd⟩ b cell = tightOf (pick b cell) (restF b cell ts bd 0).1 (restF b cell ts bd 0).2) := hid (by unfold tightenB; rw [if_pos ⟨hV, h0, h1⟩, tightOf_eq _ _ _ v4])
        obtain ⟨v1, v2, v3⟩ := validB_ok hV
        obtain ⟨f1', f2, f3, f4⟩ := fitsB_ok v4
        have f5 := fits_all v4
        obtain ⟨jc, rfl⟩ := Int.eq_ofNat_of_zero_le h0
        have hjc : jc < b.length := by omega
        obtain ⟨gb, ob, rfl, hgb, b1', b2'⟩ := hb.rng hjc
        have b1 := hbel1.cellS b1'
        have b2 := hbel1.cellS b2'
        have HPc := hid (pick_at b jc hjc)
        have hnbc := not_bad (v1 b[jc] (List.getElem_mem hjc))
        generalize b[jc] = xo at *
        obtain ⟨olo, ohi⟩ := xo
        dsimp only at b1 b2 hnbc f2 f3 f4 f5
        obtain ⟨n1, n2, n3, n4⟩ := hnbc
        have H1 := hid f5
        have H2 := hid v1
        have l128 : ts.length ≤ 128 := by omega
        have z0 : gb < w1.heap.size := by omega
        have z1 : w.heap.size < w1.heap.size := by omega
        have z2 : w.heap.size + 1 < w1.heap.size := by omega
        clear hV v1 v2 v3 v4 f1' f2 f5 b1' b2'
        go_wp2
        have kA := (Kp.refl w1).alloc (.cells #[.int .i64 olo, .int .i64 ohi] 57)
        have a0 := kA.cellS c0
        have a1 := kA.cellS c1
        have a2 := kA.cellS c2
        have a3 := kA.cellS c3
        have a4 := alloc_cell w1 #[.int .i64 olo, .int .i64 ohi] 57 0 rfl
        have a5 := alloc_cell w1 #[.int .i64 olo, .int .i64 ohi] 57 1 rfl
        have a6 : ∀ o, (w1.alloc (.cells #[.int .i64 olo, .int .i64 ohi] 57)).frozen? ⟨w1.heap.size, o, none⟩ = false := alloc_frozen w1 #[.int .i64 olo, .int .i64 ohi] 57
        have a7 : ∀ o, (w1.alloc (.cells #[.int .i64 olo, .int .i64 ohi] 57)).frozen? ⟨w.heap.size + 1, o, none⟩ = false := fun o => by rw [(kcell kA).2 _ _ z2]; exact f1 o
        have a8 := alloc_lt w1 (.cells #[.int .i64 olo, .int .i64 ohi] 57)
        have hbel2 := hbel1.trans kA
        clear c0 c1 c2 c3 f1 b1 b2 hbel1 kA
        generalize w1.alloc (.cells #[.int .i64 olo, .int .i64 ohi] 57) = w2 at *
        generalize hG : w1.heap.size = G at *
        clear hG
        go_loopw [8, 9, 10] (fun x y i wr => ∃ (k : Nat) (rest f : Int), k ≤ ts.length ∧ i = .int .i64 k ∧ x = .int .i64 rest ∧ y = .int .i64 f ∧ -1000000000 * ((k : Int) + 1) ≤ rest ∧ rest ≤ 1000000000 * ((k : Int) + 1) ∧ -1000 ≤ f ∧ f ≤ 1000 ∧ Hid (restF b jc ts bd 0 = restF b jc (ts.drop k) rest f) ∧ Kp w2 wr) (fun _ _ i _ => ts.length - (intOf i).toNat)
        case atStart => exact ⟨0, bd, 0, Nat.zero_le _, rfl, rfl, rfl, by omega, by omega, by omega, by omega, rfl, Kp.refl _⟩
        case round =>
          obtain ⟨k, rest, f, hk, rfl, rfl, rfl, r1, r2, r3, r4, HL, hbel⟩ := hrel
          have hbel' := hbel2.trans hbel
          have d0 := hbel.cellS a0
          have hzz := hbel.size
          have y1 : w.heap.size < wr.heap.size := by omega
          by_cases hlt : k < ts.length
          · obtain ⟨g, o, rfl, hg, h1', h2'⟩ := ht.term hlt
            have h1 := hbel'.cellS h1'
            have h2 := hbel'.cellS h2'
            have lg : g < wr.heap.size := by have := hbel'.size; omega
            have HD := hid (List.drop_eq_getElem_cons hlt)
            obtain ⟨⟨o1, o2, o3, o4⟩, o5⟩ := H1.out ts[k] (List.getElem_mem hlt)
            clear h1' h2' ht
            generalize ts[k] = t at *
            obtain ⟨ce, fa⟩ := t
            dsimp only at h1 h2 o1 o2 o3 o4 o5
            obtain ⟨j, rfl⟩ := Int.eq_ofNat_of_zero_le o1
            have hj : j < b.length := by omega
            obtain ⟨g', o', he, hg', h3', h4'⟩ := hb.rng hj
            simp only [Option.some.injEq, Addr.mk.injEq, and_true] at he
            obtain ⟨rfl, rfl⟩ := he
            have h3 := hbel'.cellS h3'
            have h4 := hbel'.cellS h4'
            have lg' : gb < wr.heap.size := by omega
            have HPj := hid (pick_at b j hj)
            have hnb := not_bad (H2.out b[j] (List.getElem_mem hj))
            clear hb h3' h4'
            generalize b[j] = q at *
            obtain ⟨lo, hi⟩ := q
            dsimp only at h3 h4 hnb
            obtain ⟨g1, g2, g3, g4⟩ := hnb
            have q1 : (0 : Int) ≤ k := by omega
            have q2 : (k : Int) < ts.length := by omega
            have q3 : (0 : Int) ≤ j := by omega
            have q4 : (j : Int) < b.length := by omega
            by_cases hjj : j = jc
            · have HFn : Hid (restF b jc ts bd 0 = restF b jc (ts.drop (k + 1)) rest fa) := hid (by rw [HL.out, HD.out, restF, if_pos (by rw [hjj])])
              have b1 : (j == jc) = true := beq_iff_eq.2 hjj
              have b2 : ((j : Int) == (jc : Int)) = true := by simp [hjj]
              clear hjj
              go_wp2
              go_roundw
              case rel => exact ⟨k + 1, rest, fa, by omega, by go_num, rfl, rfl, by omega, by omega, by omega, by omega, HFn, hbel.alloc _⟩
              case measure => simp [intOf]; omega
            · have b1 : (j == jc) = false := by simpa using hjj
              have b2 : ((j : Int) == (jc : Int)) = false := by simp; omega
              have HC1 := hid (fun W => rEnd_any j fa lo hi true W o3 o4 g1 g2 g3 g4)
              have e1 : -1000000000 ≤ endV ⟨j, fa⟩ ⟨lo, hi⟩ true ∧ endV ⟨j, fa⟩ ⟨lo, hi⟩ true ≤ 1000000000 := by
                have m1 := mul_bd fa lo o3 o4 g1 g2
                have m2 := mul_bd fa hi o3 o4 g3 g4
                unfold endV; split <;> assumption
              have HFn : Hid (restF b jc ts bd 0 = restF b jc (ts.drop (k + 1)) (rest - endV ⟨j, fa⟩ ⟨lo, hi⟩ true) f) := hid (by rw [HL.out, HD.out, restF, if_neg (by dsimp only; omega), HPj.out])
              generalize endV ⟨j, fa⟩ ⟨lo, hi⟩ true = x1 at *
              obtain ⟨e11, e12⟩ := e1
              have HW1 : IntKind.i64.wrap (rest - x1) = rest - x1 := IntWalk.i64_in _ (by omega)
              clear hjj
              go_wp2
              have kB := (Kp.refl wr).alloc (.cells #[.int .i64 j, .int .i64 fa] 48)
              have x0 := alloc_cell wr #[.int .i64 j, .int .i64 fa] 48 0 rfl
              have x2 := alloc_cell wr #[.int .i64 j, .int .i64 fa] 48 1 rfl
              have x3 := alloc_lt wr (.cells #[.int .i64 j, .int .i64 fa] 48)
              have x4 := kB.cellS h3
              have x5 := kB.cellS h4
              have x6 : gb < (wr.alloc (.cells #[.int .i64 j, .int .i64 fa] 48)).heap.size := by omega
              have hbel3 := hbel.trans kB
              clear d0 h1 h2 h3 h4 hbel hbel' kB
              generalize wr.alloc (.cells #[.int .i64 j, .int .i64 fa] 48) = w3 at *
              refine wp_region_kw (by kernel_rfl) (by kernel_rfl) ?_
              repeat (go_big_quiet_step (((go_at_call 89; exact quiet_kw (HC1.out _)))))
              refine wpQuiet_nil ?_
              intro _ hw'
              obtain ⟨u, hw''⟩ := hw'
              subst hw''
              go_wp2
              go_roundw
              case rel => exact ⟨k + 1, _, f, by omega, by go_num, rfl, rfl, by omega, by omega, by omega, by omega, HFn, hbel3.trans (kw_kp _ _)⟩
              case measure => simp [intOf]; omega
          · have HRF : Hid (restF b jc ts bd 0 = (rest, f)) := hid (by rw [HL.out, List.drop_of_length_le (by omega)]; rfl)
            have HQ : Hid (tightenB ⟨ts, bd⟩ b jc = tightOf ⟨olo, ohi⟩ rest f) := hid (by rw [HF.out, HRF.out, HPc.out])
            have d2 := hbel.cellS a2
            have d3 := hbel.cellS a3
            have d4 := hbel.cellS a4
            have d5 := hbel.cellS a5
            have yG : G < wr.heap.size := by omega
            have y2 : w.heap.size + 1 < wr.heap.size := by omega
            have d6 : ∀ o, wr.frozen? ⟨G, o, none⟩ = false := fun o => by rw [(kcell hbel).2 _ _ a8]; exact a6 o
            have d7 : ∀ o, wr.frozen? ⟨w.heap.size + 1, o, none⟩ = false := fun o => by rw [(kcell hbel).2 _ _ (by omega)]; exact a7 o
            have wG : w.heap.size ≤ G := by omega
            have wG1 : w.heap.size + 1 ≠ G := by omega
            have wG2 : w.heap.size + 1 < G := by omega
            have r128 : rest ≤ 1000000000000 := by omega
            have r129 : -1000000000000 ≤ rest := by omega
            clear HL HF HRF HPc HV H1 H2 a0 a1 a2 a3 a4 a5 a6 a7 a8 hbel hbel2 hb ht
            by_cases hf0 : f = 0
            · have HH : Hid (tightenB ⟨ts, bd⟩ b jc = ⟨olo, ohi⟩) := hid (by rw [HQ.out, tightOf, if_pos hf0])
              subst hf0
              go_wp2
              refine bodyPost_agg2 (by simp [results, Tryz.results82, go_sem, d2, d3]; exact ⟨rfl, rfl⟩) rfl ⟨ret_agg2 (by rw [HH.out]) (by rw [HH.out]), ?_⟩
              exact (hbel'.set (by show _ ≤ _; simp) _).set (by show _ ≤ _; simp) _
            · have hfn : (f != 0) = true := by simpa using hf0
              by_cases h0 : 0 < f
              · obtain ⟨dd1, dd2⟩ := ediv_bd rest f h0 (by omega) (by omega)
                by_cases hm : rest / f < ohi
                · have HG : Hid (tightenB ⟨ts, bd⟩ b jc = if emptyR ⟨olo, rest / f⟩ then ⟨1, 0⟩ else ⟨olo, rest / f⟩) := hid (by rw [HQ.out, tightOf, if_neg hf0]; dsimp only; rw [if_pos h0, Int.min_eq_right (by omega)])
                  clear hf0
                  go_wp2
                  refine wp_region_kw_tail 7 (by kernel_rfl) (by kernel_rfl) ?_
                  simp only [List.take_succ_cons, List.take_zero, List.drop_succ_cons, List.drop_zero]
                  repeat (go_big_quiet_step (((go_at_call 72; refine quiet_kw (rDown_kp _ _ _ (by omega) (by omega) (by omega) (by omega))))))
                  refine wpQuiet_nil ?_
                  intro _ hw'
                  obtain ⟨u, hw''⟩ := hw'
                  subst hw''
                  have k3 := kw_kp wr u
                  have e2 : (Kw wr u).cell? ⟨w.heap.size + 1, 0, none⟩ = some (.int .i64 0) := k3.cellS d2
                  have e3 : (Kw wr u).cell? ⟨w.heap.size + 1, 1, none⟩ = some (.int .i64 0) := k3.cellS d3
                  have e4 : (Kw wr u).cell? ⟨G, 0, none⟩ = some (.int .i64 olo) := k3.cellS d4
                  have e5 : (Kw wr u).cell? ⟨G, 1, none⟩ = some (.int .i64 ohi) := k3.cellS d5
                  have e6 : ∀ o, (Kw wr u).frozen? ⟨G, o, none⟩ = false := fun o => by rw [(kcell k3).2 _ _ yG]; exact d6 o
                  have e7 : ∀ o, (Kw wr u).frozen? ⟨w.heap.size + 1, o, none⟩ = false := fun o => by rw [(kcell k3).2 _ _ y2]; exact d7 o
                  have hbel4 := hbel'.trans k3
                  clear d2 d3 d4 d5 d6 d7 k3
                  generalize Kw wr u = w4 at *
                  cases hE : emptyR ⟨olo, rest / f⟩ with
                  | true =>
                    have HH : Hid (tightenB ⟨ts, bd⟩ b jc = ⟨1, 0⟩) := hid (by rw [HG.out, hE]; rfl)
                    have hlt : rest / f < olo := by unfold emptyR at hE; simpa using hE
                    clear hE
                    go_wp2
                    refine bodyPost_agg2 (by simp [results, Tryz.results82, go_sem, e2, e3]; exact ⟨rfl, rfl⟩) rfl ⟨ret_agg2 (by rw [HH.out]) (by rw [HH.out]), ?_⟩
                    exact ((hbel4.set (by show _ ≤ _; simp; omega) _).set (by show _ ≤ _; simp) _).set (by show _ ≤ _; simp) _
                  | false =>
                    have HH : Hid (tightenB ⟨ts, bd⟩ b jc = ⟨olo, rest / f⟩) := hid (by rw [HG.out, hE]; rfl)
                    have hlt : olo ≤ rest / f := by unfold emptyR at hE; simpa using hE
                    clear hE
                    go_wp2
                    refine bodyPost_agg2 (by simp [results, Tryz.results82, go_sem, e2, e3]; exact ⟨rfl, rfl⟩) rfl ⟨ret_agg2 (by rw [HH.out]) (by rw [HH.out]), ?_⟩
                    exact ((hbel4.set (by show _ ≤ _; simp; omega) _).set (by show _ ≤ _; simp) _).set (by show _ ≤ _; simp) _
                · have HG : Hid (tightenB ⟨ts, bd⟩ b jc = if emptyR ⟨olo, ohi⟩ then ⟨1, 0⟩ else ⟨olo, ohi⟩) := hid (by rw [HQ.out, tightOf, if_neg hf0]; dsimp only; rw [if_pos h0, Int.min_eq_left (by omega)])
                  clear hf0
                  go_wp2
                  refine wp_region_kw_tail 7 (by kernel_rfl) (by kernel_rfl) ?_
                  simp only [List.take_succ_cons, List.take_zero, List.drop_succ_cons, List.drop_zero]
                  repeat (go_big_quiet_step (((go_at_call 72; refine quiet_kw (rDown_kp _ _ _ (by omega) (by omega) (by omega) (by omega))))))
                  refine wpQuiet_nil ?_
                  intro _ hw'
                  obtain ⟨u, hw''⟩ := hw'
                  subst hw''
                  have k3 := kw_kp wr u
                  have e2 : (Kw wr u).cell? ⟨w.heap.size + 1, 0, none⟩ = some (.int .i64 0) := k3.cellS d2
                  have e3 : (Kw wr u).cell? ⟨w.heap.size + 1, 1, none⟩ = some (.int .i64 0) := k3.cellS d3
                  have e4 : (Kw wr u).cell? ⟨G, 0, none⟩ = some (.int .i64 olo) := k3.cellS d4
                  have e5 : (Kw wr u).cell? ⟨G, 1, none⟩ = some (.int .i64 ohi) := k3.cellS d5
                  have e6 : ∀ o, (Kw wr u).frozen? ⟨G, o, none⟩ = false := fun o => by rw [(kcell k3).2 _ _ yG]; exact d6 o
                  have e7 : ∀ o, (Kw wr u).frozen? ⟨w.heap.size + 1, o, none⟩ = false := fun o => by rw [(kcell k3).2 _ _ y2]; exact d7 o
                  have hbel4 := hbel'.trans k3
                  clear d2 d3 d4 d5 d6 d7 k3
                  generalize Kw wr u = w4 at *
                  cases hE : emptyR ⟨olo, ohi⟩ with
                  | true =>
                    have HH : Hid (tightenB ⟨ts, bd⟩ b jc = ⟨1, 0⟩) := hid (by rw [HG.out, hE]; rfl)
                    have hlt : ohi < olo := by unfold emptyR at hE; simpa using hE
                    clear hE
                    go_wp2
                    refine bodyPost_agg2 (by simp [results, Tryz.results82, go_sem, e2, e3]; exact ⟨rfl, rfl⟩) rfl ⟨ret_agg2 (by rw [HH.out]) (by rw [HH.out]), ?_⟩
                    exact ((hbel4.set (by show _ ≤ _; simp; omega) _).set (by show _ ≤ _; simp) _).set (by show _ ≤ _; simp) _
                  | false =>
                    have HH : Hid (tightenB ⟨ts, bd⟩ b jc = ⟨olo, ohi⟩) := hid (by rw [HG.out, hE]; rfl)
                    have hlt : olo ≤ ohi := by unfold emptyR at hE; simpa using hE
                    clear hE
                    go_wp2
                    refine bodyPost_agg2 (by simp [results, Tryz.results82, go_sem, e2, e3]; exact ⟨rfl, rfl⟩) rfl ⟨ret_agg2 (by rw [HH.out]) (by rw [HH.out]), ?_⟩
                    exact ((hbel4.set (by show _ ≤ _; simp; omega) _).set (by show _ ≤ _; simp) _).set (by show _ ≤ _; simp) _
              · have h0' : 0 < -f := by omega
                have hn := Int.ediv_neg rest f
                obtain ⟨dd1, dd2⟩ := ediv_bd rest (-f) h0' (by omega) (by omega)
                rw [hn] at dd1 dd2
                have HF2 : Hid (tightenB ⟨ts, bd⟩ b jc = if emptyR ⟨max olo (rest / f), ohi⟩ then ⟨1, 0⟩ else ⟨max olo (rest / f), ohi⟩) := hid (by rw [HQ.out, tightOf, if_neg hf0]; dsimp only; rw [if_neg h0, hn, Int.neg_neg])
                clear hn hf0
                have dd3 : -1000000000000000 ≤ rest / f := by omega
                have dd4 : rest / f ≤ 1000000000000000 := by omega
                clear dd1 dd2
                by_cases hm : olo < rest / f
                · have HG : Hid (tightenB ⟨ts, bd⟩ b jc = if emptyR ⟨rest / f, ohi⟩ then ⟨1, 0⟩ else ⟨rest / f, ohi⟩) := hid (by rw [HF2.out, Int.max_eq_right (by omega)])
                  go_wp2
                  refine wp_region_kw_tail 9 (by kernel_rfl) (by kernel_rfl) ?_
                  simp only [List.take_succ_cons, List.take_zero, List.drop_succ_cons, List.drop_zero]
                  repeat (go_big_quiet_step (((go_at_call 72; refine quiet_kw (rDown_kp _ _ _ (by omega) (by omega) (by omega) (by omega))))))
                  refine wpQuiet_nil ?_
                  intro _ hw'
                  obtain ⟨u, hw''⟩ := hw'
                  subst hw''
                  have k3 := kw_kp wr u
                  have e2 : (Kw wr u).cell? ⟨w.heap.size + 1, 0, none⟩ = some (.int .i64 0) := k3.cellS d2
                  have e3 : (Kw wr u).cell? ⟨w.heap.size + 1, 1, none⟩ = some (.int .i64 0) := k3.cellS d3
                  have e4 : (Kw wr u).cell? ⟨G, 0, none⟩ = some (.int .i64 olo) := k3.cellS d4
                  have e5 : (Kw wr u).cell? ⟨G, 1, none⟩ = some (.int .i64 ohi) := k3.cellS d5
                  have e6 : ∀ o, (Kw wr u).frozen? ⟨G, o, none⟩ = false := fun o => by rw [(kcell k3).2 _ _ yG]; exact d6 o
                  have e7 : ∀ o, (Kw wr u).frozen? ⟨w.heap.size + 1, o, none⟩ = false := fun o => by rw [(kcell k3).2 _ _ y2]; exact d7 o
                  have hbel4 := hbel'.trans k3
                  clear d2 d3 d4 d5 d6 d7 k3
                  generalize Kw wr u = w4 at *
                  cases hE : emptyR ⟨rest / f, ohi⟩ with
                  | true =>
                    have HH : Hid (tightenB ⟨ts, bd⟩ b jc = ⟨1, 0⟩) := hid (by rw [HG.out, hE]; rfl)
                    have hlt : ohi < rest / f := by unfold emptyR at hE; simpa using hE
                    clear hE
                    go_wp2
                    refine bodyPost_agg2 (by simp [results, Tryz.results82, go_sem, e2, e3]; exact ⟨rfl, rfl⟩) rfl ⟨ret_agg2 (by rw [HH.out]) (by rw [HH.out]), ?_⟩
                    exact ((hbel4.set (by show _ ≤ _; simp; omega) _).set (by show _ ≤ _; simp) _).set (by show _ ≤ _; simp) _
                  | false =>
                    have HH : Hid (tightenB ⟨ts, bd⟩ b jc = ⟨rest / f, ohi⟩) := hid (by rw [HG.out, hE]; rfl)
                    have hlt : rest / f ≤ ohi := by unfold emptyR at hE; simpa using hE
                    clear hE
                    go_wp2
                    refine bodyPost_agg2 (by simp [results, Tryz.results82, go_sem, e2, e3]; exact ⟨rfl, rfl⟩) rfl ⟨ret_agg2 (by rw [HH.out]) (by rw [HH.out]), ?_⟩
                    exact ((hbel4.set (by show _ ≤ _; simp; omega) _).set (by show _ ≤ _; simp) _).set (by show _ ≤ _; simp) _
                · have HG : Hid (tightenB ⟨ts, bd⟩ b jc = if emptyR ⟨olo, ohi⟩ then ⟨1, 0⟩ else ⟨olo, ohi⟩) := hid (by rw [HF2.out, Int.max_eq_left (by omega)])
                  go_wp2
                  refine wp_region_kw_tail 9 (by kernel_rfl) (by kernel_rfl) ?_
                  simp only [List.take_succ_cons, List.take_zero, List.drop_succ_cons, List.drop_zero]
                  repeat (go_big_quiet_step (((go_at_call 72; refine quiet_kw (rDown_kp _ _ _ (by omega) (by omega) (by omega) (by omega))))))
                  refine wpQuiet_nil ?_
                  intro _ hw'
                  obtain ⟨u, hw''⟩ := hw'
                  subst hw''
                  have k3 := kw_kp wr u
                  have e2 : (Kw wr u).cell? ⟨w.heap.size + 1, 0, none⟩ = some (.int .i64 0) := k3.cellS d2
                  have e3 : (Kw wr u).cell? ⟨w.heap.size + 1, 1, none⟩ = some (.int .i64 0) := k3.cellS d3
                  have e4 : (Kw wr u).cell? ⟨G, 0, none⟩ = some (.int .i64 olo) := k3.cellS d4
                  have e5 : (Kw wr u).cell? ⟨G, 1, none⟩ = some (.int .i64 ohi) := k3.cellS d5
                  have e6 : ∀ o, (Kw wr u).frozen? ⟨G, o, none⟩ = false := fun o => by rw [(kcell k3).2 _ _ yG]; exact d6 o
                  have e7 : ∀ o, (Kw wr u).frozen? ⟨w.heap.size + 1, o, none⟩ = false := fun o => by rw [(kcell k3).2 _ _ y2]; exact d7 o
                  have hbel4 := hbel'.trans k3
                  clear d2 d3 d4 d5 d6 d7 k3
                  generalize Kw wr u = w4 at *
                  cases hE : emptyR ⟨olo, ohi⟩ with
                  | true =>
                    have HH : Hid (tightenB ⟨ts, bd⟩ b jc = ⟨1, 0⟩) := hid (by rw [HG.out, hE]; rfl)
                    have hlt : ohi < olo := by unfold emptyR at hE; simpa using hE
                    clear hE
                    go_wp2
                    refine bodyPost_agg2 (by simp [results, Tryz.results82, go_sem, e2, e3]; exact ⟨rfl, rfl⟩) rfl ⟨ret_agg2 (by rw [HH.out]) (by rw [HH.out]), ?_⟩
                    exact ((hbel4.set (by show _ ≤ _; simp; omega) _).set (by show _ ≤ _; simp) _).set (by show _ ≤ _; simp) _
                  | false =>
                    have HH : Hid (tightenB ⟨ts, bd⟩ b jc = ⟨olo, ohi⟩) := hid (by rw [HG.out, hE]; rfl)
                    have hlt : olo ≤ ohi := by unfold emptyR at hE; simpa using hE
                    clear hE
                    go_wp2
                    refine bodyPost_agg2 (by simp [results, Tryz.results82, go_sem, e2, e3]; exact ⟨rfl, rfl⟩) rfl ⟨ret_agg2 (by rw [HH.out]) (by rw [HH.out]), ?_⟩
                    exact ((hbel4.set (by show _ ≤ _; simp; omega) _).set (by show _ ≤ _; simp) _).set (by show _ ≤ _; simp) _
      · have HF : Hid (tightenB ⟨ts, bd⟩ b cell = ⟨0, 0⟩) := hid (by unfold tightenB; rw [if_neg (by omega)])
        clear hV
        go_wp2
        refine bodyPost_agg2 (by simp [results, Tryz.results82, go_sem, c2, c3]; exact ⟨rfl, rfl⟩) rfl ⟨ret_agg2 (by rw [HF.out]) (by rw [HF.out]), ?_⟩
        exact (hbel1.set (by show _ ≤ _; simp) _).set (by show _ ≤ _; simp) _
    · have HF : Hid (tightenB ⟨ts, bd⟩ b cell = ⟨0, 0⟩) := hid (by unfold tightenB; rw [if_neg (by omega)])
      clear hV
      go_wp2
      refine bodyPost_agg2 (by simp [results, Tryz.results82, go_sem, c2, c3]; exact ⟨rfl, rfl⟩) rfl ⟨ret_agg2 (by rw [HF.out]) (by rw [HF.out]), ?_⟩
      exact (hbel1.set (by show _ ≤ _; simp) _).set (by show _ ≤ _; simp) _
end Go.Proofs.YtlbhidiliogflaaGreat
namespace Go.Proofs.YtlbhidiliogflaaGreat
set_option linter.unusedSimpArgs false
set_option linter.unusedVariables false
open Go.RowKit

theorem Sl.setO {α : Type} {enc : α → List Value} {size : Nat} {w : World} {A : Option Addr} {n c : Nat} {l : List α} {p : Addr} (h : Sl (Pl enc) size w (.slice A n c) l) (hne : ∀ b o s, A = some ⟨b, o, s⟩ → b ≠ p.block) (u : Value) : Sl (Pl enc) size (w.setCell p u) (.slice A n c) l := by
  obtain ⟨A', c', he, h1, h2, h3⟩ := h
  injection he with e1 e2 e3
  subst e1 e2 e3
  refine ⟨A, c, rfl, h1, h2, fun k hk => ?_⟩
  obtain ⟨b, o, cs, hA, hb, hl, hc, hr⟩ := h3 k hk
  refine ⟨b, o, cs, hA, by simpa using hb, hl, fun j v hv => ?_, hr⟩
  rw [World.cell?_of_block (w := w) (w' := w.setCell p u) (a := ⟨b, o + k * size + j, none⟩) (Below.heap_setCell w p u b (hne b o none hA))]
  exact hc j v hv
theorem Sl.drewN {α : Type} {R : Rd α} {size : Nat} {w : World} {v : Value} {l : List α} (hR : Stable R) (h : Sl R size w v l) (k : Nat) : Sl R size (w.drewN k) v l := h.keep hR ((Kp.refl w).drewN k)

theorem width_set_le : ∀ (l : List Rng) (k : Nat) (x : Rng), k < l.length → (pick l k).lo ≤ x.lo → x.lo ≤ x.hi → x.hi ≤ (pick l k).hi → width (l.set k x) ≤ width l
  | [], k, _, hk, _, _, _ => absurd hk (by simp)
  | r :: l, 0, x, _, h1, h2, h3 => by
    simp only [List.set_cons_zero, width]
    simp [pick] at h1 h3
    omega
  | r :: l, k + 1, x, hk, h1, h2, h3 => by
    simp only [List.set_cons_succ, width]
    have := width_set_le l k x (by simpa using hk) (by simpa [pick] using h1) h2 (by simpa [pick] using h3)
    omega
theorem rng_ext {a b : Rng} (h : RngEq a b) : a = b := by
  obtain ⟨a1, a2⟩ := a
  obtain ⟨b1, b2⟩ := b
  obtain ⟨h1, h2⟩ := h
  dsimp only at h1 h2
  rw [h1, h2]
/-- one step, whether or not the range changes -/
theorem termsPass_step (r : Row) (t : Term) (ts : List Term) (out : List Rng) (ch : Bool) (j : Nat) (hj : j < out.length) (ht : t.cell = j) (he : emptyR (tightR r out j) = false) :
    ∃ ch', termsPass r (t :: ts) out ch = termsPass r ts (out.set j (tightR r out j)) ch' ∧ (ch' = true → ch = true ∨ width (out.set j (tightR r out j)) < width out) ∧ (ch' = false → ch = false ∧ out.set j (tightR r out j) = out) := by
  obtain ⟨s1, s2, s3⟩ := tight_sub r out j he
  rw [termsPass, ht]
  rw [if_neg (by rw [he]; simp)]
  by_cases hq : RngEq (tightR r out j) (pick out j)
  · have hs : out.set j (tightR r out j) = out := by
      have := rng_ext hq
      rw [pick_at out j hj] at this
      rw [this, List.set_getElem_self]
    exact ⟨ch, by rw [if_pos hq, hs], fun h => .inl h, fun h => ⟨h, hs⟩⟩
  · exact ⟨true, by rw [if_neg hq]; rfl, fun _ => .inr (width_set out j _ hj s1 s2 s3 hq), fun h => by cases h⟩
theorem validB_fine {n : Nat} {out : List Rng} {r : Row} (h : fineBox n out) (hn : n ≤ 128) (hr : fitsB n r = true) : validB out [r] = true := by
  obtain ⟨h1, h2, h3⟩ := h
  unfold validB boxB
  have hb : ∀ l : List Rng, (∀ r ∈ l, ¬ bad r) → boxL l = true := by
    intro l
    induction l with
    | nil => intro _; rfl
    | cons x l ih => intro hl; unfold boxL; rw [if_neg (hl x (by simp))]; exact ih (fun r hr => hl r (by simp [hr]))
  simp [hb out h2, h1, hn, hr]

end Go.Proofs.YtlbhidiliogflaaGreat
