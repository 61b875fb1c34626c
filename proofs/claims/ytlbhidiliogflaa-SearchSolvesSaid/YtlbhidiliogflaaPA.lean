/-
Plain facts on boxes and rows: a fixed box is the greatest closed box in the given one. No program in sight.
Plain facts on boxes, rows and values: what holds for values in a box holds in the fixed box. No program in sight.
What slices.Compare of two lists of numbers returns, for any input.
Plain facts on counting: the values of a box in their order, one by one, are as many as its size says. No program in sight.
All values in a box, in their order: the first is the least, and each is followed by what Next says. No program in sight.
-/
import Derived.Test.YtlbhidiliogflaaIB
import Derived.Test.YtlbhidiliogflaaKB
namespace Go.Proofs.Ytlbhidiliogflaa
set_option linter.unusedSimpArgs false
set_option linter.unusedVariables false
open Go.RowKit

/-- a box in a box -/
def Sub (M L : List Rng) : Prop := M.length = L.length ∧ ∀ k : Nat, k < L.length → (pick L k).lo ≤ (pick M k).lo ∧ (pick M k).hi ≤ (pick L k).hi
theorem Sub.refl (L : List Rng) : Sub L L := ⟨rfl, fun _ _ => ⟨Int.le_refl _, Int.le_refl _⟩⟩
theorem Sub.trans {A B C : List Rng} (h : Sub A B) (k : Sub B C) : Sub A C :=
  ⟨h.1.trans k.1, fun i hi => by
    have h1 := h.2 i (by rw [k.1]; exact hi)
    have h2 := k.2 i hi
    omega⟩
theorem Sub.antisymm {A B : List Rng} (h : Sub A B) (k : Sub B A) : A = B := by
  apply List.ext_getElem h.1
  intro i h1 h2
  have a := h.2 i h2
  have b := k.2 i h1
  rw [pick_at A i h1, pick_at B i h2] at a b
  exact rng_ext ⟨by omega, by omega⟩
theorem pick_set (l : List Rng) (j k : Nat) (x : Rng) (hk : k < l.length) : pick (l.set j x) k = if j = k then x else pick l k := by
  rw [pick_at _ k (by simpa using hk), List.getElem_set, pick_at l k hk]

/-- a row's terms are in order, its cells are cells, its factors are not 0 -/
def RowOk (n : Nat) (r : Row) : Prop := fitsB n r = true
/-- the least sums grow when a box shrinks -/
theorem termV_mono {M L : List Rng} (h : Sub M L) (wo : Int) (t : Term) (ht : okT L.length t) : termV L wo 1 t ≤ termV M wo 1 t := by
  obtain ⟨h0, h1, -, -⟩ := ht
  obtain ⟨j, hj⟩ := Int.eq_ofNat_of_zero_le h0
  have hs := h.2 j (by omega)
  unfold termV
  rw [hj, Int.mul_one]
  split
  · exact Int.le_refl _
  · split
    · exact Int.mul_le_mul_of_nonneg_left hs.1 (by omega)
    · exact Int.mul_le_mul_of_nonpos_left (by omega) hs.2
theorem boundL_mono {M L : List Rng} (h : Sub M L) (wo : Int) : ∀ (l : List Term), (∀ t ∈ l, okT L.length t) → boundL L wo 1 0 l ≤ boundL M wo 1 0 l
  | [], _ => Int.le_refl _
  | t :: l, hok => by
    unfold boundL
    rw [boundL_acc L, boundL_acc M]
    have h1 := termV_mono h wo t (hok t (by simp))
    have h2 := boundL_mono h wo l (fun t ht => hok t (by simp [ht]))
    omega
/-- the range before it is looked at whether it is empty -/
def tightO (r : Row) (b : List Rng) (cell : Int) : Rng :=
  match r.terms.find? (fun t => t.cell == cell) with
  | none => pick b cell
  | some t =>
    if 0 < t.factor then ⟨(pick b cell).lo, min (pick b cell).hi ((r.bound - boundL b cell 1 0 r.terms) / t.factor)⟩
    else ⟨max (pick b cell).lo (-((r.bound - boundL b cell 1 0 r.terms) / -t.factor)), (pick b cell).hi⟩
theorem tightR_of_ne (r : Row) (b : List Rng) (cell : Int) (h : emptyR (tightO r b cell) = false) : tightR r b cell = tightO r b cell := by
  unfold tightR tightO at *
  cases hf : r.terms.find? (fun t => t.cell == cell) with
  | none => rfl
  | some t =>
    rw [hf] at h
    dsimp only at h ⊢
    rw [if_neg (by rw [h]; simp)]
theorem tightO_of_ne (r : Row) (b : List Rng) (cell : Int) (h : emptyR (tightR r b cell) = false) : emptyR (tightO r b cell) = false := by
  unfold tightR at h
  unfold tightO
  cases hf : r.terms.find? (fun t => t.cell == cell) with
  | none => rw [hf] at h; exact h
  | some t =>
    rw [hf] at h
    dsimp only at h ⊢
    cases he : emptyR (if 0 < t.factor then (⟨(pick b cell).lo, min (pick b cell).hi ((r.bound - boundL b cell 1 0 r.terms) / t.factor)⟩ : Rng) else ⟨max (pick b cell).lo (-((r.bound - boundL b cell 1 0 r.terms) / -t.factor)), (pick b cell).hi⟩) with
    | false => rfl
    | true => rw [if_pos he] at h; simp [emptyR] at h
theorem ediv_mono {a b c : Int} (hc : 0 < c) (h : a ≤ b) : a / c ≤ b / c := Int.ediv_le_ediv hc h
theorem tightO_mono {M L : List Rng} (h : Sub M L) (r : Row) (j : Nat) (hj : j < L.length) (hok : ∀ t ∈ r.terms, okT L.length t) (hnz : ∀ t ∈ r.terms, t.factor ≠ 0) :
    (tightO r L j).lo ≤ (tightO r M j).lo ∧ (tightO r M j).hi ≤ (tightO r L j).hi := by
  have hs := h.2 j hj
  have hb := boundL_mono h j r.terms hok
  unfold tightO
  cases hf : r.terms.find? (fun t => t.cell == (j : Int)) with
  | none => exact hs
  | some t =>
    have hm := hnz t (List.mem_of_find?_eq_some hf)
    dsimp only
    by_cases h0 : 0 < t.factor
    · rw [if_pos h0, if_pos h0]
      have := ediv_mono h0 (show r.bound - boundL M j 1 0 r.terms ≤ r.bound - boundL L j 1 0 r.terms by omega)
      dsimp only
      omega
    · rw [if_neg h0, if_neg h0]
      have := ediv_mono (show 0 < -t.factor by omega) (show r.bound - boundL M j 1 0 r.terms ≤ r.bound - boundL L j 1 0 r.terms by omega)
      dsimp only
      omega

/-- no row makes a range of the box smaller, and none is empty -/
def Closed (rows : List Row) (L : List Rng) : Prop := ∀ r ∈ rows, ∀ t ∈ r.terms, emptyR (tightR r L t.cell) = false ∧ tightR r L t.cell = pick L t.cell

/-- one step keeps a closed box inside -/
theorem step_sub {M L : List Rng} {r : Row} {t : Term} (hS : Sub M L) (ht : t ∈ r.terms) (hr : fitsB L.length r = true) (hc : emptyR (tightR r M t.cell) = false ∧ tightR r M t.cell = pick M t.cell) :
    emptyR (tightR r L t.cell) = false ∧ Sub M (L.set t.cell.toNat (tightR r L t.cell)) := by
  have hall := fits_all hr
  obtain ⟨⟨h0, h1, -, -⟩, -⟩ := hall t ht
  obtain ⟨j, hj⟩ := Int.eq_ofNat_of_zero_le h0
  rw [hj] at hc ⊢
  have hjl : j < L.length := by omega
  have hm := tightO_mono hS r j hjl (fun t ht => (hall t ht).1) (fun t ht => (hall t ht).2)
  have hMo := tightO_of_ne r M j hc.1
  have hMr := tightR_of_ne r M j hMo
  rw [hc.2] at hMr
  have hLo : emptyR (tightO r L j) = false := by
    unfold emptyR at hMo ⊢
    simp only [decide_eq_false_iff_not] at hMo ⊢
    omega
  have hLr := tightR_of_ne r L j hLo
  refine ⟨by rw [hLr]; exact hLo, by rw [List.length_set]; exact hS.1, fun k hk => ?_⟩
  rw [List.length_set] at hk
  simp only [Int.toNat_natCast]
  rw [pick_set L j k _ hk]
  by_cases hjk : j = k
  · subst hjk
    rw [if_pos rfl, hLr, hMr]
    exact hm
  · rw [if_neg hjk]
    exact hS.2 k hk

theorem termsPass_sub {n : Nat} {M : List Rng} (r : Row) (hr : fitsB n r = true) (hC : ∀ t ∈ r.terms, emptyR (tightR r M t.cell) = false ∧ tightR r M t.cell = pick M t.cell) :
    ∀ (ts : List Term) (out : List Rng) (ch : Bool), (∀ t ∈ ts, t ∈ r.terms) → fineBox n out → Sub M out →
      ∃ o c, termsPass r ts out ch = some (o, c) ∧ fineBox n o ∧ Sub M o ∧ Sub o out ∧ (c = true → ch = true ∨ width o < width out) ∧ width o ≤ width out
  | [], out, ch, _, hf, hS => ⟨out, ch, rfl, hf, hS, Sub.refl _, fun h => .inl h, Nat.le_refl _⟩
  | t :: ts, out, ch, hts, hf, hS => by
    have ht := hts t (by simp)
    have hr' : fitsB out.length r = true := by rw [hf.1]; exact hr
    obtain ⟨he, hS2⟩ := step_sub hS ht hr' (hC t ht)
    obtain ⟨⟨h0, h1, -, -⟩, -⟩ := fitsn_all hr t ht
    obtain ⟨j, hj⟩ := Int.eq_ofNat_of_zero_le h0
    have hjn : j < n := by omega
    have hjo : j < out.length := by rw [hf.1]; exact hjn
    rw [hj] at he hS2
    simp only [Int.toNat_natCast] at hS2
    obtain ⟨s1, s2, s3⟩ := tight_sub r out j he
    obtain ⟨ch', e1, e2, -⟩ := termsPass_step r t ts out ch j hjo hj he
    have hf2 := fineBox_set (x := tightR r out j) hf hjn s1 s2 s3
    obtain ⟨o, c, i1, i2, i3, i4, i5, i6⟩ := termsPass_sub r hr hC ts (out.set j (tightR r out j)) ch' (fun t ht => hts t (by simp [ht])) hf2 hS2
    have hwl := width_set_le out j _ hjo s1 s2 s3
    refine ⟨o, c, by rw [e1, i1], i2, i3, i4.trans ⟨by rw [List.length_set], fun k hk => ?_⟩, fun h => ?_, by omega⟩
    · rw [pick_set out j k _ hk]
      by_cases hjk : j = k
      · subst hjk; rw [if_pos rfl]; exact ⟨s1, s3⟩
      · rw [if_neg hjk]; exact ⟨Int.le_refl _, Int.le_refl _⟩
    · rcases i5 h with h2 | h2
      · rcases e2 h2 with h3 | h3
        · exact .inl h3
        · exact .inr (by omega)
      · exact .inr (by omega)
theorem rowsPass_sub {n : Nat} {M : List Rng} : ∀ (rows : List Row) (out : List Rng) (ch : Bool), (∀ r ∈ rows, fitsB n r = true) → Closed rows M → fineBox n out → Sub M out →
      ∃ o c, rowsPass rows out ch = some (o, c) ∧ fineBox n o ∧ Sub M o ∧ Sub o out ∧ (c = true → ch = true ∨ width o < width out) ∧ width o ≤ width out
  | [], out, ch, _, _, hf, hS => ⟨out, ch, rfl, hf, hS, Sub.refl _, fun h => .inl h, Nat.le_refl _⟩
  | r :: rs, out, ch, hr, hC, hf, hS => by
    obtain ⟨o, c, e1, f1, s1, s2, c1, w1⟩ := termsPass_sub r (hr r (by simp)) (hC r (by simp)) r.terms out ch (fun _ h => h) hf hS
    obtain ⟨o2, c2, e2, f2, s3, s4, c3, w2⟩ := rowsPass_sub rs o c (fun r hr' => hr r (by simp [hr'])) (fun r hr' => hC r (by simp [hr'])) f1 s1
    refine ⟨o2, c2, by rw [rowsPass, e1]; exact e2, f2, s3, s4.trans s2, fun h => ?_, by omega⟩
    rcases c3 h with h2 | h2
    · rcases c1 h2 with h3 | h3
      · exact .inl h3
      · exact .inr (by omega)
    · exact .inr (by omega)
theorem fixF_sub {n : Nat} {M : List Rng} (rows : List Row) (hr : ∀ r ∈ rows, fitsB n r = true) (hC : Closed rows M) : ∀ (fuel : Nat) (out : List Rng), fineBox n out → Sub M out → width out < fuel → ∃ L, fixF rows fuel out = some L ∧ Sub M L
  | 0, _, _, _, h => absurd h (Nat.not_lt_zero _)
  | fuel + 1, out, hf, hS, hw => by
    obtain ⟨o, c, e1, f1, s1, -, c1, -⟩ := rowsPass_sub rows out false hr hC hf hS
    unfold fixF
    rw [e1]
    cases c with
    | false => exact ⟨o, rfl, s1⟩
    | true =>
      have : width o < width out := by
        rcases c1 rfl with h | h
        · cases h
        · exact h
      exact fixF_sub rows hr hC fuel o f1 s1 (by omega)

/-! a pass that changes nothing -/
theorem termsPass_some {n : Nat} (r : Row) (hr : fitsB n r = true) : ∀ (ts : List Term) (out : List Rng) (ch : Bool) (o : List Rng) (c : Bool), (∀ t ∈ ts, t ∈ r.terms) → fineBox n out → termsPass r ts out ch = some (o, c) →
      fineBox n o ∧ Sub o out ∧ (c = true → ch = true ∨ width o < width out) ∧ width o ≤ width out ∧ (c = false → ch = false ∧ o = out ∧ ∀ t ∈ ts, emptyR (tightR r out t.cell) = false ∧ tightR r out t.cell = pick out t.cell)
  | [], out, ch, o, c, _, hf, h => by
    simp only [termsPass, Option.some.injEq, Prod.mk.injEq] at h
    obtain ⟨rfl, rfl⟩ := h
    exact ⟨hf, Sub.refl _, fun h => .inl h, Nat.le_refl _, fun h => ⟨h, rfl, fun t ht => by simp at ht⟩⟩
  | t :: ts, out, ch, o, c, hts, hf, h => by
    have ht := hts t (by simp)
    obtain ⟨⟨h0, h1, -, -⟩, -⟩ := fitsn_all hr t ht
    obtain ⟨j, hj⟩ := Int.eq_ofNat_of_zero_le h0
    have hjn : j < n := by omega
    have hjo : j < out.length := by rw [hf.1]; exact hjn
    cases he : emptyR (tightR r out t.cell) with
    | true => rw [termsPass, if_pos he] at h; cases h
    | false =>
      rw [hj] at he
      obtain ⟨s1, s2, s3⟩ := tight_sub r out j he
      obtain ⟨ch', e1, e2, e3⟩ := termsPass_step r t ts out ch j hjo hj he
      have hf2 := fineBox_set (x := tightR r out j) hf hjn s1 s2 s3
      rw [e1] at h
      obtain ⟨i1, i2, i3, i4, i5⟩ := termsPass_some r hr ts _ ch' o c (fun t ht => hts t (by simp [ht])) hf2 h
      have hwl := width_set_le out j _ hjo s1 s2 s3
      refine ⟨i1, i2.trans ⟨by rw [List.length_set], fun k hk => ?_⟩, fun h => ?_, by omega, fun h => ?_⟩
      · rw [pick_set out j k _ hk]
        by_cases hjk : j = k
        · subst hjk; rw [if_pos rfl]; exact ⟨s1, s3⟩
        · rw [if_neg hjk]; exact ⟨Int.le_refl _, Int.le_refl _⟩
      · rcases i3 h with h2 | h2
        · rcases e2 h2 with h3 | h3
          · exact .inl h3
          · exact .inr (by omega)
        · exact .inr (by omega)
      · obtain ⟨k1, k2, k3⟩ := i5 h
        obtain ⟨k4, k5⟩ := e3 k1
        rw [k5] at k2 k3
        refine ⟨k4, k2, fun u hu => ?_⟩
        rcases List.mem_cons.1 hu with rfl | hu
        · rw [hj]
          refine ⟨he, ?_⟩
          have h7 : pick (out.set j (tightR r out j)) j = tightR r out j := by rw [pick_set out j j _ hjo, if_pos rfl]
          rw [k5] at h7
          exact h7.symm
        · exact k3 u hu
theorem rowsPass_some {n : Nat} : ∀ (rows : List Row) (out : List Rng) (ch : Bool) (o : List Rng) (c : Bool), (∀ r ∈ rows, fitsB n r = true) → fineBox n out → rowsPass rows out ch = some (o, c) →
      fineBox n o ∧ Sub o out ∧ (c = true → ch = true ∨ width o < width out) ∧ width o ≤ width out ∧ (c = false → ch = false ∧ o = out ∧ Closed rows out)
  | [], out, ch, o, c, _, hf, h => by
    simp only [rowsPass, Option.some.injEq, Prod.mk.injEq] at h
    obtain ⟨rfl, rfl⟩ := h
    exact ⟨hf, Sub.refl _, fun h => .inl h, Nat.le_refl _, fun h => ⟨h, rfl, fun r hr => by simp at hr⟩⟩
  | r :: rs, out, ch, o, c, hr, hf, h => by
    rw [rowsPass] at h
    cases he : termsPass r r.terms out ch with
    | none => rw [he] at h; cases h
    | some x =>
      obtain ⟨o1, c1⟩ := x
      rw [he] at h
      dsimp only at h
      obtain ⟨i1, i2, i3, i4, i5⟩ := termsPass_some r (hr r (by simp)) r.terms out ch o1 c1 (fun _ h => h) hf he
      obtain ⟨j1, j2, j3, j4, j5⟩ := rowsPass_some rs o1 c1 o c (fun r hr' => hr r (by simp [hr'])) i1 h
      refine ⟨j1, j2.trans i2, fun h => ?_, by omega, fun h => ?_⟩
      · rcases j3 h with h2 | h2
        · rcases i3 h2 with h3 | h3
          · exact .inl h3
          · exact .inr (by omega)
        · exact .inr (by omega)
      · obtain ⟨k1, k2, k3⟩ := j5 h
        obtain ⟨m1, m2, m3⟩ := i5 k1
        rw [m2] at k2 k3
        refine ⟨m1, k2, fun r' hr' => ?_⟩
        rcases List.mem_cons.1 hr' with rfl | hr'
        · exact m3
        · exact k3 r' hr'
theorem fixF_closed {n : Nat} (rows : List Row) (hr : ∀ r ∈ rows, fitsB n r = true) : ∀ (fuel : Nat) (out L : List Rng), fineBox n out → fixF rows fuel out = some L → fineBox n L ∧ Sub L out ∧ Closed rows L
  | 0, _, _, _, h => by cases h
  | fuel + 1, out, L, hf, h => by
    rw [fixF] at h
    cases he : rowsPass rows out false with
    | none => rw [he] at h; cases h
    | some x =>
      obtain ⟨o, c⟩ := x
      rw [he] at h
      obtain ⟨i1, i2, -, -, i5⟩ := rowsPass_some rows out false o c hr hf he
      cases c with
      | false =>
        simp only [Option.some.injEq] at h
        subst h
        obtain ⟨-, k2, k3⟩ := i5 rfl
        rw [← k2] at k3
        exact ⟨i1, i2, k3⟩
      | true =>
        dsimp only at h
        obtain ⟨j1, j2, j3⟩ := fixF_closed rows hr fuel o L i1 h
        exact ⟨j1, j2.trans i2, j3⟩

/-! the fixed box -/
theorem fine_of_valid {b : List Rng} {rows : List Row} (h : validB b rows = true) (he : b.any emptyR = false) : fineBox b.length b := by
  obtain ⟨h1, -, -⟩ := validB_ok h
  exact ⟨rfl, h1, fun r hr => by
    have h0 := List.any_eq_false.1 he r hr
    unfold emptyR at h0
    simpa using h0⟩
/-- a fixed box is closed, lies in the box, and has no empty range -/
theorem fix_closed {b L : List Rng} {rows : List Row} (h : fixB b rows = some L) : validB b rows = true ∧ b.any emptyR = false ∧ noSol rows = false ∧ fineBox b.length L ∧ Sub L b ∧ Closed rows L := by
  unfold fixB at h
  by_cases hc : validB b rows = true ∧ b.any emptyR = false ∧ noSol rows = false
  · rw [if_pos hc] at h
    obtain ⟨c1, c2, c3⟩ := hc
    obtain ⟨i1, i2, i3⟩ := fixF_closed rows (validB_ok c1).2.2 _ b L (fine_of_valid c1 c2) h
    exact ⟨c1, c2, c3, i1, i2, i3⟩
  · rw [if_neg hc] at h
    cases h
/-- it contains every closed box -/
theorem fix_greatest {b M : List Rng} {rows : List Row} (hv : validB b rows = true) (he : b.any emptyR = false) (hn : noSol rows = false) (hC : Closed rows M) (hS : Sub M b) : ∃ L, fixB b rows = some L ∧ Sub M L := by
  unfold fixB
  rw [if_pos ⟨hv, he, hn⟩]
  exact fixF_sub rows (validB_ok hv).2.2 hC _ b (fine_of_valid hv he) hS (Nat.lt_succ_self _)
end Go.Proofs.Ytlbhidiliogflaa
namespace Go.Proofs.Ytlbhidiliogflaa
set_option linter.unusedSimpArgs false
set_option linter.unusedVariables false
open Go.RowKit

/-- the box of one list of values -/
def sing (vs : List Int) : List Rng := vs.map fun v => ⟨v, v⟩
theorem sing_length (vs : List Int) : (sing vs).length = vs.length := by simp [sing]
theorem pick_sing (vs : List Int) (j : Nat) (hj : j < vs.length) : pick (sing vs) j = ⟨vs.getD j 0, vs.getD j 0⟩ := by
  rw [pick_at _ j (by rw [sing_length]; exact hj)]
  simp [sing, List.getD, hj]
theorem termV_sing (vs : List Int) (wo : Int) (t : Term) (h : okT vs.length t) : termV (sing vs) wo 1 t = if t.cell = wo then 0 else t.factor * vs.getD t.cell.toNat 0 := by
  obtain ⟨h0, h1, -, -⟩ := h
  obtain ⟨j, hj⟩ := Int.eq_ofNat_of_zero_le h0
  unfold termV
  rw [hj, pick_sing vs j (by omega)]
  simp
theorem valueL_acc (vs : List Int) : ∀ (l : List Term) (acc : Int), valueL vs acc l = acc + valueL vs 0 l
  | [], acc => by simp [valueL]
  | t :: l, acc => by
    unfold valueL
    rw [valueL_acc vs l (acc + _), valueL_acc vs l (0 + _)]
    omega
/-- the value of a row: the others' part, and the cell's -/
theorem valueL_split (vs : List Int) (n cell : Int) : ∀ (l : List Term) (last : Int), -1 ≤ last → fitsL n last l = true → (∀ t ∈ l, okT vs.length t) →
    valueL vs 0 l = boundL (sing vs) cell 1 0 l + (match l.find? (fun t => t.cell == cell) with | none => 0 | some t => t.factor * vs.getD cell.toNat 0)
  | [], _, _, _, _ => by simp [valueL, boundL]
  | t :: l, last, h0, h, hok => by
    unfold fitsL at h
    split at h
    · simp at h
    · rename_i hb
      unfold badT at hb
      have hokl := (fitsL_ok n l t.cell (by omega) h).1
      have ih := valueL_split vs n cell l t.cell (by omega) h (fun t ht => hok t (by simp [ht]))
      unfold valueL boundL
      rw [boundL_acc _ _ _ l (0 + _), valueL_acc _ l (0 + _), termV_sing vs cell t (hok t (by simp)), ih]
      by_cases hc : t.cell = cell
      · have hnone : l.find? (fun t => t.cell == cell) = none := by
          rw [List.find?_eq_none]
          intro x hx
          have := hokl x hx
          simp
          omega
        rw [hnone]
        simp [hc]
        omega
      · rw [List.find?_cons, show (t.cell == cell) = false by simpa using hc, if_neg hc]
        dsimp only
        omega
theorem not_badV {b : List Rng} {vs : List Int} (h : containsB b vs = true) : b.length = vs.length ∧ ∀ k : Nat, k < vs.length → (pick b k).lo ≤ vs.getD k 0 ∧ vs.getD k 0 ≤ (pick b k).hi := by
  unfold containsB at h
  rw [Bool.and_eq_true] at h
  have hl : b.length = vs.length := by simpa using h.1
  refine ⟨hl, fun k hk => ?_⟩
  have := contL_at b vs hl h.2 k hk
  unfold badV at this
  omega
theorem contL_of : ∀ (b : List Rng) (vs : List Int), (∀ k : Nat, k < vs.length → (pick b k).lo ≤ vs.getD k 0 ∧ vs.getD k 0 ≤ (pick b k).hi) → contL b vs = true
  | [], _, _ => by unfold contL; rfl
  | _ :: _, [], _ => by unfold contL; rfl
  | r :: b, x :: vs, h => by
    unfold contL
    have h0 := h 0 (by simp)
    simp [pick, List.getD] at h0
    rw [if_neg (by unfold badV; omega)]
    exact contL_of b vs (fun k hk => by
      have := h (k + 1) (by simpa using hk)
      simpa [pick] using this)
theorem containsB_of {b : List Rng} {vs : List Int} (hl : b.length = vs.length) (h : ∀ k : Nat, k < vs.length → (pick b k).lo ≤ vs.getD k 0 ∧ vs.getD k 0 ≤ (pick b k).hi) : containsB b vs = true := by
  unfold containsB
  rw [contL_of b vs h, decide_eq_true hl]
  rfl
theorem sub_sing {b : List Rng} {vs : List Int} (h : containsB b vs = true) : Sub (sing vs) b := by
  obtain ⟨hl, hk⟩ := not_badV h
  refine ⟨by rw [sing_length, hl], fun k hkb => ?_⟩
  have hkv : k < vs.length := by omega
  rw [pick_sing vs k hkv]
  exact hk k hkv
/-- a row that holds keeps every value -/
theorem sing_tight (vs : List Int) (r : Row) (hr : fitsB vs.length r = true) (hv : valueL vs 0 r.terms ≤ r.bound) (j : Nat) (hj : j < vs.length) : tightO r (sing vs) j = ⟨vs.getD j 0, vs.getD j 0⟩ := by
  have hall := fitsn_all hr
  have hf : fitsL vs.length (-1) r.terms = true := by unfold fitsB at hr; rw [Bool.and_eq_true] at hr; exact hr.1
  have hs := valueL_split vs vs.length j r.terms (-1) (by omega) hf (fun t ht => (hall t ht).1)
  unfold tightO
  cases hx : r.terms.find? (fun t => t.cell == (j : Int)) with
  | none => exact pick_sing vs j hj
  | some t =>
    rw [hx] at hs
    have hm := hall t (List.mem_of_find?_eq_some hx)
    simp only [Int.toNat_natCast] at hs
    rw [pick_sing vs j hj]
    dsimp only
    have hle : t.factor * vs.getD j 0 ≤ r.bound - boundL (sing vs) j 1 0 r.terms := by omega
    generalize vs.getD j 0 = v at *
    by_cases h0 : 0 < t.factor
    · rw [if_pos h0]
      have : v ≤ (r.bound - boundL (sing vs) j 1 0 r.terms) / t.factor := (Int.le_ediv_iff_mul_le h0).2 (by rw [Int.mul_comm]; exact hle)
      rw [Int.min_eq_left this]
    · rw [if_neg h0]
      have : -v ≤ (r.bound - boundL (sing vs) j 1 0 r.terms) / -t.factor := (Int.le_ediv_iff_mul_le (by omega)).2 (by rw [Int.neg_mul_neg, Int.mul_comm]; exact hle)
      rw [Int.max_eq_left (by omega)]
theorem keeps_tight {b : List Rng} {r : Row} {vs : List Int} (hv : validB b [r] = true) (hc : containsB b vs = true) (hh : valueL vs 0 r.terms ≤ r.bound) (j : Nat) (hj : j < vs.length) :
    (tightenB r b j).lo ≤ vs.getD j 0 ∧ vs.getD j 0 ≤ (tightenB r b j).hi := by
  have hl := (not_badV hc).1
  have hr := (validB_ok hv).2.2 r (by simp)
  have hall := fits_all hr
  have hm := tightO_mono (sub_sing hc) r j (by omega) (fun t ht => (hall t ht).1) (fun t ht => (hall t ht).2)
  rw [sing_tight vs r (by rw [← hl]; exact hr) hh j hj] at hm
  dsimp only at hm
  have hne : emptyR (tightO r b j) = false := by unfold emptyR; simp; omega
  unfold tightenB
  rw [if_pos ⟨hv, by omega, by omega⟩, tightR_of_ne r b j hne]
  exact hm
/-- values for which all rows hold are a closed box -/
theorem closed_sing (vs : List Int) (rows : List Row) (hr : ∀ r ∈ rows, fitsB vs.length r = true) (hh : ∀ r ∈ rows, valueL vs 0 r.terms ≤ r.bound) : Closed rows (sing vs) := by
  intro r hrr t ht
  obtain ⟨⟨h0, h1, -, -⟩, -⟩ := fitsn_all (hr r hrr) t ht
  obtain ⟨j, hj⟩ := Int.eq_ofNat_of_zero_le h0
  have hjl : j < vs.length := by omega
  have h2 := sing_tight vs r (hr r hrr) (hh r hrr) j hjl
  have hne : emptyR (tightO r (sing vs) j) = false := by rw [h2]; simp [emptyR]
  rw [hj, tightR_of_ne _ _ _ hne]
  exact ⟨hne, by rw [h2, pick_sing vs j hjl]⟩
theorem noSol_of (vs : List Int) (rows : List Row) (hh : ∀ r ∈ rows, valueL vs 0 r.terms ≤ r.bound) : noSol rows = false := by
  unfold noSol
  rw [List.any_eq_false]
  intro r hr h
  rw [Bool.and_eq_true] at h
  have h1 : r.terms = [] := by simpa using h.1
  have h2 : r.bound < 0 := by simpa using h.2
  have h3 := hh r hr
  rw [h1] at h3
  simp [valueL] at h3
  omega
theorem keeps_fix {b : List Rng} {rows : List Row} {vs : List Int} (hv : validB b rows = true) (hc : containsB b vs = true) (hh : ∀ r ∈ rows, valueL vs 0 r.terms ≤ r.bound) :
    ∃ L, fixB b rows = some L ∧ containsB L vs = true := by
  obtain ⟨hl, hk⟩ := not_badV hc
  have hr := (validB_ok hv).2.2
  have he : b.any emptyR = false := by
    rw [List.any_eq_false]
    intro r hrb h
    obtain ⟨k, hkl, rfl⟩ := List.getElem_of_mem hrb
    have := hk k (by omega)
    rw [pick_at b k hkl] at this
    unfold emptyR at h
    simp at h
    omega
  obtain ⟨L, h1, h2⟩ := fix_greatest hv he (noSol_of vs rows hh) (closed_sing vs rows (by rw [← hl]; exact hr) hh) (sub_sing hc)
  refine ⟨L, h1, containsB_of (by rw [← h2.1, sing_length]) (fun k hkv => ?_)⟩
  have := h2.2 k (by rw [← h2.1, sing_length]; exact hkv)
  rw [pick_sing vs k hkv] at this
  exact this
theorem okV_of {b : List Rng} {rows : List Row} {vs : List Int} (hv : validB b rows = true) (hc : containsB b vs = true) : okV vs := by
  obtain ⟨hl, hk⟩ := not_badV hc
  intro x hx
  obtain ⟨k, hkl, rfl⟩ := List.getElem_of_mem hx
  have h1 := hk k hkl
  rw [pick_at b k (by omega)] at h1
  have h2 := not_bad ((validB_ok hv).1 b[k] (List.getElem_mem _))
  simp [List.getD, hkl] at h1
  omega
theorem valid_one {b : List Rng} {rows : List Row} (hv : validB b rows = true) {r : Row} (hr : r ∈ rows) : validB b [r] = true := by
  have h := (validB_ok hv).2.2 r hr
  unfold validB at *
  rw [Bool.and_eq_true] at *
  exact ⟨hv.1, by simp [h]⟩
end Go.Proofs.Ytlbhidiliogflaa
namespace Go.Proofs.Ytlbhidiliogflaa
set_option linter.unusedSimpArgs false
set_option linter.unusedVariables false
open Go.RowKit

def cmpI (x y : Int) : Int := if x < y then -1 else if y < x then 1 else 0
def cmpL : List Int → List Int → Int
  | [], [] => 0
  | [], _ :: _ => -1
  | _ :: _, [] => 1
  | x :: xs, y :: ys => if cmpI x y ≠ 0 then cmpI x y else cmpL xs ys
end Go.Proofs.Ytlbhidiliogflaa
namespace Go.Proofs.Ytlbhidiliogflaa
set_option linter.unusedSimpArgs false
set_option linter.unusedVariables false
open Go.RowKit

def prodB : List Rng → Int
  | [] => 1
  | r :: b => (r.hi - r.lo + 1) * prodB b
def rank : List Rng → List Int → Int
  | r :: b, x :: vs => (x - r.lo) * prodB b + rank b vs
  | _, _ => 0
def inB : List Rng → List Int → Prop
  | [], [] => True
  | r :: b, x :: vs => r.lo ≤ x ∧ x ≤ r.hi ∧ inB b vs
  | _, _ => False
def nextS : List Rng → List Int → Option (List Int)
  | r :: b, x :: vs => match nextS b vs with
    | some l => some (x :: l)
    | none => if x < r.hi then some ((x + 1) :: b.map (·.lo)) else none
  | _, _ => none
theorem inB_iff : ∀ (b : List Rng) (vs : List Int), inB b vs ↔ containsB b vs = true
  | [], [] => by simp [inB, containsB, contL]
  | [], _ :: _ => by simp [inB, containsB]
  | _ :: _, [] => by simp [inB, containsB]
  | r :: b, x :: vs => by
    have ih := inB_iff b vs
    unfold containsB at *
    simp only [List.length_cons, contL, inB, Bool.and_eq_true, decide_eq_true_eq] at *
    rw [ih]
    constructor
    · rintro ⟨h1, h2, h3, h4⟩
      exact ⟨by omega, by rw [if_neg (show ¬ badV r x by unfold badV; omega)]; exact h4⟩
    · rintro ⟨h1, h2⟩
      by_cases hb : badV r x
      · rw [if_pos hb] at h2
        simp at h2
      · rw [if_neg hb] at h2
        unfold badV at hb
        exact ⟨by omega, by omega, by omega, h2⟩
theorem inB_len : ∀ (b : List Rng) (vs : List Int), inB b vs → b.length = vs.length
  | [], [], _ => rfl
  | [], _ :: _, h => h.elim
  | _ :: _, [], h => h.elim
  | r :: b, x :: vs, h => by simp [inB_len b vs h.2.2]
theorem nextS_snoc : ∀ (b : List Rng) (vs : List Int) (r : Rng) (x : Int), b.length = vs.length →
    nextS (b ++ [r]) (vs ++ [x]) = if x < r.hi then some (vs ++ [x + 1]) else (nextS b vs).map (· ++ [r.lo])
  | [], [], r, x, _ => by
    simp only [List.nil_append, nextS]
    split <;> simp
  | [], _ :: _, _, _, h => by simp at h
  | _ :: _, [], _, _, h => by simp at h
  | s :: b, y :: vs, r, x, h => by
    have ih := nextS_snoc b vs r x (by simpa using h)
    simp only [List.cons_append, nextS]
    rw [ih]
    by_cases hx : x < r.hi
    · simp [hx]
    · simp only [hx, if_false]
      cases nextS b vs with
      | some l => simp
      | none =>
        dsimp only [Option.map_none]
        by_cases hy : y < s.hi
        · simp [hy]
        · simp [hy]
theorem nextF_eq (b1 b2 : List Rng) : ∀ (i : Nat) (v1 : List Int) (b0 : List Rng), b0.length = i → v1.length = i → b1 = b0 →
    nextF (b1 ++ b2) (v1 ++ b2.map (·.lo)) i = (nextS b1 v1).map (· ++ b2.map (·.lo)) := by
  intro i
  induction i generalizing b1 b2 with
  | zero =>
    intro v1 b0 h1 h2 h3
    subst h3
    have e1 : b1 = [] := List.eq_nil_of_length_eq_zero h1
    have e2 : v1 = [] := List.eq_nil_of_length_eq_zero h2
    subst e1 e2
    rfl
  | succ i ih =>
    intro v1 b0 h1 h2 h3
    subst h3
    obtain ⟨c1, r, rfl⟩ : ∃ c r, b1 = c ++ [r] := ⟨b1.dropLast, b1.getLast (by intro h; simp [h] at h1), (List.dropLast_concat_getLast _).symm⟩
    obtain ⟨u1, x, rfl⟩ : ∃ c r, v1 = c ++ [r] := ⟨v1.dropLast, v1.getLast (by intro h; simp [h] at h2), (List.dropLast_concat_getLast _).symm⟩
    have l1 : c1.length = i := by simpa using h1
    have l2 : u1.length = i := by simpa using h2
    rw [nextS_snoc c1 u1 r x (by omega)]
    unfold nextF
    have g1 : (u1 ++ [x] ++ b2.map (·.lo)).getD i 0 = x := by simp [List.getD, ← l2]
    have g2 : pick (c1 ++ [r] ++ b2) i = r := by
      rw [pick_at _ _ (by simp; omega)]
      simp [← l1]
    have g3 : ∀ y, (u1 ++ [x] ++ b2.map (·.lo)).set i y = u1 ++ [y] ++ b2.map (·.lo) := fun y => by
      simp [← l2]
    rw [g1, g2, g3, g3]
    by_cases hx : x < r.hi
    · simp [hx]
    · rw [if_neg hx, if_neg hx]
      have := ih c1 (r :: b2) u1 c1 l1 l2 rfl
      simp only [List.map_cons] at this
      rw [List.append_assoc c1 [r] b2, List.append_assoc u1 [r.lo]]
      simp only [List.singleton_append]
      rw [this, Option.map_map]
      congr 1
      funext l
      simp
theorem nextB_eq {b : List Rng} {vs : List Int} (hb : boxB b = true) (hc : containsB b vs = true) : nextB b vs = nextS b vs := by
  unfold nextB
  rw [if_pos ⟨hb, hc⟩]
  have hl := inB_len b vs ((inB_iff b vs).2 hc)
  have := nextF_eq b [] vs.length vs b hl rfl rfl
  simpa using this
def wide (b : List Rng) : Prop := ∀ r ∈ b, r.lo ≤ r.hi
theorem prodB_pos : ∀ (b : List Rng), wide b → 1 ≤ prodB b
  | [], _ => by simp [prodB]
  | r :: b, h => by
    have h1 := prodB_pos b (fun x hx => h x (by simp [hx]))
    have h2 := h r (by simp)
    unfold prodB
    have : (1 : Int) * 1 ≤ (r.hi - r.lo + 1) * prodB b := Int.mul_le_mul (by omega) h1 (by omega) (by omega)
    omega
theorem inB_least : ∀ (b : List Rng), wide b → inB b (b.map (·.lo))
  | [], _ => by simp [inB]
  | r :: b, h => ⟨Int.le_refl _, h r (by simp), inB_least b (fun x hx => h x (by simp [hx]))⟩
theorem rank_least : ∀ (b : List Rng), rank b (b.map (·.lo)) = 0
  | [] => rfl
  | r :: b => by simp [rank, rank_least b]
theorem nextS_none : ∀ (b : List Rng) (vs : List Int), inB b vs → nextS b vs = none → rank b vs + 1 = prodB b
  | [], [], _, _ => by simp [rank, prodB]
  | [], _ :: _, h, _ => h.elim
  | _ :: _, [], h, _ => h.elim
  | r :: b, x :: vs, h, hn => by
    obtain ⟨h1, h2, h3⟩ := h
    unfold nextS at hn
    cases hx : nextS b vs with
    | some l => rw [hx] at hn; cases hn
    | none =>
      rw [hx] at hn
      dsimp only at hn
      split at hn
      · cases hn
      · have ih := nextS_none b vs h3 hx
        have : x = r.hi := by omega
        subst this
        rw [show rank (r :: b) (r.hi :: vs) = (r.hi - r.lo) * prodB b + rank b vs from rfl, show prodB (r :: b) = (r.hi - r.lo + 1) * prodB b from rfl]
        rw [Int.add_mul, Int.one_mul]
        omega
theorem nextS_some : ∀ (b : List Rng) (vs l : List Int), wide b → inB b vs → nextS b vs = some l → inB b l ∧ rank b l = rank b vs + 1 ∧ cmpL vs l = -1
  | [], [], _, _, _, h => by cases h
  | [], _ :: _, _, _, h, _ => h.elim
  | _ :: _, [], _, _, h, _ => h.elim
  | r :: b, x :: vs, l, hw, h, hn => by
    obtain ⟨h1, h2, h3⟩ := h
    have hw' : wide b := fun x hx => hw x (by simp [hx])
    unfold nextS at hn
    cases hx : nextS b vs with
    | some l' =>
      rw [hx] at hn
      dsimp only at hn
      injection hn with hn
      subst hn
      obtain ⟨i1, i2, i3⟩ := nextS_some b vs l' hw' h3 hx
      refine ⟨⟨h1, h2, i1⟩, ?_, ?_⟩
      · unfold rank; omega
      · unfold cmpL
        rw [if_neg (by simp [cmpI]), i3]
    | none =>
      rw [hx] at hn
      dsimp only at hn
      split at hn
      · rename_i hlt
        injection hn with hn
        subst hn
        have ih := nextS_none b vs h3 hx
        refine ⟨⟨by omega, by omega, inB_least b hw'⟩, ?_, ?_⟩
        · unfold rank
          rw [rank_least b, Int.sub_mul, Int.sub_mul, Int.add_mul]
          omega
        · unfold cmpL
          have : cmpI x (x + 1) = -1 := by unfold cmpI; rw [if_pos (by omega)]
          rw [this]
          simp
      · cases hn
theorem rank_bd : ∀ (b : List Rng) (vs : List Int), wide b → inB b vs → 0 ≤ rank b vs ∧ rank b vs < prodB b
  | [], [], _, _ => by simp [rank, prodB]
  | [], _ :: _, _, h => h.elim
  | _ :: _, [], _, h => h.elim
  | r :: b, x :: vs, hw, h => by
    obtain ⟨h1, h2, h3⟩ := h
    have hw' : wide b := fun x hx => hw x (by simp [hx])
    obtain ⟨i1, i2⟩ := rank_bd b vs hw' h3
    have hp := prodB_pos b hw'
    have a1 : 0 ≤ (x - r.lo) * prodB b := Int.mul_nonneg (by omega) (by omega)
    have a2 : (x - r.lo) * prodB b ≤ (r.hi - r.lo) * prodB b := Int.mul_le_mul_of_nonneg_right (by omega) (by omega)
    rw [show rank (r :: b) (x :: vs) = (x - r.lo) * prodB b + rank b vs from rfl, show prodB (r :: b) = (r.hi - r.lo + 1) * prodB b from rfl]
    rw [Int.add_mul, Int.one_mul]
    omega
theorem sizeL_min : ∀ (b : List Rng) (n : Int), wide b → 1 ≤ n → n ≤ 1073741824 → sizeL n b = min (n * prodB b) 1073741824
  | [], n, _, _, h2 => by simp [sizeL, prodB]; omega
  | r :: b, n, hw, h1, h2 => by
    have hw' : wide b := fun x hx => hw x (by simp [hx])
    have hr := hw r (by simp)
    have hp := prodB_pos b hw'
    unfold sizeL prodB
    have a1 : (1 : Int) * 1 ≤ n * (r.hi - r.lo + 1) := Int.mul_le_mul h1 (by omega) (by omega) (by omega)
    rw [sizeL_min b _ hw' (by omega) (by omega), ← Int.mul_assoc]
    generalize n * (r.hi - r.lo + 1) = m at *
    by_cases hm : m ≤ 1073741824
    · rw [Int.min_eq_left hm]
    · rw [Int.min_eq_right (show (1073741824 : Int) ≤ m by omega)]
      have a2 : (1073741824 : Int) * 1 ≤ 1073741824 * prodB b := Int.mul_le_mul (by omega) hp (by omega) (by omega)
      have a3 : (1073741824 : Int) * 1 ≤ m * prodB b := Int.mul_le_mul (by omega) hp (by omega) (by omega)
      omega
theorem wide_of {b : List Rng} (h : b.any emptyR = false) : wide b := fun r hr => by
  have h0 := List.any_eq_false.1 h r hr
  unfold emptyR at h0
  simpa using h0
theorem size_prod {b : List Rng} (hb : boxB b = true) (he : b.any emptyR = false) (hs : sizeB b ≤ 300) : sizeB b = prodB b := by
  unfold sizeB at *
  rw [if_pos ⟨hb, he⟩] at *
  rw [sizeL_min b 1 (wide_of he) (by omega) (by omega)] at *
  omega
/-- one step of the count -/
theorem count_next {b : List Rng} {vs : List Int} {c : Int} (hb : boxB b = true) (he : b.any emptyR = false) (hs : sizeB b ≤ 300) (hi : inB b vs) (hc : rank b vs + 1 = c) :
    (nextB b vs = none ∧ c = sizeB b) ∨ ∃ l, nextB b vs = some l ∧ inB b l ∧ rank b l + 1 = c + 1 ∧ cmpL vs l = -1 ∧ containsB b l = true ∧ c + 1 ≤ 300 := by
  have hw := wide_of he
  have hp := size_prod hb he hs
  rw [nextB_eq hb ((inB_iff b vs).1 hi)]
  cases hx : nextS b vs with
  | none => exact .inl ⟨rfl, by rw [hp, ← nextS_none b vs hi hx]; omega⟩
  | some l =>
    obtain ⟨i1, i2, i3⟩ := nextS_some b vs l hw hi hx
    have := rank_bd b l hw i1
    exact .inr ⟨l, rfl, i1, by omega, i3, (inB_iff b l).1 i1, by omega⟩
end Go.Proofs.Ytlbhidiliogflaa
namespace Go.Proofs.Ytlbhidiliogflaa
set_option linter.unusedSimpArgs false
set_option linter.unusedVariables false
open Go.RowKit

def rngL (lo hi : Int) : List Int := (List.range (hi - lo + 1).toNat).map fun k : Nat => lo + (k : Int)
theorem rngL_nil {lo hi : Int} (h : hi < lo) : rngL lo hi = [] := by
  unfold rngL
  rw [show (hi - lo + 1).toNat = 0 by omega]
  rfl
theorem rngL_cons {lo hi : Int} (h : lo ≤ hi) : rngL lo hi = lo :: rngL (lo + 1) hi := by
  unfold rngL
  rw [show (hi - lo + 1).toNat = (hi - (lo + 1) + 1).toNat + 1 by omega, List.range_succ_eq_map, List.map_cons, List.map_map]
  congr 1
  · simp
  · apply List.map_congr_left
    intro k _
    show lo + ((k + 1 : Nat) : Int) = lo + 1 + (k : Int)
    omega
theorem rngL_mem {lo hi x : Int} : x ∈ rngL lo hi ↔ lo ≤ x ∧ x ≤ hi := by
  unfold rngL
  rw [List.mem_map]
  constructor
  · rintro ⟨k, hk, rfl⟩
    have := List.mem_range.1 hk
    omega
  · rintro ⟨h1, h2⟩
    exact ⟨(x - lo).toNat, List.mem_range.2 (by omega), by omega⟩
theorem rngL_length (lo hi : Int) : (rngL lo hi).length = (hi - lo + 1).toNat := by simp [rngL]
def allS : List Rng → List (List Int)
  | [] => [[]]
  | r :: b => (rngL r.lo r.hi).flatMap fun x => (allS b).map (x :: ·)
theorem allS_mem : ∀ (b : List Rng) (vs : List Int), vs ∈ allS b ↔ inB b vs
  | [], [] => by simp [allS, inB]
  | [], _ :: _ => by simp [allS, inB]
  | r :: b, [] => by simp [allS, inB]
  | r :: b, x :: vs => by
    have ih := allS_mem b vs
    unfold allS inB
    rw [List.mem_flatMap]
    constructor
    · rintro ⟨y, hy, h⟩
      obtain ⟨u, hu, e⟩ := List.mem_map.1 h
      injection e with e1 e2
      subst e1 e2
      exact ⟨(rngL_mem.1 hy).1, (rngL_mem.1 hy).2, ih.1 hu⟩
    · rintro ⟨h1, h2, h3⟩
      exact ⟨x, rngL_mem.2 ⟨h1, h2⟩, List.mem_map.2 ⟨vs, ih.2 h3, rfl⟩⟩
theorem allS_head : ∀ (b : List Rng), wide b → ∃ t, allS b = b.map (·.lo) :: t
  | [], _ => ⟨[], rfl⟩
  | r :: b, h => by
    obtain ⟨t, ht⟩ := allS_head b (fun x hx => h x (by simp [hx]))
    unfold allS
    rw [rngL_cons (h r (by simp)), List.flatMap_cons, ht]
    exact ⟨_, rfl⟩
theorem allS_next : ∀ (b : List Rng), wide b → ∀ pre vs rest, allS b = pre ++ vs :: rest → nextS b vs = rest.head?
  | [], _, pre, vs, rest, h => by
    unfold allS at h
    cases pre with
    | nil =>
      simp only [List.nil_append, List.cons.injEq] at h
      rw [← h.1, ← h.2]
      rfl
    | cons x pre => simp at h
  | r :: b, hw, pre, vs, rest, h => by
    have hw' : wide b := fun x hx => hw x (by simp [hx])
    have ih := allS_next b hw'
    obtain ⟨t, ht⟩ := allS_head b hw'
    have key : ∀ (m : Nat) (lo : Int), (r.hi - lo + 1).toNat = m → ∀ pre vs rest, ((rngL lo r.hi).flatMap fun x => (allS b).map (x :: ·)) = pre ++ vs :: rest → nextS (r :: b) vs = rest.head? := by
      intro m
      induction m with
      | zero =>
        intro lo hm pre vs rest h
        rw [rngL_nil (by omega)] at h
        simp at h
      | succ m ihm =>
        intro lo hm pre vs rest h
        rw [rngL_cons (by omega), List.flatMap_cons] at h
        rcases List.append_eq_append_iff.1 h with ⟨a', h1, h2⟩ | ⟨c', h1, h2⟩
        · exact ihm (lo + 1) (by omega) a' vs rest h2
        · cases c' with
          | nil => exact ihm (lo + 1) (by omega) [] vs rest (by simpa using h2.symm)
          | cons c0 c'' =>
            rw [List.cons_append] at h2
            injection h2 with e1 e2
            subst e1
            obtain ⟨p, q, hp1, hp2, hp3⟩ := List.map_eq_append_iff.1 h1
            obtain ⟨v', q', rfl, hv, hq⟩ := List.map_eq_cons_iff.1 hp3
            have h3 := ih p v' q' hp1
            rw [← hv]
            unfold nextS
            rw [h3]
            cases q' with
            | cons l q'' =>
              dsimp only [List.head?_cons]
              rw [e2, ← hq]
              rfl
            | nil =>
              dsimp only [List.head?_nil]
              have : c'' = [] := by simpa using hq.symm
              subst this
              rw [List.nil_append] at e2
              rw [e2]
              by_cases hl : lo < r.hi
              · rw [if_pos hl, rngL_cons (by omega), List.flatMap_cons, ht]
                rfl
              · rw [if_neg hl, rngL_nil (by omega)]
                rfl
    unfold allS at h
    exact key _ r.lo rfl pre vs rest h
theorem allS_length : ∀ (b : List Rng), wide b → ((allS b).length : Int) = prodB b
  | [], _ => rfl
  | r :: b, h => by
    have h1 := allS_length b (fun x hx => h x (by simp [hx]))
    have h2 := h r (by simp)
    unfold allS prodB
    rw [List.length_flatMap]
    simp only [List.length_map]
    rw [List.map_const', List.sum_replicate_nat, Int.natCast_mul, h1, rngL_length]
    congr 1
    omega
theorem size_prod2 {b : List Rng} (hb : boxB b = true) (he : b.any emptyR = false) (hs : sizeB b ≤ 65536) : sizeB b = prodB b := by
  unfold sizeB at *
  rw [if_pos ⟨hb, he⟩] at *
  rw [sizeL_min b 1 (wide_of he) (by omega) (by omega)] at *
  omega
/-- how many of the values in a box are such -/
def cntS (p : List Int → Bool) (b : List Rng) : Nat := (allS b).countP p
/-- a cell's values one by one: those of the whole box -/
theorem cnt_split (p : List Int → Bool) : ∀ (b : List Rng) (c : Nat) (h : c < b.length), cntS p b = ((rngL b[c].lo b[c].hi).map fun v => cntS p (b.set c ⟨v, v⟩)).sum
  | r :: b, 0, _ => by
    unfold cntS
    rw [show allS (r :: b) = (rngL r.lo r.hi).flatMap fun x => (allS b).map (x :: ·) from rfl, List.countP_flatMap]
    congr 1
    apply List.map_congr_left
    intro v _
    show _ = List.countP p (allS (⟨v, v⟩ :: b))
    rw [show allS (⟨v, v⟩ :: b) = (rngL v v).flatMap fun x => (allS b).map (x :: ·) from rfl, rngL_cons (Int.le_refl _), rngL_nil (by omega)]
    simp
  | r :: b, c + 1, h => by
    have hc : c < b.length := by simpa using h
    have key : ∀ x, List.countP p ((allS b).map (x :: ·)) = ((rngL b[c].lo b[c].hi).map fun v => List.countP p ((allS (b.set c ⟨v, v⟩)).map (x :: ·))).sum := fun x => by
      have := cnt_split (fun vs => p (x :: vs)) b c hc
      unfold cntS at this
      simp only [List.countP_map]
      exact this
    unfold cntS
    have e : ∀ b', allS (r :: b') = (rngL r.lo r.hi).flatMap fun x => (allS b').map (x :: ·) := fun _ => rfl
    simp only [List.set_cons_succ, List.getElem_cons_succ, e, List.countP_flatMap]
    simp only [Function.comp_def, key]
    generalize rngL r.lo r.hi = L1
    generalize rngL b[c].lo b[c].hi = L2
    generalize hF : (fun x v => List.countP p ((allS (b.set c ⟨v, v⟩)).map (x :: ·))) = F
    have hF' : ∀ x v, List.countP p ((allS (b.set c ⟨v, v⟩)).map (x :: ·)) = F x v := fun x v => by rw [← hF]
    simp only [hF']
    clear hF hF' key e
    induction L1 with
    | nil =>
      rw [List.map_nil, List.sum_nil]
      induction L2 with
      | nil => rfl
      | cons y L2 ih2 => simpa using ih2
    | cons x L1 ih =>
      rw [List.map_cons, List.sum_cons, ih]
      clear ih
      induction L2 with
      | nil => rfl
      | cons y L2 ih2 =>
        simp only [List.map_cons, List.sum_cons] at *
        omega
end Go.Proofs.Ytlbhidiliogflaa
