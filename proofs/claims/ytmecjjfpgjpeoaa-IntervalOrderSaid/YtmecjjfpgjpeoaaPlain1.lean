
/-
Plain facts on boxes and rows: a fixed box is the greatest closed box in the given one. No program in sight.
-/
import Derived.Test.YtmecjjfpgjpeoaaInt10
import Derived.Test.YtmecjjfpgjpeoaaRef8
namespace Go.Proofs.Ytmecjjfpgjpeoaa
open Go.RowKit

/-- a box in a box -/
def Sub (M L : List Rng) : Prop := M.length = L.length ∧ ∀ k : Nat, k < L.length → (pick L k).lo ≤ (pick M k).lo ∧ (pick M k).hi ≤ (pick L k).hi
theorem Sub.refl (L : List Rng) : Sub L L := ⟨rfl, fun _ _ => ⟨Int.le_refl _, Int.le_refl _⟩⟩
theorem Sub.trans {A B C : List Rng} (h : Sub A B) (k : Sub B C) : Sub A C :=
  ⟨h.1.trans k.1, fun i hi => by
    have h1 := h.2 i (by rw [k.1]; exact hi)
    have h2 := k.2 i hi
    omega⟩
theorem Sub.antisymm {A B : List Rng} (h : Sub A B) (k : Sub B A) : A = B := by
  apply List.ext_getElem h.1
  intro i h1 h2
  have a := h.2 i h2
  have b := k.2 i h1
  rw [pick_at A i h1, pick_at B i h2] at a b
  exact rng_ext ⟨by omega, by omega⟩
theorem pick_set (l : List Rng) (j k : Nat) (x : Rng) (hk : k < l.length) : pick (l.set j x) k = if j = k then x else pick l k := by
  rw [pick_at _ k (by simpa using hk), List.getElem_set, pick_at l k hk]

/-- a row's terms are in order, its cells are cells, its factors are not 0 -/
def RowOk (n : Nat) (r : Row) : Prop := fitsB n r = true
/-- the least sums grow when a box shrinks -/
theorem termV_mono {M L : List Rng} (h : Sub M L) (wo : Int) (t : Term) (ht : okT L.length t) : termV L wo 1 t ≤ termV M wo 1 t := by
  obtain ⟨h0, h1, -, -⟩ := ht
  obtain ⟨j, hj⟩ := Int.eq_ofNat_of_zero_le h0
  have hs := h.2 j (by omega)
  unfold termV
  rw [hj, Int.mul_one]
  split
  · exact Int.le_refl _
  · split
    · exact Int.mul_le_mul_of_nonneg_left hs.1 (by omega)
    · exact Int.mul_le_mul_of_nonpos_left (by omega) hs.2
theorem boundL_mono {M L : List Rng} (h : Sub M L) (wo : Int) : ∀ (l : List Term), (∀ t ∈ l, okT L.length t) → boundL L wo 1 0 l ≤ boundL M wo 1 0 l
  | [], _ => Int.le_refl _
  | t :: l, hok => by
    unfold boundL
    rw [boundL_acc L, boundL_acc M]
    have h1 := termV_mono h wo t (hok t (by simp))
    have h2 := boundL_mono h wo l (fun t ht => hok t (by simp [ht]))
    omega
/-- the range before it is looked at whether it is empty -/
def tightO (r : Row) (b : List Rng) (cell : Int) : Rng :=
  match r.terms.find? (fun t => t.cell == cell) with
  | none => pick b cell
  | some t =>
    if 0 < t.factor then ⟨(pick b cell).lo, min (pick b cell).hi ((r.bound - boundL b cell 1 0 r.terms) / t.factor)⟩
    else ⟨max (pick b cell).lo (-((r.bound - boundL b cell 1 0 r.terms) / -t.factor)), (pick b cell).hi⟩
theorem tightR_of_ne (r : Row) (b : List Rng) (cell : Int) (h : emptyR (tightO r b cell) = false) : tightR r b cell = tightO r b cell := by
  unfold tightR tightO at *
  cases hf : r.terms.find? (fun t => t.cell == cell) with
  | none => rfl
  | some t =>
    rw [hf] at h
    dsimp only at h ⊢
    rw [if_neg (by rw [h]; simp)]
theorem tightO_of_ne (r : Row) (b : List Rng) (cell : Int) (h : emptyR (tightR r b cell) = false) : emptyR (tightO r b cell) = false := by
  unfold tightR at h
  unfold tightO
  cases hf : r.terms.find? (fun t => t.cell == cell) with
  | none => rw [hf] at h; exact h
  | some t =>
    rw [hf] at h
    dsimp only at h ⊢
    cases he : emptyR (if 0 < t.factor then (⟨(pick b cell).lo, min (pick b cell).hi ((r.bound - boundL b cell 1 0 r.terms) / t.factor)⟩ : Rng) else ⟨max (pick b cell).lo (-((r.bound - boundL b cell 1 0 r.terms) / -t.factor)), (pick b cell).hi⟩) with
    | false => rfl
    | true => rw [if_pos he] at h; simp [emptyR] at h
theorem ediv_mono {a b c : Int} (hc : 0 < c) (h : a ≤ b) : a / c ≤ b / c := Int.ediv_le_ediv hc h
theorem tightO_mono {M L : List Rng} (h : Sub M L) (r : Row) (j : Nat) (hj : j < L.length) (hok : ∀ t ∈ r.terms, okT L.length t) (hnz : ∀ t ∈ r.terms, t.factor ≠ 0) :
    (tightO r L j).lo ≤ (tightO r M j).lo ∧ (tightO r M j).hi ≤ (tightO r L j).hi := by
  have hs := h.2 j hj
  have hb := boundL_mono h j r.terms hok
  unfold tightO
  cases hf : r.terms.find? (fun t => t.cell == (j : Int)) with
  | none => exact hs
  | some t =>
    have hm := hnz t (List.mem_of_find?_eq_some hf)
    dsimp only
    by_cases h0 : 0 < t.factor
    · rw [if_pos h0, if_pos h0]
      have := ediv_mono h0 (show r.bound - boundL M j 1 0 r.terms ≤ r.bound - boundL L j 1 0 r.terms by omega)
      dsimp only
      omega
    · rw [if_neg h0, if_neg h0]
      have := ediv_mono (show 0 < -t.factor by omega) (show r.bound - boundL M j 1 0 r.terms ≤ r.bound - boundL L j 1 0 r.terms by omega)
      dsimp only
      omega

/-- no row makes a range of the box smaller, and none is empty -/
def Closed (rows : List Row) (L : List Rng) : Prop := ∀ r ∈ rows, ∀ t ∈ r.terms, emptyR (tightR r L t.cell) = false ∧ tightR r L t.cell = pick L t.cell

/-- one step keeps a closed box inside -/
theorem step_sub {M L : List Rng} {r : Row} {t : Term} (hS : Sub M L) (ht : t ∈ r.terms) (hr : fitsB L.length r = true) (hc : emptyR (tightR r M t.cell) = false ∧ tightR r M t.cell = pick M t.cell) :
    emptyR (tightR r L t.cell) = false ∧ Sub M (L.set t.cell.toNat (tightR r L t.cell)) := by
  have hall := fits_all hr
  obtain ⟨⟨h0, h1, -, -⟩, -⟩ := hall t ht
  obtain ⟨j, hj⟩ := Int.eq_ofNat_of_zero_le h0
  rw [hj] at hc ⊢
  have hjl : j < L.length := by omega
  have hm := tightO_mono hS r j hjl (fun t ht => (hall t ht).1) (fun t ht => (hall t ht).2)
  have hMo := tightO_of_ne r M j hc.1
  have hMr := tightR_of_ne r M j hMo
  rw [hc.2] at hMr
  have hLo : emptyR (tightO r L j) = false := by
    unfold emptyR at hMo ⊢
    simp only [decide_eq_false_iff_not] at hMo ⊢
    omega
  have hLr := tightR_of_ne r L j hLo
  refine ⟨by rw [hLr]; exact hLo, by rw [List.length_set]; exact hS.1, fun k hk => ?_⟩
  rw [List.length_set] at hk
  simp only [Int.toNat_natCast]
  rw [pick_set L j k _ hk]
  by_cases hjk : j = k
  · subst hjk
    rw [if_pos rfl, hLr, hMr]
    exact hm
  · rw [if_neg hjk]
    exact hS.2 k hk

theorem termsPass_sub {n : Nat} {M : List Rng} (r : Row) (hr : fitsB n r = true) (hC : ∀ t ∈ r.terms, emptyR (tightR r M t.cell) = false ∧ tightR r M t.cell = pick M t.cell) :
    ∀ (ts : List Term) (out : List Rng) (ch : Bool), (∀ t ∈ ts, t ∈ r.terms) → fineBox n out → Sub M out →
      ∃ o c, termsPass r ts out ch = some (o, c) ∧ fineBox n o ∧ Sub M o ∧ Sub o out ∧ (c = true → ch = true ∨ width o < width out) ∧ width o ≤ width out
  | [], out, ch, _, hf, hS => ⟨out, ch, rfl, hf, hS, Sub.refl _, fun h => .inl h, Nat.le_refl _⟩
  | t :: ts, out, ch, hts, hf, hS => by
    have ht := hts t (by simp)
    have hr' : fitsB out.length r = true := by rw [hf.1]; exact hr
    obtain ⟨he, hS2⟩ := step_sub hS ht hr' (hC t ht)
    obtain ⟨⟨h0, h1, -, -⟩, -⟩ := fitsn_all hr t ht
    obtain ⟨j, hj⟩ := Int.eq_ofNat_of_zero_le h0
    have hjn : j < n := by omega
    have hjo : j < out.length := by rw [hf.1]; exact hjn
    rw [hj] at he hS2
    simp only [Int.toNat_natCast] at hS2
    obtain ⟨s1, s2, s3⟩ := tight_sub r out j he
    obtain ⟨ch', e1, e2, -⟩ := termsPass_step r t ts out ch j hjo hj he
    have hf2 := fineBox_set (x := tightR r out j) hf hjn s1 s2 s3
    obtain ⟨o, c, i1, i2, i3, i4, i5, i6⟩ := termsPass_sub r hr hC ts (out.set j (tightR r out j)) ch' (fun t ht => hts t (by simp [ht])) hf2 hS2
    have hwl := width_set_le out j _ hjo s1 s2 s3
    refine ⟨o, c, by rw [e1, i1], i2, i3, i4.trans ⟨by rw [List.length_set], fun k hk => ?_⟩, fun h => ?_, by omega⟩
    · rw [pick_set out j k _ hk]
      by_cases hjk : j = k
      · subst hjk; rw [if_pos rfl]; exact ⟨s1, s3⟩
      · rw [if_neg hjk]; exact ⟨Int.le_refl _, Int.le_refl _⟩
    · rcases i5 h with h2 | h2
      · rcases e2 h2 with h3 | h3
        · exact .inl h3
        · exact .inr (by omega)
      · exact .inr (by omega)
theorem rowsPass_sub {n : Nat} {M : List Rng} : ∀ (rows : List Row) (out : List Rng) (ch : Bool), (∀ r ∈ rows, fitsB n r = true) → Closed rows M → fineBox n out → Sub M out →
      ∃ o c, rowsPass rows out ch = some (o, c) ∧ fineBox n o ∧ Sub M o ∧ Sub o out ∧ (c = true → ch = true ∨ width o < width out) ∧ width o ≤ width out
  | [], out, ch, _, _, hf, hS => ⟨out, ch, rfl, hf, hS, Sub.refl _, fun h => .inl h, Nat.le_refl _⟩
  | r :: rs, out, ch, hr, hC, hf, hS => by
    obtain ⟨o, c, e1, f1, s1, s2, c1, w1⟩ := termsPass_sub r (hr r (by simp)) (hC r (by simp)) r.terms out ch (fun _ h => h) hf hS
    obtain ⟨o2, c2, e2, f2, s3, s4, c3, w2⟩ := rowsPass_sub rs o c (fun r hr' => hr r (by simp [hr'])) (fun r hr' => hC r (by simp [hr'])) f1 s1
    refine ⟨o2, c2, by rw [rowsPass, e1]; exact e2, f2, s3, s4.trans s2, fun h => ?_, by omega⟩
    rcases c3 h with h2 | h2
    · rcases c1 h2 with h3 | h3
      · exact .inl h3
      · exact .inr (by omega)
    · exact .inr (by omega)
theorem fixF_sub {n : Nat} {M : List Rng} (rows : List Row) (hr : ∀ r ∈ rows, fitsB n r = true) (hC : Closed rows M) : ∀ (fuel : Nat) (out : List Rng), fineBox n out → Sub M out → width out < fuel → ∃ L, fixF rows fuel out = some L ∧ Sub M L
  | 0, _, _, _, h => absurd h (Nat.not_lt_zero _)
  | fuel + 1, out, hf, hS, hw => by
    obtain ⟨o, c, e1, f1, s1, -, c1, -⟩ := rowsPass_sub rows out false hr hC hf hS
    unfold fixF
    rw [e1]
    cases c with
    | false => exact ⟨o, rfl, s1⟩
    | true =>
      have : width o < width out := by
        rcases c1 rfl with h | h
        · cases h
        · exact h
      exact fixF_sub rows hr hC fuel o f1 s1 (by omega)

/-! a pass that changes nothing -/
theorem termsPass_some {n : Nat} (r : Row) (hr : fitsB n r = true) : ∀ (ts : List Term) (out : List Rng) (ch : Bool) (o : List Rng) (c : Bool), (∀ t ∈ ts, t ∈ r.terms) → fineBox n out → termsPass r ts out ch = some (o, c) →
      fineBox n o ∧ Sub o out ∧ (c = true → ch = true ∨ width o < width out) ∧ width o ≤ width out ∧ (c = false → ch = false ∧ o = out ∧ ∀ t ∈ ts, emptyR (tightR r out t.cell) = false ∧ tightR r out t.cell = pick out t.cell)
  | [], out, ch, o, c, _, hf, h => by
    simp only [termsPass, Option.some.injEq, Prod.mk.injEq] at h
    obtain ⟨rfl, rfl⟩ := h
    exact ⟨hf, Sub.refl _, fun h => .inl h, Nat.le_refl _, fun h => ⟨h, rfl, fun t ht => by simp at ht⟩⟩
  | t :: ts, out, ch, o, c, hts, hf, h => by
    have ht := hts t (by simp)
    obtain ⟨⟨h0, h1, -, -⟩, -⟩ := fitsn_all hr t ht
    obtain ⟨j, hj⟩ := Int.eq_ofNat_of_zero_le h0
    have hjn : j < n := by omega
    have hjo : j < out.length := by rw [hf.1]; exact hjn
    cases he : emptyR (tightR r out t.cell) with
    | true => rw [termsPass, if_pos he] at h; cases h
    | false =>
      rw [hj] at he
      obtain ⟨s1, s2, s3⟩ := tight_sub r out j he
      obtain ⟨ch', e1, e2, e3⟩ := termsPass_step r t ts out ch j hjo hj he
      have hf2 := fineBox_set (x := tightR r out j) hf hjn s1 s2 s3
      rw [e1] at h
      obtain ⟨i1, i2, i3, i4, i5⟩ := termsPass_some r hr ts _ ch' o c (fun t ht => hts t (by simp [ht])) hf2 h
      have hwl := width_set_le out j _ hjo s1 s2 s3
      refine ⟨i1, i2.trans ⟨by rw [List.length_set], fun k hk => ?_⟩, fun h => ?_, by omega, fun h => ?_⟩
      · rw [pick_set out j k _ hk]
        by_cases hjk : j = k
        · subst hjk; rw [if_pos rfl]; exact ⟨s1, s3⟩
        · rw [if_neg hjk]; exact ⟨Int.le_refl _, Int.le_refl _⟩
      · rcases i3 h with h2 | h2
        · rcases e2 h2 with h3 | h3
          · exact .inl h3
          · exact .inr (by omega)
        · exact .inr (by omega)
      · obtain ⟨k1, k2, k3⟩ := i5 h
        obtain ⟨k4, k5⟩ := e3 k1
        rw [k5] at k2 k3
        refine ⟨k4, k2, fun u hu => ?_⟩
        rcases List.mem_cons.1 hu with rfl | hu
        · rw [hj]
          refine ⟨he, ?_⟩
          have h7 : pick (out.set j (tightR r out j)) j = tightR r out j := by rw [pick_set out j j _ hjo, if_pos rfl]
          rw [k5] at h7
          exact h7.symm
        · exact k3 u hu
theorem rowsPass_some {n : Nat} : ∀ (rows : List Row) (out : List Rng) (ch : Bool) (o : List Rng) (c : Bool), (∀ r ∈ rows, fitsB n r = true) → fineBox n out → rowsPass rows out ch = some (o, c) →
      fineBox n o ∧ Sub o out ∧ (c = true → ch = true ∨ width o < width out) ∧ width o ≤ width out ∧ (c = false → ch = false ∧ o = out ∧ Closed rows out)
  | [], out, ch, o, c, _, hf, h => by
    simp only [rowsPass, Option.some.injEq, Prod.mk.injEq] at h
    obtain ⟨rfl, rfl⟩ := h
    exact ⟨hf, Sub.refl _, fun h => .inl h, Nat.le_refl _, fun h => ⟨h, rfl, fun r hr => by simp at hr⟩⟩
  | r :: rs, out, ch, o, c, hr, hf, h => by
    rw [rowsPass] at h
    cases he : termsPass r r.terms out ch with
    | none => rw [he] at h; cases h
    | some x =>
      obtain ⟨o1, c1⟩ := x
      rw [he] at h
      dsimp only at h
      obtain ⟨i1, i2, i3, i4, i5⟩ := termsPass_some r (hr r (by simp)) r.terms out ch o1 c1 (fun _ h => h) hf he
      obtain ⟨j1, j2, j3, j4, j5⟩ := rowsPass_some rs o1 c1 o c (fun r hr' => hr r (by simp [hr'])) i1 h
      refine ⟨j1, j2.trans i2, fun h => ?_, by omega, fun h => ?_⟩
      · rcases j3 h with h2 | h2
        · rcases i3 h2 with h3 | h3
          · exact .inl h3
          · exact .inr (by omega)
        · exact .inr (by omega)
      · obtain ⟨k1, k2, k3⟩ := j5 h
        obtain ⟨m1, m2, m3⟩ := i5 k1
        rw [m2] at k2 k3
        refine ⟨m1, k2, fun r' hr' => ?_⟩
        rcases List.mem_cons.1 hr' with rfl | hr'
        · exact m3
        · exact k3 r' hr'
theorem fixF_closed {n : Nat} (rows : List Row) (hr : ∀ r ∈ rows, fitsB n r = true) : ∀ (fuel : Nat) (out L : List Rng), fineBox n out → fixF rows fuel out = some L → fineBox n L ∧ Sub L out ∧ Closed rows L
  | 0, _, _, _, h => by cases h
  | fuel + 1, out, L, hf, h => by
    rw [fixF] at h
    cases he : rowsPass rows out false with
    | none => rw [he] at h; cases h
    | some x =>
      obtain ⟨o, c⟩ := x
      rw [he] at h
      obtain ⟨i1, i2, -, -, i5⟩ := rowsPass_some rows out false o c hr hf he
      cases c with
      | false =>
        simp only [Option.some.injEq] at h
        subst h
        obtain ⟨-, k2, k3⟩ := i5 rfl
        rw [← k2] at k3
        exact ⟨i1, i2, k3⟩
      | true =>
        dsimp only at h
        obtain ⟨j1, j2, j3⟩ := fixF_closed rows hr fuel o L i1 h
        exact ⟨j1, j2.trans i2, j3⟩

/-! the fixed box -/
theorem fine_of_valid {b : List Rng} {rows : List Row} (h : validB b rows = true) (he : b.any emptyR = false) : fineBox b.length b := by
  obtain ⟨h1, -, -⟩ := validB_ok h
  exact ⟨rfl, h1, fun r hr => by
    have h0 := List.any_eq_false.1 he r hr
    unfold emptyR at h0
    simpa using h0⟩
/-- a fixed box is closed, lies in the box, and has no empty range -/
theorem fix_closed {b L : List Rng} {rows : List Row} (h : fixB b rows = some L) : validB b rows = true ∧ b.any emptyR = false ∧ noSol rows = false ∧ fineBox b.length L ∧ Sub L b ∧ Closed rows L := by
  unfold fixB at h
  by_cases hc : validB b rows = true ∧ b.any emptyR = false ∧ noSol rows = false
  · rw [if_pos hc] at h
    obtain ⟨c1, c2, c3⟩ := hc
    obtain ⟨i1, i2, i3⟩ := fixF_closed rows (validB_ok c1).2.2 _ b L (fine_of_valid c1 c2) h
    exact ⟨c1, c2, c3, i1, i2, i3⟩
  · rw [if_neg hc] at h
    cases h
/-- it contains every closed box -/
theorem fix_greatest {b M : List Rng} {rows : List Row} (hv : validB b rows = true) (he : b.any emptyR = false) (hn : noSol rows = false) (hC : Closed rows M) (hS : Sub M b) : ∃ L, fixB b rows = some L ∧ Sub M L := by
  unfold fixB
  rw [if_pos ⟨hv, he, hn⟩]
  exact fixF_sub rows (validB_ok hv).2.2 hC _ b (fine_of_valid hv he) hS (Nat.lt_succ_self _)
end Go.Proofs.Ytmecjjfpgjpeoaa
