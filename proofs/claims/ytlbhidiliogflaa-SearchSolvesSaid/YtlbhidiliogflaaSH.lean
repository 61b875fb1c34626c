/-
The normal row: the walk.
Normal: the walk.
Copies of rows and of systems: the walks.
A copy of a system under way: what is known of it.
A copy of a system: the walk.
Whether lists of terms are equal: the walks.
Simplify: the walk.
Simplify: the walk.
A range over a function whose rounds are handed lists of integers: what the caller owes.
All values in a box, handed out one by one: the iterator's walk.
Count: the walk.
Branch: the walk.
-/
import Derived.Test.YtlbhidiliogflaaSG
import Derived.Test.YtlbhidiliogflaaGM
import Derived.Deep.CutRange
import Derived.Test.YtlbhidiliogflaaPA
import Derived.RangeFuncLeaves
import Derived.RangeFuncKeeps
import Derived.OwnWalkIn
import Derived.TacticsInMore
import Derived.Deep.Cut
namespace Go.Proofs.Ytlbhidiliogflaa
set_option linter.unusedSimpArgs false
set_option linter.unusedVariables false
open Go.RowKit

/-! divisor -/
def gcdI (a b : Int) : Int := ((Int.gcd a b : Nat) : Int)
/-! the normal row -/
theorem stTermM : SliceT Try.prog 74 73 2 16 := SliceT.mk' Try.underlying74 (z := .agg #[.int .i64 0, .int .i64 0]) (by kernel_rfl) rfl (by omega)
theorem litT (w : World) (t : TypeId) (x : Term) : Sl (Pl encTerm) 2 (w.alloc (.cells #[.int .i64 x.cell, .int .i64 x.factor] t)) (.slice (some ⟨w.heap.size, 0, none⟩) 1 1) [x] :=
  Sl.one (R := Pl encTerm) w [.int .i64 x.cell, .int .i64 x.factor] t 2 x rfl rfl
end Go.Proofs.Ytlbhidiliogflaa
namespace Go.Proofs.Ytlbhidiliogflaa
set_option linter.unusedSimpArgs false
set_option linter.unusedVariables false
open Go.RowKit

end Go.Proofs.Ytlbhidiliogflaa
namespace Go.Proofs.Ytlbhidiliogflaa
set_option linter.unusedSimpArgs false
set_option linter.unusedVariables false
open Go.RowKit

theorem stRowM : SliceT Try.prog 23 76 2 32 := SliceT.mk' Try.underlying23 (z := .agg #[.slice none 0 0, .int .i64 0]) (by kernel_rfl) rfl (by omega)
theorem stGraphM : SliceT Try.prog 24 90 3 40 := SliceT.mk' Try.underlying24 (z := .agg #[.int .i64 0, .int .i64 0, .slice none 0 0]) (by kernel_rfl) rfl (by omega)
theorem stRowsM : SliceT Try.prog 25 23 1 24 := SliceT.mk' Try.underlying25 (z := .slice none 0 0) (by kernel_rfl) rfl (by omega)
theorem rdRow_one {w : World} {cs : List Value} {r : Row} (h : rdRow w cs r) : ∀ u ∈ cs, u.oneCell' = true := by
  obtain ⟨v, rfl, ht⟩ := h
  obtain ⟨A, c, rfl, -, -⟩ := ht.form
  simp [Value.oneCell']
theorem rdGr_one {w : World} {cs : List Value} {g : Gr} (h : rdGr w cs g) : ∀ u ∈ cs, u.oneCell' = true := by
  obtain ⟨v, rfl, ht⟩ := h
  obtain ⟨A, c, rfl, -, -⟩ := ht.form
  simp [Value.oneCell']
/-- the first k rows have terms of their own, the others those they had -/
structure Copied (w wr : World) (v : Value) (k : Nat) (css : List (Elm 2)) (l : List Row) : Prop where
  own : Own encC 76 2 w.heap.size wr v css
  len : css.length = l.length
  new : ∀ j (h1 : j < css.length) (h2 : j < l.length), j < k → ∃ T : Nat → Prop, (∀ i, T i → w.heap.size ≤ i ∧ v.ownBlock ≠ some i ∧ i < wr.heap.size) ∧ OwS T wr fun w' => rdRow w' css[j].val l[j]
  old : ∀ j (h1 : j < css.length) (h2 : j < l.length), k ≤ j → rdRow w css[j].val l[j]
theorem Copied.done {w wr : World} {v : Value} {k : Nat} {css : List (Elm 2)} {l : List Row} (h : Copied w wr v k css l) (hk : l.length ≤ k) : NL rdRow 76 2 (fun q => w.heap.size ≤ q ∧ q < wr.heap.size) wr v css l :=
  ⟨h.own.less (Nat.zero_le _), h.len, fun q hq => ⟨h.own.ge q hq, h.own.blk_lt q hq⟩, fun j h1 h2 => by
    obtain ⟨T, hT, ho⟩ := h.new j h1 h2 (by omega)
    exact ⟨T, fun i hi => ⟨⟨(hT i hi).1, (hT i hi).2.2⟩, (hT i hi).2.1, (hT i hi).2.2⟩, ho⟩⟩
/-- a store of new terms -/
theorem Copied.next {w wr w2 : World} {g n c k : Nat} {css : List (Elm 2)} {l : List Row} (h : Copied w wr (.slice (some ⟨g, 0, none⟩) n c) k css l) (hn : n = l.length) (hk : k < css.length) (hk2 : k < l.length) {tv : Value} (hu : tv.oneCell' = true) (hkp : Kp wr w2)
    (ht : Own encTerm 73 2 wr.heap.size w2 tv l[k].terms) (hb : css[k].val[1]? = some (.int .i64 l[k].bound)) :
    Copied w (w2.setCell ⟨g, k * 2, none⟩ tv) (.slice (some ⟨g, 0, none⟩) n c) (k + 1) (css.set k (css[k].set 0 tv hu)) l := by
  have hlen := h.len
  have hgl := h.own.blk_lt g rfl
  have hge := h.own.ge g rfl
  have own2 := h.own.kp hkp
  have own3 := own2.setE (k := k) (j := 0) (u := tv) (by omega) hk (by omega) hu
  have hkg : Kg w2 (w2.setCell ⟨g, k * 2, none⟩ tv) g := (Kg.refl _ _).set (.inl rfl) _
  refine ⟨own3, by simp [h.len], fun j h1 h2 hj => ?_, fun j h1 h2 hj => ?_⟩
  · rw [List.getElem_set]
    by_cases hkj : k = j
    · subst hkj
      rw [if_pos rfl]
      refine ⟨fun q => tv.ownBlock = some q, fun i hi => ?_, ?_⟩
      · have a1 := ht.ge i hi
        have a2 := ht.blk_lt i hi
        exact ⟨by omega, fun e => absurd (show g = i by simpa [Value.ownBlock] using e) (by omega), by rw [set_size]; exact a2⟩
      · have h3 := (ht.kg hkg hgl).owS
        refine h3.imp fun w' ho => ?_
        refine ⟨tv, ?_, ho.sl encTerm_len⟩
        have hl2 := css[k].property.1
        have e1 : (css[k].set 0 tv hu).val = css[k].val.set 0 tv := rfl
        rw [e1]
        generalize css[k].val = cs at *
        match cs, hl2, hb with
        | [a, b], _, hb =>
          simp only [List.getElem?_cons_succ, List.getElem?_cons_zero, Option.some.injEq] at hb
          subst hb
          rfl
    · rw [if_neg hkj]
      obtain ⟨T, hT, ho⟩ := h.new j (by simpa using h1) h2 (by omega)
      refine ⟨T, fun i hi => ⟨(hT i hi).1, (hT i hi).2.1, by rw [set_size]; exact Nat.lt_of_lt_of_le (hT i hi).2.2 hkp.size⟩, (ho.kp hkp).kg hkg fun hTg => (hT g hTg).2.1 rfl⟩
  · rw [List.getElem_set, if_neg (by omega)]
    exact h.old j (by simpa using h1) h2 (by omega)
end Go.Proofs.Ytlbhidiliogflaa
namespace Go.Proofs.Ytlbhidiliogflaa
set_option linter.unusedSimpArgs false
set_option linter.unusedVariables false
open Go.RowKit

/-! tags of blocks -/
/-- which blocks from B on belong to which part -/
def Tags (B : Nat) (w : World) (τ : Nat → Nat) : Prop := ∀ q, τ q ≠ 0 → B ≤ q ∧ q < w.heap.size
theorem Tags.grow {B : Nat} {w w' : World} {τ : Nat → Nat} (h : Tags B w τ) (hs : w.heap.size ≤ w'.heap.size) : Tags B w' τ := fun q hq => ⟨(h q hq).1, Nat.lt_of_lt_of_le (h q hq).2 hs⟩
/-- new blocks get a tag -/
def tagN (τ : Nat → Nat) (z : Nat) (t : Nat) (z' : Nat) : Nat → Nat := fun q => if z ≤ q ∧ q < z' then t else τ q
theorem tagN_old {B : Nat} {w : World} {τ : Nat → Nat} (h : Tags B w τ) (t z' : Nat) {q u : Nat} (hu : u ≠ 0) (hq : τ q = u) : tagN τ w.heap.size t z' q = u := by
  have := h q (by rw [hq]; exact hu)
  unfold tagN
  rw [if_neg (by omega)]
  exact hq
theorem tagN_new {τ : Nat → Nat} {z t z' q : Nat} (h1 : z ≤ q) (h2 : q < z') : tagN τ z t z' q = t := by unfold tagN; rw [if_pos ⟨h1, h2⟩]
theorem Tags.ext {B : Nat} {w w' : World} {τ : Nat → Nat} (h : Tags B w τ) (t : Nat) (hs : w.heap.size ≤ w'.heap.size) (hB : B ≤ w.heap.size) : Tags B w' (tagN τ w.heap.size t w'.heap.size) := fun q hq => by
  unfold tagN at hq
  split at hq
  · omega
  · have := h q hq
    omega
/-- a system whose parts may be written; the parts have tags -/
structure SysO (τ : Nat → Nat) (w : World) (vb vr vg vc : Value) (s : Sys) : Prop where
  box : Own encRng 40 2 0 w vb s.box
  boxT : ∀ q, vb.ownBlock = some q → τ q = 1
  rows : ∃ css, NL rdRow 76 2 (fun q => τ q = 2) w vr css s.rows
  graphs : OwS (fun q => τ q = 3) w fun w' => GrsL w' vg s.graphs
  cases : ∃ vs : List (Elm 1), Own encC 23 1 0 w vc vs ∧ vs.length = s.cases.length ∧ (∀ q, vc.ownBlock = some q → τ q = 4) ∧
    ∀ j (h1 : j < vs.length) (h2 : j < s.cases.length), ∃ v css, vs[j].val = [v] ∧ NL rdRow 76 2 (fun q => τ q = 5 + j) w v css s.cases[j]
/-- how long the parts of a system may be -/
structure SizeS (s : Sys) : Prop where
  box : s.box.length ≤ 128
  rows : s.rows.length ≤ 1024
  terms : ∀ r ∈ s.rows, r.terms.length ≤ 128
  graphs : s.graphs.length ≤ 64
  least : ∀ g ∈ s.graphs, g.least.length ≤ 36
  cases : s.cases.length ≤ 1024
  case : ∀ l ∈ s.cases, l.length ≤ 64 ∧ ∀ r ∈ l, r.terms.length ≤ 128
theorem size_of {s : Sys} (h : validS s = true) : SizeS s := by
  obtain ⟨h1, h2, ⟨h3, h4⟩, h5, h6, h7, h8⟩ := validS_parts h
  obtain ⟨-, v2, v3⟩ := validB_ok h4
  refine ⟨v2, h3, fun r hr => ?_, h5, fun g hg => ?_, h6, fun l hl => ⟨(h8 l hl).1, fun r hr => ?_⟩⟩
  · have := (fitsB_ok (v3 r hr)).2.1
    omega
  · have h9 := h7 g hg
    unfold grOk at h9
    rw [Bool.and_eq_true, decide_eq_true_eq] at h9
    obtain ⟨⟨a1, a2, a3, a4, a5⟩, -⟩ := h9
    have := sq_bd a1 a2
    omega
  · obtain ⟨-, -, v4⟩ := validB_ok (h8 l hl).2
    have := (fitsB_ok (v4 r hr)).2.1
    omega
/-- what the first statement of clone leaves -/
structure CloneI (w0 w wx : World) (bo : Nat) (s : Sys) : Prop where
  ex : ∃ (τ : Nat → Nat) (A1 A2 A3 : Option Addr) (c1 c2 c3 : Nat) (css : List (Elm 2)) (gcs : List (Elm 3)), Tags w0.heap.size wx τ ∧ τ bo = 0 ∧ Bx wx bo [.slice A1 s.box.length c1, .slice A2 s.rows.length c2, .slice A3 s.graphs.length c3, .slice none 0 0] ∧
    Own encRng 40 2 0 wx (.slice A1 s.box.length c1) s.box ∧ (∀ q, (Value.slice A1 s.box.length c1).ownBlock = some q → τ q = 1) ∧
    NL rdRow 76 2 (fun q => τ q = 2) wx (.slice A2 s.rows.length c2) css s.rows ∧
    Own encC 90 3 0 wx (.slice A3 s.graphs.length c3) gcs ∧ (∀ q, (Value.slice A3 s.graphs.length c3).ownBlock = some q → τ q = 3) ∧
    gcs.length = s.graphs.length ∧ ∀ k (h1 : k < gcs.length) (h2 : k < s.graphs.length), rdGr w gcs[k].val s.graphs[k]
  lo : w0.heap.size ≤ bo
  lt : bo < wx.heap.size
  kp : Kp w0 wx
/-- a copy under way: kg graphs and kc cases are done -/
structure CloneS (w0 w wx : World) (bo : Nat) (τ : Nat → Nat) (s : Sys) (v1 v2 v3 v4 : Value) (css : List (Elm 2)) (gcs : List (Elm 3)) (vs : List (Elm 1)) (kg kc : Nat) : Prop where
  tags : Tags w0.heap.size wx τ
  bo0 : τ bo = 0
  box : Bx wx bo [v1, v2, v3, v4]
  o1 : Own encRng 40 2 0 wx v1 s.box
  t1 : ∀ q, v1.ownBlock = some q → τ q = 1
  n2 : NL rdRow 76 2 (fun q => τ q = 2) wx v2 css s.rows
  o3 : Own encC 90 3 0 wx v3 gcs
  t3 : ∀ q, v3.ownBlock = some q → τ q = 3
  l3 : gcs.length = s.graphs.length
  new3 : ∀ j (h1 : j < gcs.length) (h2 : j < s.graphs.length), j < kg → ∃ T : Nat → Prop, (∀ i, T i → τ i = 3 ∧ v3.ownBlock ≠ some i) ∧ OwS T wx fun w' => rdGr w' gcs[j].val s.graphs[j]
  old3 : ∀ j (h1 : j < gcs.length) (h2 : j < s.graphs.length), kg ≤ j → rdGr w gcs[j].val s.graphs[j]
  o4 : Own encC 23 1 0 wx v4 vs
  t4 : ∀ q, v4.ownBlock = some q → τ q = 4
  l4 : vs.length = kc
  n4 : ∀ j (h1 : j < vs.length) (h2 : j < s.cases.length), ∃ v css, vs[j].val = [v] ∧ NL rdRow 76 2 (fun q => τ q = 5 + j) wx v css s.cases[j]
  lo : w0.heap.size ≤ bo
  lt : bo < wx.heap.size
  kp : Kp w0 wx
section
variable {w0 w wx wy : World} {bo : Nat} {τ τ' : Nat → Nat} {s : Sys} {v1 v2 v3 v4 : Value} {css : List (Elm 2)} {gcs : List (Elm 3)} {vs : List (Elm 1)} {kg kc : Nat}
theorem CloneI.start (h : CloneI w0 w wx bo s) : ∃ (τ : Nat → Nat) (A1 A2 A3 : Option Addr) (c1 c2 c3 : Nat) (css : List (Elm 2)) (gcs : List (Elm 3)), CloneS w0 w wx bo τ s (.slice A1 s.box.length c1) (.slice A2 s.rows.length c2) (.slice A3 s.graphs.length c3) (.slice none 0 0) css gcs [] 0 0 := by
  obtain ⟨⟨τ, A1, A2, A3, c1, c2, c3, css, gcs, h1, h2, h3, h4, h5, h6, h7, h8, h9, h10⟩, h11, h12, h13⟩ := h
  exact ⟨τ, A1, A2, A3, c1, c2, c3, css, gcs, h1, h2, h3, h4, h5, h6, h7, h8, h9, fun j _ _ hj => absurd hj (by omega), fun j a b _ => h10 j a b, Own.nil _ _ _ _ _, fun q hq => by simp [Value.ownBlock] at hq, rfl, fun j hj => absurd hj (by simp), h11, h12, h13⟩
theorem CloneS.kpS (h : CloneS w0 w wx bo τ s v1 v2 v3 v4 css gcs vs kg kc) (hk : Kp wx wy) : CloneS w0 w wy bo τ s v1 v2 v3 v4 css gcs vs kg kc where
  tags := h.tags.grow hk.size
  bo0 := h.bo0
  box := h.box.kp hk h.lt
  o1 := h.o1.kp hk
  t1 := h.t1
  n2 := h.n2.kp hk
  o3 := h.o3.kp hk
  t3 := h.t3
  l3 := h.l3
  new3 := fun j h1 h2 hj => by
    obtain ⟨T, hT, ho⟩ := h.new3 j h1 h2 hj
    exact ⟨T, hT, ho.kp hk⟩
  old3 := h.old3
  o4 := h.o4.kp hk
  t4 := h.t4
  l4 := h.l4
  n4 := fun j h1 h2 => by
    obtain ⟨v, c, e, hn⟩ := h.n4 j h1 h2
    exact ⟨v, c, e, hn.kp hk⟩
  lo := h.lo
  lt := Nat.lt_of_lt_of_le h.lt hk.size
  kp := h.kp.trans hk
theorem CloneS.retag (h : CloneS w0 w wx bo τ s v1 v2 v3 v4 css gcs vs kg kc) (ht : Tags w0.heap.size wx τ') (hb : τ' bo = 0) (hr : ∀ q t, t ≠ 0 → τ q = t → τ' q = t) : CloneS w0 w wx bo τ' s v1 v2 v3 v4 css gcs vs kg kc where
  tags := ht
  bo0 := hb
  box := h.box
  o1 := h.o1
  t1 := fun q hq => hr q 1 (by omega) (h.t1 q hq)
  n2 := h.n2.mono fun q hq => hr q 2 (by omega) hq
  o3 := h.o3
  t3 := fun q hq => hr q 3 (by omega) (h.t3 q hq)
  l3 := h.l3
  new3 := fun j h1 h2 hj => by
    obtain ⟨T, hT, ho⟩ := h.new3 j h1 h2 hj
    exact ⟨T, fun i hi => ⟨hr i 3 (by omega) (hT i hi).1, (hT i hi).2⟩, ho⟩
  old3 := h.old3
  o4 := h.o4
  t4 := fun q hq => hr q 4 (by omega) (h.t4 q hq)
  l4 := h.l4
  n4 := fun j h1 h2 => by
    obtain ⟨v, c, e, hn⟩ := h.n4 j h1 h2
    exact ⟨v, c, e, hn.mono fun q hq => hr q (5 + j) (by omega) hq⟩
  lo := h.lo
  lt := h.lt
  kp := h.kp
/-- later worlds, with tags for what is new -/
theorem CloneS.next (h : CloneS w0 w wx bo τ s v1 v2 v3 v4 css gcs vs kg kc) (hk : Kp wx wy) (t : Nat) : CloneS w0 w wy bo (tagN τ wx.heap.size t wy.heap.size) s v1 v2 v3 v4 css gcs vs kg kc :=
  (h.kpS hk).retag (h.tags.ext t hk.size h.kp.size) (by have := h.lt; unfold tagN; rw [if_neg (by omega)]; exact h.bo0) (fun q u hu hq => tagN_old h.tags t _ hu hq)
/-- a graph gets its own numbers: wy is the world of the store -/
theorem CloneS.graph {g n c : Nat} (h : CloneS w0 w wx bo τ s v1 v2 (.slice (some ⟨g, 0, none⟩) n c) v4 css gcs vs kg kc) (hn : n = s.graphs.length) (hk1 : kg < gcs.length) (hk2 : kg < s.graphs.length) {tv : Value} (hu : tv.oneCell' = true) (hk : Kp wx wy)
    (ho : Own encInt 3 1 wx.heap.size wy tv s.graphs[kg].least) (hc : gcs[kg].val.take 2 = [.int .i64 s.graphs[kg].first, .int .i64 s.graphs[kg].size]) :
    CloneS w0 w (wy.setCell ⟨g, kg * 3 + 2, none⟩ tv) bo (tagN τ wx.heap.size 3 wy.heap.size) s v1 v2 (.slice (some ⟨g, 0, none⟩) n c) v4 css (gcs.set kg (gcs[kg].set 2 tv hu)) vs (kg + 1) kc := by
  have hN := h.next hk 3
  have hg : τ g = 3 := h.t3 g rfl
  have hgl : g < wx.heap.size := h.o3.blk_lt g rfl
  have hgb : g ≠ bo := fun e => by have := h.bo0; rw [e] at hg; omega
  have hkg : Kg wy (wy.setCell ⟨g, kg * 3 + 2, none⟩ tv) g := (Kg.refl _ _).set (.inl rfl) _
  have hl3 := h.l3
  have keep : ∀ q, q < wy.heap.size → q ≠ g → (wy.setCell ⟨g, kg * 3 + 2, none⟩ tv).heap[q]? = wy.heap[q]? := fun q hq hne => hkg.block q hq (fun e => hne (by injection e))
  have hng : ∀ t, t ≠ 3 → ∀ q, tagN τ wx.heap.size 3 wy.heap.size q = t → q ≠ g := fun t ht q hq e => ht (by rw [← hq, e]; exact hN.t3 g rfl)
  have hsz : (wy.setCell ⟨g, kg * 3 + 2, none⟩ tv).heap.size = wy.heap.size := set_size _ _ _
  refine ⟨hN.tags.grow (Nat.le_of_eq hsz.symm), hN.bo0, hN.box.kg hkg hN.lt (fun e => hgb e.symm), hN.o1.owS _ hkg.size fun q hq hlt => keep q hlt (hng 1 (by omega) q (hN.t1 q hq)), hN.t1, hN.n2.kg hkg (fun e => hng 2 (by omega) g e rfl), ?_, hN.t3, by simp [hl3], ?_, ?_, hN.o4.owS _ hkg.size fun q hq hlt => keep q hlt (hng 4 (by omega) q (hN.t4 q hq)), hN.t4, hN.l4, ?_, hN.lo, by rw [hsz]; exact hN.lt, ?_⟩
  · exact hN.o3.setE (by omega) hk1 (by omega) hu
  · intro j h1 h2 hj
    rw [List.getElem_set]
    by_cases hkj : kg = j
    · subst hkj
      rw [if_pos rfl]
      refine ⟨fun q => tv.ownBlock = some q, fun i hi => ?_, ?_⟩
      · have a1 := ho.ge i hi
        have a2 := ho.blk_lt i hi
        exact ⟨tagN_new a1 a2, fun e => absurd (show g = i by simpa [Value.ownBlock] using e) (by omega)⟩
      · refine ((ho.kg hkg hgl).owS).imp fun w' hw' => ?_
        refine ⟨tv, ?_, hw'.sl encInt_len⟩
        have hl2 := gcs[kg].property.1
        have e1 : (gcs[kg].set 2 tv hu).val = gcs[kg].val.set 2 tv := rfl
        rw [e1]
        generalize gcs[kg].val = cs at *
        match cs, hl2, hc with
        | [a, b, d], _, hc =>
          simp only [List.take_succ_cons, List.take_zero, List.cons.injEq, and_true] at hc
          obtain ⟨rfl, rfl⟩ := hc
          rfl
    · rw [if_neg hkj]
      obtain ⟨T, hT, hOw⟩ := hN.new3 j (by simpa using h1) h2 (by omega)
      exact ⟨T, hT, hOw.kg hkg fun hTg => (hT g hTg).2 rfl⟩
  · intro j h1 h2 hj
    rw [List.getElem_set, if_neg (by omega)]
    exact hN.old3 j (by simpa using h1) h2 (by omega)
  · intro j h1 h2
    obtain ⟨v, c', e, hn'⟩ := hN.n4 j h1 h2
    exact ⟨v, c', e, hn'.kg hkg (fun e => hng (5 + j) (by omega) g e rfl)⟩
  · exact Kg.to_kp hN.kp hkg (by have := h.tags g (by rw [hg]; omega); exact this.1)
/-- all graphs are done -/
theorem CloneS.graphs (h : CloneS w0 w wx bo τ s v1 v2 v3 v4 css gcs vs kg kc) (hk : s.graphs.length ≤ kg) : OwS (fun q => τ q = 3) wx fun w' => GrsL w' v3 s.graphs := by
  intro w' h1 h2
  refine sl_of ((h.o3.owS w' h1 fun q hq hlt => h2 q (h.t3 q hq) hlt).sl encC_len) h.l3 fun j k1 k2 => ?_
  obtain ⟨T, hT, ho⟩ := h.new3 j k1 k2 (by omega)
  exact ho w' h1 fun q hq hlt => h2 q (hT q hq).1 hlt
/-- a case is added: wd is the world of the append, and what it gives is stored in the copy -/
theorem CloneS.case {wc wd w4 : World} {vx v4' : Value} {cssx : List (Elm 2)} (h : CloneS w0 w wx bo τ s v1 v2 v3 v4 css gcs vs kg kc) (hkc : kc < s.cases.length) (hk1 : Kp wx wc) (hk2 : Kp wc wd) (nl : NL rdRow 76 2 (fun q => wx.heap.size ≤ q ∧ q < wc.heap.size) wc vx cssx s.cases[kc])
    {c : Elm 1} (hc : c.val = [vx]) (own' : Own encC 23 1 0 w4 v4' (vs ++ [c])) (hg : wd.grownBy w4 v4.ownBlock) (hat : v4'.ownBlock = v4.ownBlock ∨ v4'.ownBlock = some wd.heap.size) :
    CloneS w0 w (w4.setCell ⟨bo, 3, none⟩ v4') bo (tagN (tagN τ wx.heap.size (5 + kc) wc.heap.size) wc.heap.size 4 w4.heap.size) s v1 v2 v3 v4' css gcs (vs ++ [c]) kg (kc + 1) := by
  have hA := h.next hk1 (5 + kc)
  have hD := hA.kpS hk2
  have hgs := hg.size
  have hcs := hk2.size
  have hxs := hk1.size
  have htag : Tags w0.heap.size w4 (tagN (tagN τ wx.heap.size (5 + kc) wc.heap.size) wc.heap.size 4 w4.heap.size) := fun q hq => by
    unfold tagN at hq
    have := h.kp.size
    split at hq
    · omega
    · split at hq
      · omega
      · have := h.tags q hq
        omega
  have hold : ∀ q t, t ≠ 0 → tagN τ wx.heap.size (5 + kc) wc.heap.size q = t → tagN (tagN τ wx.heap.size (5 + kc) wc.heap.size) wc.heap.size 4 w4.heap.size q = t := fun q t ht hq => tagN_old hA.tags 4 _ ht hq
  have hsz : (w4.setCell ⟨bo, 3, none⟩ v4').heap.size = w4.heap.size := set_size _ _ _
  have hob : ∀ q, v4.ownBlock = some q → q < wc.heap.size := hA.o4.blk_lt
  have hbo4 : v4.ownBlock ≠ some bo := fun e => by have h1 := h.t4 bo e; have h2 := h.bo0; omega
  have hblt := hD.lt
  have keep : ∀ q, q < wd.heap.size → v4.ownBlock ≠ some q → q ≠ bo → (w4.setCell ⟨bo, 3, none⟩ v4').heap[q]? = wd.heap[q]? := fun q hq h1 h2 => (set_block w4 ⟨bo, 3, none⟩ v4' q h2).trans (hg.block q hq (fun e => h1 e.symm))
  have keepT : ∀ q t, t ≠ 0 → t ≠ 4 → q < wd.heap.size → tagN τ wx.heap.size (5 + kc) wc.heap.size q = t → (w4.setCell ⟨bo, 3, none⟩ v4').heap[q]? = wd.heap[q]? := fun q t h1 h2 hq ht => keep q hq (fun e => h2 (by rw [← ht, hA.t4 q e])) (fun e => h1 (by rw [← ht, e]; exact hA.bo0))
  have hb4 := hD.box.grown hg hbo4 hblt
  have hbs := hb4.set (j := 3) (by simp) v4'
  simp only [List.set_cons_zero, List.set_cons_succ] at hbs
  have hle : wd.heap.size ≤ (w4.setCell ⟨bo, 3, none⟩ v4').heap.size := by rw [hsz]; exact hgs
  have hkg : Kg w4 (w4.setCell ⟨bo, 3, none⟩ v4') bo := (Kg.refl _ _).set (.inl rfl) _
  have hbo' : tagN (tagN τ wx.heap.size (5 + kc) wc.heap.size) wc.heap.size 4 w4.heap.size bo = 0 := by
    have := h.lt
    unfold tagN
    rw [if_neg (by omega), if_neg (by omega)]
    exact h.bo0
  have ht4' : ∀ q, v4'.ownBlock = some q → tagN (tagN τ wx.heap.size (5 + kc) wc.heap.size) wc.heap.size 4 w4.heap.size q = 4 := fun q hq => by
    rcases hat with e | e
    · exact hold q 4 (by omega) (hA.t4 q (e ▸ hq))
    · rw [e] at hq
      injection hq with hq
      have h1 := own'.blk_lt q (by rw [e, hq])
      exact tagN_new (by omega) h1
  refine ⟨htag.grow (Nat.le_of_eq hsz.symm), hbo', hbs, hD.o1.owS _ hle fun q hq hlt => keepT q 1 (by omega) (by omega) hlt (hA.t1 q hq), fun q hq => hold q 1 (by omega) (hA.t1 q hq),
    (hD.n2.step hle fun q hq hlt => keepT q 2 (by omega) (by omega) hlt hq).mono fun q hq => hold q 2 (by omega) hq, hD.o3.owS _ hle fun q hq hlt => keepT q 3 (by omega) (by omega) hlt (hA.t3 q hq), fun q hq => hold q 3 (by omega) (hA.t3 q hq), h.l3, ?_, h.old3,
    ?_, ht4', by simp [h.l4], ?_, h.lo, by rw [hsz]; omega, ?_⟩
  · intro j h1 h2 hj
    obtain ⟨T, hT, ho⟩ := hD.new3 j h1 h2 hj
    exact ⟨T, fun i hi => ⟨hold i 3 (by omega) (hT i hi).1, (hT i hi).2⟩, ho.step hle fun q hq hlt => keepT q 3 (by omega) (by omega) hlt (hT q hq).1⟩
  · refine own'.owS _ hkg.size fun q hq hlt => hkg.block q hlt fun e => ?_
    have h1 : bo = q := (Option.some.inj e).symm
    have h2 := ht4' q hq
    rw [← h1, hbo'] at h2
    omega
  · intro j h1 h2
    by_cases hj : j < vs.length
    · obtain ⟨v, c', e, hn⟩ := hD.n4 j hj h2
      rw [List.getElem_append_left hj]
      exact ⟨v, c', e, (hn.step hle fun q hq hlt => keepT q (5 + j) (by omega) (by omega) hlt hq).mono fun q hq => hold q (5 + j) (by omega) hq⟩
    · have hj2 : j = vs.length := by simp at h1; omega
      have hj3 : j = kc := by rw [hj2]; exact h.l4
      subst hj3
      have e2 : (vs ++ [c])[j]'h1 = c := by simp [hj2]
      rw [e2]
      refine ⟨vx, cssx, hc, ((nl.kp hk2).step hle fun q hq hlt => keepT q (5 + j) (by omega) (by omega) hlt ?_).mono fun q hq => hold q (5 + j) (by omega) ?_⟩
      · exact tagN_new hq.1 hq.2
      · exact tagN_new hq.1 hq.2
  · refine Kg.to_kp (hD.kp.grown hg fun q hq => ?_) hkg h.lo
    have h1 := h.t4 q hq
    exact (h.tags q (by rw [h1]; omega)).1
/-- the copy is done; a block without a tag may change -/
theorem CloneS.fin {g : Nat} (h : CloneS w0 w wx bo τ s v1 v2 v3 v4 css gcs vs kg kc) (hkg : s.graphs.length ≤ kg) (hkc : kc = s.cases.length) (hx : Kg wx wy g) (hg : τ g = 0) : SysO τ wy v1 v2 v3 v4 s := by
  have hgr := h.graphs hkg
  have keep : ∀ q t, t ≠ 0 → q < wx.heap.size → τ q = t → wy.heap[q]? = wx.heap[q]? := fun q t ht hq hτ => hx.block q hq fun e => ht (by rw [← hτ, Option.some.inj e, hg])
  refine ⟨h.o1.owS _ hx.size fun q hq hlt => keep q 1 (by omega) hlt (h.t1 q hq), h.t1, ⟨css, h.n2.step hx.size fun q hq hlt => keep q 2 (by omega) hlt hq⟩, hgr.step hx.size fun q hq hlt => keep q 3 (by omega) hlt hq,
    vs, h.o4.owS _ hx.size fun q hq hlt => keep q 4 (by omega) hlt (h.t4 q hq), by rw [h.l4, hkc], h.t4, fun j h1 h2 => ?_⟩
  obtain ⟨v, c, e, hn⟩ := h.n4 j h1 h2
  exact ⟨v, c, e, hn.step hx.size fun q hq hlt => keep q (5 + j) (by omega) hlt hq⟩
end
end Go.Proofs.Ytlbhidiliogflaa
namespace Go.Proofs.Ytlbhidiliogflaa
set_option linter.unusedSimpArgs false
set_option linter.unusedVariables false
open Go.RowKit

end Go.Proofs.Ytlbhidiliogflaa
namespace Go.Proofs.Ytlbhidiliogflaa
set_option linter.unusedSimpArgs false
set_option linter.unusedVariables false
open Go.RowKit

end Go.Proofs.Ytlbhidiliogflaa
namespace Go.Proofs.Ytlbhidiliogflaa
set_option linter.unusedSimpArgs false
set_option linter.unusedVariables false
open Go.RowKit

theorem SysO.kg {τ : Nat → Nat} {w w' : World} {vb vr vg vc : Value} {s : Sys} {g : Nat} (h : SysO τ w vb vr vg vc s) (hx : Kg w w' g) (hg : τ g = 0) : SysO τ w' vb vr vg vc s := by
  have keep : ∀ q t, t ≠ 0 → q < w.heap.size → τ q = t → w'.heap[q]? = w.heap[q]? := fun q t ht hq hτ => hx.block q hq fun e => ht (by rw [← hτ, Option.some.inj e, hg])
  obtain ⟨css, hr⟩ := h.rows
  obtain ⟨vs, c1, c2, c3, c4⟩ := h.cases
  refine ⟨h.box.owS _ hx.size fun q hq hlt => keep q 1 (by omega) hlt (h.boxT q hq), h.boxT, ⟨css, hr.step hx.size fun q hq hlt => keep q 2 (by omega) hlt hq⟩, h.graphs.step hx.size fun q hq hlt => keep q 3 (by omega) hlt hq,
    vs, c1.owS _ hx.size fun q hq hlt => keep q 4 (by omega) hlt (c3 q hq), c2, c3, fun j h1 h2 => ?_⟩
  obtain ⟨v, c, e, hn⟩ := c4 j h1 h2
  exact ⟨v, c, e, hn.step hx.size fun q hq hlt => keep q (5 + j) (by omega) hlt hq⟩
theorem SysO.kp {τ : Nat → Nat} {w w' : World} {vb vr vg vc : Value} {s : Sys} (h : SysO τ w vb vr vg vc s) (hk : Kp w w') (B : Nat) (ht : Tags B w τ) : SysO τ w' vb vr vg vc s :=
  h.kg (hk.kg w.heap.size) (by
    by_cases h0 : τ w.heap.size = 0
    · exact h0
    · have := (ht _ h0).2
      omega)
def zSys : Sys := ⟨[], [], [], []⟩
theorem zSys_v (w : World) : SysV w (.agg #[.slice none 0 0, .slice none 0 0, .slice none 0 0, .slice none 0 0]) zSys := ⟨none, 0, none, 0, none, 0, none, 0, rfl, Sl.nil _ _ _, Sl.nil _ _ _, Sl.nil _ _ _, Sl.nil _ _ _⟩
/-- a bound changed -/
theorem NL.bound {S : Nat → Prop} {w : World} {g n c : Nat} {css : List (Elm 2)} {xs : List Row} (h : NL rdRow 76 2 S w (.slice (some ⟨g, 0, none⟩) n c) css xs) (hn : n = xs.length) {j : Nat} (h1 : j < css.length) (h2 : j < xs.length) (m : Int) :
    NL rdRow 76 2 S (w.setCell ⟨g, j * 2 + 1, none⟩ (.int .i64 m)) (.slice (some ⟨g, 0, none⟩) n c) (css.set j (css[j].set 1 (.int .i64 m) rfl)) (xs.set j ⟨xs[j].terms, m⟩) := by
  have hl := h.len
  have own := h.own.setE (by omega) h1 (j := 1) (by omega) (u := .int .i64 m) rfl
  have hkg : Kg w (w.setCell ⟨g, j * 2 + 1, none⟩ (.int .i64 m)) g := (Kg.refl _ _).set (.inl rfl) _
  obtain ⟨T, hT, ho⟩ := h.els j h1 h2
  refine h.put rfl own hkg T (fun i hi => ⟨(hT i hi).1, (hT i hi).2.1, by rw [set_size]; exact (hT i hi).2.2⟩) ((ho.kg hkg fun hTg => (hT g hTg).2.1 rfl).imp fun w' hw' => ?_)
  obtain ⟨tv, hcs, ht⟩ := hw'
  refine ⟨tv, ?_, ht⟩
  show css[j].val.set 1 _ = _
  rw [hcs]
  rfl
end Go.Proofs.Ytlbhidiliogflaa
namespace Go.Proofs.Ytlbhidiliogflaa
set_option linter.unusedSimpArgs false
set_option linter.unusedVariables false
open Go.RowKit

theorem Bx.set4 {w : World} {b : Nat} {x0 x1 x2 x3 : Value} (h : Bx w b [x0, x1, x2, x3]) (u0 u1 u2 u3 : Value) : Bx ((((w.setCell ⟨b, 0, none⟩ u0).setCell ⟨b, 1, none⟩ u1).setCell ⟨b, 2, none⟩ u2).setCell ⟨b, 3, none⟩ u3) b [u0, u1, u2, u3] := by
  have h1 := (((h.set (j := 0) (by simp) u0).set (j := 1) (by simp) u1).set (j := 2) (by simp) u2).set (j := 3) (by simp) u3
  exact h1
theorem Kg.set4 (w : World) (b : Nat) (u0 u1 u2 u3 : Value) : Kg w ((((w.setCell ⟨b, 0, none⟩ u0).setCell ⟨b, 1, none⟩ u1).setCell ⟨b, 2, none⟩ u2).setCell ⟨b, 3, none⟩ u3) b :=
  ((((Kg.refl w b).set (p := ⟨b, 0, none⟩) (.inl rfl) _).set (p := ⟨b, 1, none⟩) (.inl rfl) _).set (p := ⟨b, 2, none⟩) (.inl rfl) _).set (p := ⟨b, 3, none⟩) (.inl rfl) _
end Go.Proofs.Ytlbhidiliogflaa
namespace Go.Proofs.Ytlbhidiliogflaa
set_option linter.unusedSimpArgs false
set_option linter.unusedVariables false
open Go.RowKit

section
variable {F : Fence} {n : Nat} {P : Program}
end
end Go.Proofs.Ytlbhidiliogflaa
namespace Go.Proofs.Ytlbhidiliogflaa
set_option linter.unusedSimpArgs false
set_option linter.unusedVariables false
open Go.RowKit
attribute [local go_sem] Oper.semAt_some

theorem Own.kb {α : Type} {enc : α → List Value} {e size base g b : Nat} {w w' : World} {v : Value} {l : List α} (h : Own enc e size base w v l) (k : Kb g b w w') (hg : g < base) (hb : b < base) : Own enc e size base w' v l :=
  h.owS w' k.size fun q hq hlt => k.block q hlt (by have := h.ge q hq; omega) (by have := h.ge q hq; omega)
end Go.Proofs.Ytlbhidiliogflaa
namespace Go.Proofs.Ytlbhidiliogflaa
set_option linter.unusedSimpArgs false
set_option linter.unusedVariables false
open Go.RowKit
attribute [local go_sem] Oper.semAt_some

end Go.Proofs.Ytlbhidiliogflaa
namespace Go.Proofs.Ytlbhidiliogflaa
set_option linter.unusedSimpArgs false
set_option linter.unusedVariables false
open Go.RowKit

/-- rows with further rows behind them -/
theorem NL.more {S U : Nat → Prop} {w w' : World} {v v' : Value} {css css2 : List (Elm 2)} {xs ys : List Row} (h : NL rdRow 76 2 S w v css xs) (own' : Own encC 76 2 0 w' v' (css ++ css2)) (hg : w.grownBy w' v.ownBlock) (hl : css2.length = ys.length) (hS : ∀ q, S q → U q)
    (hy : ∀ k (h1 : k < css2.length) (h2 : k < ys.length), ∃ T : Nat → Prop, (∀ i, T i → U i ∧ v.ownBlock ≠ some i ∧ i < w.heap.size) ∧ OwS T w fun w2 => rdRow w2 css2[k].val ys[k]) :
    OwS (fun q => U q ∨ v'.ownBlock = some q) w' fun w2 => Sl rdRow 2 w2 v' (xs ++ ys) := by
  intro w2 hs hk2
  have hlen := h.len
  have own2 := own'.owS w2 hs fun q hq hlt => hk2 q (.inr hq) hlt
  refine sl_of (own2.sl encC_len) (by simp [hlen, hl]) fun k h1 h2 => ?_
  by_cases hk : k < css.length
  · rw [List.getElem_append_left hk, List.getElem_append_left (by omega)]
    obtain ⟨T, hT, ho⟩ := h.els k hk (by omega)
    exact ((ho.step hg.size fun i hi hlt => hg.block i hlt (fun e => (hT i hi).2.1 e.symm)).step hs fun i hi hlt => hk2 i (.inl (hS i (hT i hi).1)) hlt).here
  · rw [List.getElem_append_right (by omega), List.getElem_append_right (by omega)]
    have h3 : k - css.length < css2.length := by simp at h1; omega
    obtain ⟨T, hT, ho⟩ := hy (k - css.length) h3 (by omega)
    have e : k - xs.length = k - css.length := by omega
    simp only [e]
    exact ((ho.step hg.size fun i hi hlt => hg.block i hlt (fun e => (hT i hi).2.1 e.symm)).step hs fun i hi hlt => hk2 i (.inl (hT i hi).1) hlt).here
/-- what Branch returns -/
def BranchR (s : Sys) (i : Int) : Sys × Int :=
  if validS s then (if 0 ≤ i ∧ i < s.cases.length then (if 1024 < s.rows.length + (s.cases.getD i.toNat []).length then (zSys, 8) else (⟨s.box, s.rows ++ s.cases.getD i.toNat [], s.graphs, []⟩, 0)) else (zSys, 2)) else (zSys, 1)
end Go.Proofs.Ytlbhidiliogflaa
