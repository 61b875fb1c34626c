
/-
How events, bases, records and messages open; how many numbers they make at most.
-/
import Derived.Test.YtmokpnkpfodppaaOpen
import Derived.Test.YtmokpnkpfodppaaNA
import Derived.Lib.SmallJoins
namespace Go.Proofs.Ytmokpnkpfodppaa
set_option linter.unusedSimpArgs false
set_option linter.unusedVariables false
open Go.ChangeShapes Go.WideShapes Go.ChangeAt Go.RowKit

/-! bulk -/
abbrev bulk {H : Type} (d : DataW H) : Nat := Rows.uptoBulk d
theorem bulk_one {H : Type} (d : DataW H) : 1 ≤ bulk d := by
  unfold bulk
  cases d with
  | lit l => cases l <;> simp [Rows.uptoBulk]
  | nil => simp [Rows.uptoBulk]
  | ptr d => simp [Rows.uptoBulk]
  | slice elems spare => simp [Rows.uptoBulk]
  | agg parts => simp [Rows.uptoBulk]
  | iface t d => simp [Rows.uptoBulk]
  | map entries => simp [Rows.uptoBulk]
  | held h => simp [Rows.uptoBulk]
theorem bulk_append {H : Type} (l r : List (DataW H)) : Rows.uptoBulkAll (l ++ r) = Rows.uptoBulkAll l + Rows.uptoBulkAll r := by
  induction l with
  | nil => simp [Rows.uptoBulkAll]
  | cons x l ih => simp only [List.cons_append, Rows.uptoBulkAll, ih]; omega
/-- the sum of the first n numbers -/
def bsum (f : Nat → Nat) : Nat → Nat
  | 0 => 0
  | n + 1 => bsum f n + f n
theorem bsum_congr {f g : Nat → Nat} : ∀ n, (∀ i, i < n → f i = g i) → bsum f n = bsum g n
  | 0, _ => rfl
  | n + 1, h => by simp only [bsum]; rw [bsum_congr n fun i hi => h i (by omega), h n (by omega)]
theorem bsum_shift (f : Nat → Nat) : ∀ n, bsum f (n + 1) = f 0 + bsum (fun i => f (i + 1)) n
  | 0 => by simp [bsum]
  | n + 1 => by
    have h := bsum_shift f n
    simp only [bsum] at h ⊢
    omega
theorem bulkAll_eq {H : Type} (l : List (DataW H)) : Rows.uptoBulkAll l = bsum (fun i => bulk (l.getD i .nil)) l.length := by
  induction l with
  | nil => simp [Rows.uptoBulkAll, bsum]
  | cons x l ih =>
    rw [List.length_cons, bsum_shift]
    simp only [Rows.uptoBulkAll, ih]
    rfl
theorem bulk_map {H α : Type} (g : α → Nat) (f : Nat → α) (D : Nat → DataW H) (r : List Nat) (h : ∀ i ∈ r, g (f i) ≤ bulk (D i)) : ((r.map f).map g).sum ≤ Rows.uptoBulkAll (r.map D) := by
  induction r with
  | nil => simp
  | cons i r ih =>
    have h1 := h i (by simp)
    have h2 := ih fun j hj => h j (by simp [hj])
    simp only [List.map_cons, List.sum_cons, Rows.uptoBulkAll]
    unfold bulk at h1
    omega
theorem numL_len {α : Type} (f : α → List Int) (l : List α) : (numL f l).length = 1 + (l.map fun x => (f x).length).sum := by
  unfold numL
  rw [List.length_cons, List.length_flatMap]
  omega
section
variable {H : Type} {enc : TypeId × Value → H} {P : Program} {w : World} {base : Nat} {spare : Nat → Bool} {held : Bool}
theorem opF {t : Nat} {fs : Array Field} (ht : P.underlying t = some (.struct fs)) {n : Nat} {cs : List Value} {y : DataW H × List MemPlace} (h : DataW.trod enc P w base spare held n t cs = some y) :
    cs.length = P.cellsOf t ∧ ∃ D : Nat → DataW H, bsum (fun i => bulk (D i)) fs.size ≤ bulk y.1 ∧ ∀ (i : Nat) (f : Field) (sz : Nat), fs[i]? = some f → P.cellsOf f.type = sz → ∃ m p, DataW.trod enc P w base spare held m f.type ((cs.drop f.offset).take sz) = some (D i, p) := by
  obtain ⟨xs, m, -, rfl, hlen, hxl, hf⟩ := DataW.trod_struct ht h
  refine ⟨hlen, fun i => (xs.map (·.1)).getD i .nil, ?_, fun i f sz hi hs => ?_⟩
  · have h1 := bulkAll_eq (xs.map (·.1))
    rw [List.length_map, hxl] at h1
    simp only [bulk, Rows.uptoBulk] at h1 ⊢
    rw [h1]
    first | exact Nat.le_succ _ | (simp only [Array.length_toList]; exact Nat.le_succ _)
  · have h1 := hf i f hi
    have hil : i < fs.size := (Array.getElem?_eq_some_iff.1 hi).1
    have hil' : i < xs.length := by omega
    rw [hs, List.getElem?_eq_getElem hil'] at h1
    refine ⟨m, (xs[i]).2, ?_⟩
    simp only [List.getD_eq_getElem?_getD, List.getElem?_map, List.getElem?_eq_getElem hil', Option.map_some, Option.getD_some]
    exact h1
theorem opI {t : Nat} {u : Value} {d : DataW H} (ht : P.underlying t = some (.int .i64)) (h : ∃ m p, DataW.trod enc P w base spare held m t [u] = some (d, p)) : ∃ x : Int, u = .int .i64 x := by
  obtain ⟨m, p, h⟩ := h
  obtain ⟨x, hx, -⟩ := DataW.trod_int ht h
  injection hx with hx
  exact ⟨x, hx⟩
theorem opSb {α : Type} [Inhabited α] {R : Rd α} {g : α → Nat} {t e size : Nat} (ht : P.underlying t = some (.slice e)) (hC : P.cellsOf e = size) (hp : 0 < size)
    (hel : ∀ n cs y, DataW.trod enc P w base spare held n e cs = some y → ∃ x, R w cs x ∧ g x ≤ bulk y.1) {v : Value} {fuel : Nat} {y : DataW H × List MemPlace} (h : DataW.trod enc P w base spare held fuel t [v] = some y) :
    ∃ l : List α, Sl R size w v l ∧ 1 + (l.map g).sum ≤ bulk y.1 := by
  rcases Deep.open_slice ht h with ⟨hv, hy⟩ | ⟨a, len, cap, m, n, D, Pl, hcs, hb, hl, hm, hmm, hy, hi⟩
  · injection hv with hv
    subst hv
    subst hy
    exact ⟨[], Sl.nil _ _ _, by simp [bulk, Rows.uptoBulk]⟩
  · injection hcs with hv
    subst hv
    subst hy
    have hlm : len ≤ m := by rw [hmm]; split <;> omega
    have key : ∀ i, i < len → ∃ x : α, g x ≤ bulk (D i) ∧ ∃ cs : List Value, cs.length = size ∧ a.block < w.heap.size ∧ (∀ j u, cs[j]? = some u → w.cell? ⟨a.block, a.off + i * size + j, none⟩ = some u) ∧ R w cs x := by
      intro i hil
      obtain ⟨cs, hc, htr⟩ := hi i (by omega)
      rw [hC] at hc
      obtain ⟨-, hlen, hat⟩ := World.cells?_some hc
      obtain ⟨x, hx, hgx⟩ := hel n cs _ htr
      have h0 := hat 0 hp
      have hsome : ∃ u, cs[0]? = some u := ⟨cs[0], List.getElem?_eq_getElem (by omega)⟩
      obtain ⟨u0, hu0⟩ := hsome
      rw [hu0] at h0
      have hblk : a.block < w.heap.size := by
        have h1 := block_lt_of_cell h0
        have e1 : ((a.add (i * size)).add 0).block = a.block := by unfold Addr.add; split <;> split <;> rfl
        rw [e1] at h1
        exact h1
      refine ⟨x, hgx, cs, hlen, hblk, fun j u hj => ?_, hx⟩
      have hjl : j < size := by rw [← hlen]; exact (List.getElem?_eq_some_iff.1 hj).1
      have h2 := hat j hjl
      rw [hj, Deep.add_add] at h2
      rw [Deep.add_add] at h0
      have hsp : i * size + j = 0 → a.spot = none := fun hz => by
        have : i * size + 0 = 0 := by omega
        rw [this] at h0
        exact spot_of_cell (show w.cell? a = some u0 from by simpa [Addr.add] using h0)
      rw [addr_of_cell h2 hsp] at h2
      rw [← h2, Nat.add_assoc]
    obtain ⟨f, hf⟩ := Deep.choose_lt (p := fun i x => g x ≤ bulk (D i) ∧ ∃ cs : List Value, cs.length = size ∧ a.block < w.heap.size ∧ (∀ j u, cs[j]? = some u → w.cell? ⟨a.block, a.off + i * size + j, none⟩ = some u) ∧ R w cs x) key
    have hsp0 : 0 < len → a.spot = none := fun h0 => by
      obtain ⟨cs, hc, -⟩ := hi 0 (by omega)
      rw [hC] at hc
      obtain ⟨-, hlen, hat⟩ := World.cells?_some hc
      have h1 := hat 0 hp
      rw [List.getElem?_eq_getElem (by omega)] at h1
      exact spot_of_cell (show w.cell? a = some _ from by simpa [Addr.add] using h1)
    refine ⟨(List.range len).map f, ⟨some a, cap, by simp, by simpa using hl, by unfold maxLen at hm; exact hm, fun k hk => ?_⟩, ?_⟩
    · have hk' : k < len := by simpa using hk
      obtain ⟨-, cs, h1, h2, h3, h4⟩ := hf k hk'
      refine ⟨a.block, a.off, cs, ?_, h2, h1, h3, by simpa using h4⟩
      have := hsp0 (by omega)
      obtain ⟨b, o, s⟩ := a
      dsimp only at this
      rw [this]
    · have hb := bulk_map g f D (List.range len) fun i hi' => (hf i (List.mem_range.1 hi')).1
      simp only [bulk, Rows.uptoBulk]
      omega
theorem opSL {α : Type} [Inhabited α] {R : Rd α} (f : α → List Int) {t e size : Nat} (ht : P.underlying t = some (.slice e)) (hC : P.cellsOf e = size) (hp : 0 < size)
    (hel : ∀ n cs y, DataW.trod enc P w base spare held n e cs = some y → ∃ x, R w cs x ∧ (f x).length ≤ bulk y.1) {v : Value} {fuel : Nat} {y : DataW H × List MemPlace} (h : DataW.trod enc P w base spare held fuel t [v] = some y) :
    ∃ l : List α, Sl R size w v l ∧ (numL f l).length ≤ bulk y.1 := by
  obtain ⟨l, h1, h2⟩ := opSb (g := fun x => (f x).length) ht hC hp hel h
  exact ⟨l, h1, by rw [numL_len]; exact h2⟩
theorem opIs {n : Nat} {v : Value} {y : DataW H × List MemPlace} (h : DataW.trod enc Try.prog w base spare held n 24 [v] = some y) : ∃ l, Ints w v l ∧ (numIs l).length ≤ bulk y.1 :=
  opSL numI Try.underlying24 (by kernel_rfl) (by omega) (fun n cs y h => by obtain ⟨x, hx⟩ := opInt Try.underlying3 n cs y h; exact ⟨x, hx, bulk_one _⟩) h
theorem opB {t : Nat} {u : Value} {d : DataW H} (ht : Try.prog.underlying t = some .bool) (h : ∃ m p, DataW.trod enc Try.prog w base spare held m t [u] = some (d, p)) : ∃ x : Bool, u = .bool x := by
  obtain ⟨m, p, h⟩ := h
  obtain ⟨x, hx, -⟩ := DataW.trod_bool ht h
  injection hx with hx
  exact ⟨x, hx⟩
instance : Inhabited Need := ⟨⟨0, 0, 0, 0⟩⟩
instance : Inhabited Mark := ⟨⟨0, 0, 0, 0⟩⟩
instance : Inhabited Span := ⟨⟨0, 0, 0⟩⟩
instance : Inhabited Merged := ⟨⟨false, false, []⟩⟩
instance : Inhabited Event := ⟨⟨0, 0, 0, [], 0, 0, ⟨0, 0, 0, 0⟩, 0, 0, 0⟩⟩
instance : Inhabited Entry := ⟨⟨0, 0, 0, 0, 0, []⟩⟩
instance : Inhabited Base := ⟨⟨[], 0, [], [], [], [], []⟩⟩
instance : Inhabited Record := ⟨⟨0, default, default, 0, 0, 0, default⟩⟩
theorem opSpan (n : Nat) (cs : List Value) (y : DataW H × List MemPlace) (h : DataW.trod enc Try.prog w base spare held n 84 cs = some y) : ∃ x : Span, Pl encSpan w cs x ∧ (numSpan x).length ≤ bulk y.1 := by
  obtain ⟨hl, D, hs, hf⟩ := opF Try.underlying84 h
  rw [show Try.prog.cellsOf 84 = 3 by kernel_rfl] at hl
  match cs, hl with
  | [u0, u1, u2], _ =>
    obtain ⟨a, rfl⟩ := opI Try.underlying3 (u := u0) (hf 0 _ 1 rfl (by kernel_rfl))
    obtain ⟨b, rfl⟩ := opI Try.underlying3 (u := u1) (hf 1 _ 1 rfl (by kernel_rfl))
    obtain ⟨c, rfl⟩ := opI Try.underlying3 (u := u2) (hf 2 _ 1 rfl (by kernel_rfl))
    refine ⟨⟨a, b, c⟩, rfl, ?_⟩
    simp only [bsum, List.size_toArray, List.length_cons, List.length_nil] at hs
    have q0 := bulk_one (D 0)
    have q1 := bulk_one (D 1)
    have q2 := bulk_one (D 2)
    simp only [numEvent, numNeed, numMark, numSpan, numMerged, numBase, numAsk, numEntry, numMessage, List.length_append, List.length_cons, List.length_nil]
    first | omega | (simp only [numIs] at *; omega)
theorem opRight {n : Nat} {u0 u1 u2 : Value} {y : DataW H × List MemPlace} (h : DataW.trod enc Try.prog w base spare held n 78 [u0, u1, u2] = some y) : ∃ a b c : Int, u0 = .int .i64 a ∧ u1 = .int .i64 b ∧ u2 = .int .i64 c ∧ 3 ≤ bulk y.1 := by
  obtain ⟨hl, D, hs, hf⟩ := opF Try.underlying78 h
  obtain ⟨a, rfl⟩ := opI Try.underlying3 (u := u0) (hf 0 _ 1 rfl (by kernel_rfl))
  obtain ⟨b, rfl⟩ := opI Try.underlying3 (u := u1) (hf 1 _ 1 rfl (by kernel_rfl))
  obtain ⟨c, rfl⟩ := opI Try.underlying3 (u := u2) (hf 2 _ 1 rfl (by kernel_rfl))
  simp only [bsum, List.size_toArray, List.length_cons, List.length_nil] at hs
  have q0 := bulk_one (D 0)
  have q1 := bulk_one (D 1)
  have q2 := bulk_one (D 2)
  exact ⟨a, b, c, rfl, rfl, rfl, by omega⟩
theorem opNeed (n : Nat) (cs : List Value) (y : DataW H × List MemPlace) (h : DataW.trod enc Try.prog w base spare held n 80 cs = some y) : ∃ x : Need, Pl encNeed w cs x ∧ (numNeed x).length ≤ bulk y.1 := by
  obtain ⟨hl, D, hs, hf⟩ := opF Try.underlying80 h
  rw [show Try.prog.cellsOf 80 = 4 by kernel_rfl] at hl
  match cs, hl with
  | [u0, u1, u2, u3], _ =>
    obtain ⟨m0, z0, t0⟩ := hf 0 _ 3 rfl (by kernel_rfl)
    obtain ⟨a, b, c, rfl, rfl, rfl, l0⟩ := opRight (u0 := u0) (u1 := u1) (u2 := u2) t0
    dsimp only at l0
    obtain ⟨d, rfl⟩ := opI Try.underlying3 (u := u3) (hf 1 _ 1 rfl (by kernel_rfl))
    refine ⟨⟨a, b, c, d⟩, rfl, ?_⟩
    simp only [bsum, List.size_toArray, List.length_cons, List.length_nil] at hs
    have q0 := bulk_one (D 0)
    have q1 := bulk_one (D 1)
    simp only [numEvent, numNeed, numMark, numSpan, numMerged, numBase, numAsk, numEntry, numMessage, List.length_append, List.length_cons, List.length_nil]
    first | omega | (simp only [numIs] at *; omega)
theorem opNeeds {v : Value} {n : Nat} {y : DataW H × List MemPlace} (h : DataW.trod enc Try.prog w base spare held n 29 [v] = some y) : ∃ l, Needs w v l ∧ (numL numNeed l).length ≤ bulk y.1 :=
  opSL numNeed Try.underlying29 (size := 4) (by kernel_rfl) (by omega) opNeed h
theorem opSpans {v : Value} {n : Nat} {y : DataW H × List MemPlace} (h : DataW.trod enc Try.prog w base spare held n 26 [v] = some y) : ∃ l, Spans w v l ∧ (numL numSpan l).length ≤ bulk y.1 :=
  opSL numSpan Try.underlying26 (size := 3) (by kernel_rfl) (by omega) opSpan h
theorem one_slice {t e n : Nat} {cs : List Value} {y : DataW H × List MemPlace} (ht : Try.prog.underlying t = some (.slice e)) (h : DataW.trod enc Try.prog w base spare held n t cs = some y) : ∃ v, cs = [v] := by
  rcases Deep.open_slice ht h with ⟨hv, -⟩ | ⟨a, len, cap, m, n, D, Pl, hcs, -⟩
  · exact ⟨_, hv⟩
  · exact ⟨_, hcs⟩
theorem opIsC (n : Nat) (cs : List Value) (y : DataW H × List MemPlace) (h : DataW.trod enc Try.prog w base spare held n 24 cs = some y) : ∃ x : List Int, rdInts w cs x ∧ (numIs x).length ≤ bulk y.1 := by
  obtain ⟨v, rfl⟩ := one_slice Try.underlying24 h
  obtain ⟨l, hl, hb⟩ := opIs h
  exact ⟨l, ⟨v, rfl, hl⟩, hb⟩
theorem opEvent (n : Nat) (cs : List Value) (y : DataW H × List MemPlace) (h : DataW.trod enc Try.prog w base spare held n 82 cs = some y) : ∃ x : Event, rdEvent w cs x ∧ (numEvent x).length ≤ bulk y.1 := by
  obtain ⟨hl, D, hs, hf⟩ := opF Try.underlying82 h
  rw [show Try.prog.cellsOf 82 = 13 by kernel_rfl] at hl
  match cs, hl with
  | [u0, u1, u2, u3, u4, u5, u6, u7, u8, u9, u10, u11, u12], _ =>
    obtain ⟨x0, rfl⟩ := opI Try.underlying3 (u := u0) (hf 0 _ 1 rfl (by kernel_rfl))
    obtain ⟨x1, rfl⟩ := opI Try.underlying3 (u := u1) (hf 1 _ 1 rfl (by kernel_rfl))
    obtain ⟨x2, rfl⟩ := opI Try.underlying3 (u := u2) (hf 2 _ 1 rfl (by kernel_rfl))
    obtain ⟨m3, z3, t3⟩ := hf 3 _ 1 rfl (by kernel_rfl)
    obtain ⟨x3, hx3, lx3⟩ := opIs (v := u3) t3
    dsimp only at lx3
    obtain ⟨x4, rfl⟩ := opI Try.underlying3 (u := u4) (hf 4 _ 1 rfl (by kernel_rfl))
    obtain ⟨x5, rfl⟩ := opI Try.underlying3 (u := u5) (hf 5 _ 1 rfl (by kernel_rfl))
    obtain ⟨m6, z6, t6⟩ := hf 6 _ 4 rfl (by kernel_rfl)
    obtain ⟨g, hg, lg⟩ := opNeed _ [u6, u7, u8, u9] _ t6
    simp only [numNeed, List.length_cons, List.length_nil] at lg
    unfold Pl encNeed at hg
    simp only [List.cons.injEq, and_true] at hg
    obtain ⟨rfl, rfl, rfl, rfl⟩ := hg
    obtain ⟨x7, rfl⟩ := opI Try.underlying3 (u := u10) (hf 7 _ 1 rfl (by kernel_rfl))
    obtain ⟨x8, rfl⟩ := opI Try.underlying3 (u := u11) (hf 8 _ 1 rfl (by kernel_rfl))
    obtain ⟨x9, rfl⟩ := opI Try.underlying3 (u := u12) (hf 9 _ 1 rfl (by kernel_rfl))
    refine ⟨⟨x0, x1, x2, x3, x4, x5, g, x7, x8, x9⟩, ⟨u3, rfl, hx3⟩, ?_⟩
    simp only [bsum, List.size_toArray, List.length_cons, List.length_nil] at hs
    have q0 := bulk_one (D 0)
    have q1 := bulk_one (D 1)
    have q2 := bulk_one (D 2)
    have q3 := bulk_one (D 3)
    have q4 := bulk_one (D 4)
    have q5 := bulk_one (D 5)
    have q6 := bulk_one (D 6)
    have q7 := bulk_one (D 7)
    have q8 := bulk_one (D 8)
    have q9 := bulk_one (D 9)
    simp only [numEvent, numNeed, numMark, numSpan, numMerged, numBase, numAsk, numEntry, numMessage, List.length_append, List.length_cons, List.length_nil]
    first | omega | (simp only [numIs] at *; omega)
theorem opEntry (n : Nat) (cs : List Value) (y : DataW H × List MemPlace) (h : DataW.trod enc Try.prog w base spare held n 89 cs = some y) : ∃ x : Entry, rdEntry w cs x ∧ (numEntry x).length ≤ bulk y.1 := by
  obtain ⟨hl, D, hs, hf⟩ := opF Try.underlying89 h
  rw [show Try.prog.cellsOf 89 = 6 by kernel_rfl] at hl
  match cs, hl with
  | [u0, u1, u2, u3, u4, u5], _ =>
    obtain ⟨x0, rfl⟩ := opI Try.underlying3 (u := u0) (hf 0 _ 1 rfl (by kernel_rfl))
    obtain ⟨x1, rfl⟩ := opI Try.underlying3 (u := u1) (hf 1 _ 1 rfl (by kernel_rfl))
    obtain ⟨x2, rfl⟩ := opI Try.underlying3 (u := u2) (hf 2 _ 1 rfl (by kernel_rfl))
    obtain ⟨x3, rfl⟩ := opI Try.underlying3 (u := u3) (hf 3 _ 1 rfl (by kernel_rfl))
    obtain ⟨x4, rfl⟩ := opI Try.underlying3 (u := u4) (hf 4 _ 1 rfl (by kernel_rfl))
    obtain ⟨m5, z5, t5⟩ := hf 5 _ 1 rfl (by kernel_rfl)
    obtain ⟨x5, hx5, lx5⟩ := opIs (v := u5) t5
    dsimp only at lx5
    refine ⟨⟨x0, x1, x2, x3, x4, x5⟩, ⟨u5, rfl, hx5⟩, ?_⟩
    simp only [bsum, List.size_toArray, List.length_cons, List.length_nil] at hs
    have q0 := bulk_one (D 0)
    have q1 := bulk_one (D 1)
    have q2 := bulk_one (D 2)
    have q3 := bulk_one (D 3)
    have q4 := bulk_one (D 4)
    have q5 := bulk_one (D 5)
    simp only [numEvent, numNeed, numMark, numSpan, numMerged, numBase, numAsk, numEntry, numMessage, List.length_append, List.length_cons, List.length_nil]
    first | omega | (simp only [numIs] at *; omega)
theorem opEvents {v : Value} {n : Nat} {y : DataW H × List MemPlace} (h : DataW.trod enc Try.prog w base spare held n 25 [v] = some y) : ∃ l, Events w v l ∧ (numL numEvent l).length ≤ bulk y.1 :=
  opSL numEvent Try.underlying25 (size := 13) (by kernel_rfl) (by omega) opEvent h
theorem opEntries {v : Value} {n : Nat} {y : DataW H × List MemPlace} (h : DataW.trod enc Try.prog w base spare held n 32 [v] = some y) : ∃ l, Entries w v l ∧ (numL numEntry l).length ≤ bulk y.1 :=
  opSL numEntry Try.underlying32 (size := 6) (by kernel_rfl) (by omega) opEntry h
/-- the numbers of all parts of a record -/
def recLen (x : Record) : Nat := (numEvent x.event).length + (numBase x.base).length + (numEntry x.entry).length
theorem opPriority {n : Nat} {u0 u1 u2 u3 : Value} {y : DataW H × List MemPlace} (h : DataW.trod enc Try.prog w base spare held n 28 [u0, u1, u2, u3] = some y) : ∃ a b c d : Int, u0 = .int .i64 a ∧ u1 = .int .i64 b ∧ u2 = .int .i64 c ∧ u3 = .int .i64 d ∧ 4 ≤ bulk y.1 := by
  obtain ⟨hl, D, hs, hf⟩ := opF Try.underlying28 h
  obtain ⟨a, rfl⟩ := opI Try.underlying3 (u := u0) (hf 0 _ 1 rfl (by kernel_rfl))
  obtain ⟨b, rfl⟩ := opI Try.underlying3 (u := u1) (hf 1 _ 1 rfl (by kernel_rfl))
  obtain ⟨c, rfl⟩ := opI Try.underlying3 (u := u2) (hf 2 _ 1 rfl (by kernel_rfl))
  obtain ⟨d, rfl⟩ := opI Try.underlying3 (u := u3) (hf 3 _ 1 rfl (by kernel_rfl))
  simp only [bsum, List.size_toArray, List.length_cons, List.length_nil] at hs
  have q0 := bulk_one (D 0)
  have q1 := bulk_one (D 1)
  have q2 := bulk_one (D 2)
  have q3 := bulk_one (D 3)
  exact ⟨a, b, c, d, rfl, rfl, rfl, rfl, by omega⟩
theorem opAsk (n : Nat) (cs : List Value) (y : DataW H × List MemPlace) (h : DataW.trod enc Try.prog w base spare held n 31 cs = some y) : ∃ x : Ask, rdAsk w cs x ∧ (numAsk x).length ≤ bulk y.1 := by
  obtain ⟨hl, D, hs, hf⟩ := opF Try.underlying31 h
  rw [show Try.prog.cellsOf 31 = 6 by kernel_rfl] at hl
  match cs, hl with
  | [u0, u1, u2, u3, u4, u5], _ =>
    obtain ⟨x0, rfl⟩ := opI Try.underlying3 (u := u0) (hf 0 _ 1 rfl (by kernel_rfl))
    obtain ⟨m1, z1, t1⟩ := hf 1 _ 4 rfl (by kernel_rfl)
    obtain ⟨a, b, c, d, rfl, rfl, rfl, rfl, l1⟩ := opPriority (u0 := u1) (u1 := u2) (u2 := u3) (u3 := u4) t1
    dsimp only at l1
    obtain ⟨m5, z5, t5⟩ := hf 2 _ 1 rfl (by kernel_rfl)
    obtain ⟨x5, hx5, lx5⟩ := opNeeds (v := u5) t5
    dsimp only at lx5
    refine ⟨⟨x0, a, b, c, d, x5⟩, ⟨u5, rfl, hx5⟩, ?_⟩
    simp only [bsum, List.size_toArray, List.length_cons, List.length_nil] at hs
    have q0 := bulk_one (D 0)
    have q1 := bulk_one (D 1)
    have q2 := bulk_one (D 2)
    simp only [numEvent, numNeed, numMark, numSpan, numMerged, numBase, numAsk, numEntry, numMessage, List.length_append, List.length_cons, List.length_nil]
    first | omega | (simp only [numIs] at *; omega)
theorem opMessage (n : Nat) (cs : List Value) (y : DataW H × List MemPlace) (h : DataW.trod enc Try.prog w base spare held n 34 cs = some y) : ∃ x : Message, MessageV w (.agg cs.toArray) x ∧ (numMessage x).length ≤ bulk y.1 := by
  obtain ⟨hl, D, hs, hf⟩ := opF Try.underlying34 h
  rw [show Try.prog.cellsOf 34 = 18 by kernel_rfl] at hl
  match cs, hl with
  | [u0, u1, u2, u3, u4, u5, u6, u7, u8, u9, u10, u11, u12, u13, u14, u15, u16, u17], _ =>
    obtain ⟨x0, rfl⟩ := opI Try.underlying3 (u := u0) (hf 0 _ 1 rfl (by kernel_rfl))
    obtain ⟨x1, rfl⟩ := opI Try.underlying3 (u := u1) (hf 1 _ 1 rfl (by kernel_rfl))
    obtain ⟨x2, rfl⟩ := opI Try.underlying3 (u := u2) (hf 2 _ 1 rfl (by kernel_rfl))
    obtain ⟨m3, z3, t3⟩ := hf 3 _ 1 rfl (by kernel_rfl)
    obtain ⟨x3, hx3, lx3⟩ := opIs (v := u3) t3
    dsimp only at lx3
    obtain ⟨m4, z4, t4⟩ := hf 4 _ 1 rfl (by kernel_rfl)
    obtain ⟨x4, hx4, lx4⟩ := opEvents (v := u4) t4
    dsimp only at lx4
    obtain ⟨m5, z5, t5⟩ := hf 5 _ 1 rfl (by kernel_rfl)
    obtain ⟨x5, hx5, lx5⟩ := opSpans (v := u5) t5
    dsimp only at lx5
    obtain ⟨m6, z6, t6⟩ := hf 6 _ 6 rfl (by kernel_rfl)
    obtain ⟨⟨a0, a1, a2, a3, a4, a5⟩, ⟨va, ha, hA⟩, lA⟩ := opAsk _ [u6, u7, u8, u9, u10, u11] _ t6
    simp only [numAsk, List.length_append, List.length_cons, List.length_nil] at lA
    simp only [List.cons.injEq, and_true] at ha
    obtain ⟨rfl, rfl, rfl, rfl, rfl, rfl⟩ := ha
    obtain ⟨x12, rfl⟩ := opI Try.underlying3 (u := u12) (hf 7 _ 1 rfl (by kernel_rfl))
    obtain ⟨x13, rfl⟩ := opI Try.underlying3 (u := u13) (hf 8 _ 1 rfl (by kernel_rfl))
    obtain ⟨x14, rfl⟩ := opI Try.underlying3 (u := u14) (hf 9 _ 1 rfl (by kernel_rfl))
    obtain ⟨x15, rfl⟩ := opI Try.underlying3 (u := u15) (hf 10 _ 1 rfl (by kernel_rfl))
    obtain ⟨x16, rfl⟩ := opB Try.underlying4 (u := u16) (hf 11 _ 1 rfl (by kernel_rfl))
    obtain ⟨m17, z17, t17⟩ := hf 12 _ 1 rfl (by kernel_rfl)
    obtain ⟨x17, hx17, lx17⟩ := opEntries (v := u17) t17
    dsimp only at lx17
    refine ⟨⟨x0, x1, x2, x3, x4, x5, ⟨a0, a1, a2, a3, a4, a5⟩, x12, x13, x14, x15, x16, x17⟩, ⟨_, _, _, _, _, rfl, hx3, hx4, hx5, hA, hx17⟩, ?_⟩
    simp only [bsum, List.size_toArray, List.length_cons, List.length_nil] at hs
    have q0 := bulk_one (D 0)
    have q1 := bulk_one (D 1)
    have q2 := bulk_one (D 2)
    have q3 := bulk_one (D 3)
    have q4 := bulk_one (D 4)
    have q5 := bulk_one (D 5)
    have q6 := bulk_one (D 6)
    have q7 := bulk_one (D 7)
    have q8 := bulk_one (D 8)
    have q9 := bulk_one (D 9)
    have q10 := bulk_one (D 10)
    have q11 := bulk_one (D 11)
    have q12 := bulk_one (D 12)
    simp only [numEvent, numNeed, numMark, numSpan, numMerged, numBase, numAsk, numEntry, numMessage, List.length_append, List.length_cons, List.length_nil]
    first | omega | (simp only [numIs] at *; omega)
end
end Go.Proofs.Ytmokpnkpfodppaa
