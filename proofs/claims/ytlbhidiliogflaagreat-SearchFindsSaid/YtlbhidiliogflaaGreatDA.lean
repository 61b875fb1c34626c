/-
Graphs: what opens one, and its edges: the walks.
A row of the call's own whose head was cut off ('q = q[1:]'): what it reads, and what an append does. Nothing here speaks of the program.
Graphs: the first path (breadth first): the walk.
Graphs: the first path is there exactly if the vertex can be reached: plain facts.
-/
import Derived.Test.YtlbhidiliogflaaGreatGM
import Derived.Deep.Cut
import Derived.Deep.LoopGhost
namespace Go.Proofs.YtlbhidiliogflaaGreat
set_option linter.unusedSimpArgs false
set_option linter.unusedVariables false
open Go.RowKit

def openB (s : Int) (len : Nat) : Bool := decide (1 ≤ s) && decide (s ≤ 6) && decide ((len : Int) = s * s)
/-- whether there is an edge -/
def hasE (n : Nat) (es : List Bool) (a b : Nat) : Bool := es.getD (a * n + b) false
set_option maxHeartbeats 1600000 in
theorem dOpen_any (s : Int) (A : Option Addr) (len c : Nat) (w : World) (hl : len ≤ 9223372036854775807) : Calls Tryz.prog 95 #[.int .i64 s, .slice A len c] w fun e w' => e = .returned (.tuple #[.agg #[.int .i64 s, .slice A len c], .bool (openB s len)]) ∧ Kp w w' := by
  go_enter Tryz.func95, Tryz.ntmps95
  by_cases h1 : 1 ≤ s
  · have e1 : decide (1 ≤ s) = true := decide_eq_true h1
    by_cases h2 : s ≤ 6
    · have e2 : decide (s ≤ 6) = true := decide_eq_true h2
      have hs : s = 1 ∨ s = 2 ∨ s = 3 ∨ s = 4 ∨ s = 5 ∨ s = 6 := by omega
      have hw : wrap64 (s * s) = s * s := by rcases hs with rfl | rfl | rfl | rfl | rfl | rfl <;> decide +kernel
      have hw2 : IntKind.i64.wrap (s * s) = s * s := by rcases hs with rfl | rfl | rfl | rfl | rfl | rfl <;> decide +kernel
      clear hs
      by_cases h3 : (len : Int) = s * s
      · have e3 : ((len : Int) == s * s) = true := by simpa using h3
        have HF : Hid (openB s len = true) := hid (by simp [openB, h1, h2, h3])
        replace h3 := hid h3
        go_wp2
        refine bodyPost_ret (results_cell_bx2 rfl _ _ w.heap.size [.int .i64 s, .slice A len c] _ rfl (Bx.new w #[.int .i64 s, .slice A len c] 135).range Tryz.underlying135 rfl (by kernel_rfl)) rfl ?_
        exact ⟨by rw [HF.out]; rfl, (Kp.refl w).alloc _⟩
      · have e3 : ((len : Int) == s * s) = false := by simpa using h3
        have HF : Hid (openB s len = false) := hid (by simp [openB, h3])
        go_wp2
        refine bodyPost_ret (results_cell_bx2 rfl _ _ w.heap.size [.int .i64 s, .slice A len c] _ rfl (Bx.new w #[.int .i64 s, .slice A len c] 135).range Tryz.underlying135 rfl (by kernel_rfl)) rfl ?_
        exact ⟨by rw [HF.out]; rfl, (Kp.refl w).alloc _⟩
    · have e2 : decide (s ≤ 6) = false := decide_eq_false h2
      have HF : Hid (openB s len = false) := hid (by simp [openB, h2])
      go_wp2
      refine bodyPost_ret (results_cell_bx2 rfl _ _ w.heap.size [.int .i64 s, .slice A len c] _ rfl (Bx.new w #[.int .i64 s, .slice A len c] 135).range Tryz.underlying135 rfl (by kernel_rfl)) rfl ?_
      exact ⟨by rw [HF.out]; rfl, (Kp.refl w).alloc _⟩
  · have e1 : decide (1 ≤ s) = false := decide_eq_false h1
    have HF : Hid (openB s len = false) := hid (by simp [openB, h1])
    go_wp2
    refine bodyPost_ret (results_cell_bx2 rfl _ _ w.heap.size [.int .i64 s, .slice A len c] _ rfl (Bx.new w #[.int .i64 s, .slice A len c] 135).range Tryz.underlying135 rfl (by kernel_rfl)) rfl ?_
    exact ⟨by rw [HF.out]; rfl, (Kp.refl w).alloc _⟩
theorem dg_idx_lt {n a b : Nat} (ha : a < n) (hb : b < n) : a * n + b < n * n := by
  have h1 : (a + 1) * n ≤ n * n := Nat.mul_le_mul_right n ha
  rw [Nat.add_mul, Nat.one_mul] at h1
  omega
/-- a graph of n vertices -/
def DgGrV (w : World) (v : Value) (n : Nat) (es : List Bool) : Prop := ∃ vb, v = .agg #[.int .i64 (n : Int), vb] ∧ Bools w vb es ∧ es.length = n * n ∧ 1 ≤ n ∧ n ≤ 6
theorem DgGrV.kp {w w' : World} {v : Value} {n : Nat} {es : List Bool} (h : DgGrV w v n es) (k : Kp w w') : DgGrV w' v n es := by
  obtain ⟨vb, e, h1, h2⟩ := h
  exact ⟨vb, e, h1.keep (pl_stable _) k, h2⟩
set_option maxHeartbeats 1600000 in
theorem dHas_any (v : Value) (n : Nat) (es : List Bool) (a b : Nat) (w : World) (hg : DgGrV w v n es) (ha : a < n) (hb : b < n) : Calls Tryz.prog 104 #[v, .int .i64 (a : Int), .int .i64 (b : Int)] w fun e w' => e = .returned (.bool (hasE n es a b)) ∧ Kp w w' := by
  obtain ⟨vb, rfl, hes, hl, h1, h6⟩ := hg
  obtain ⟨A, c, rfl, hc, hm⟩ := hes.form
  have hk : a * n + b < es.length := by rw [hl]; exact dg_idx_lt ha hb
  obtain ⟨g, o, rfl, hg, i0⟩ := hes.bools hk
  have HF : Hid (hasE n es a b = es[a * n + b]) := hid (by unfold hasE; rw [List.getD_eq_getElem?_getD, List.getElem?_eq_getElem hk]; rfl)
  have h36 : a * n ≤ 36 := by
    have := Nat.mul_le_mul (Nat.le_of_lt (Nat.lt_of_lt_of_le ha h6)) h6
    omega
  have hp : (a : Int) * (n : Int) = ((a * n : Nat) : Int) := by push_cast; rfl
  generalize es[a * n + b] = x at *
  rw [HF.out]
  generalize a * n = m at *
  have hkl : (m : Int) + (b : Int) < (es.length : Int) := by omega
  have hbb : b ≤ 6 := by omega
  have hz := hid hl
  have hB := Bx.new w #[.int .i64 (n : Int), .slice (some ⟨g, o, none⟩) es.length c] 135
  have k0 := (Kp.refl w).alloc (.cells #[.int .i64 (n : Int), .slice (some ⟨g, o, none⟩) es.length c] 135)
  have c0 := hB.cell (j := 0) rfl
  have c1 := hB.cell (j := 1) rfl
  have i1 := k0.cellS i0
  clear hes hl HF hB i0
  go_enter Tryz.func104, Tryz.ntmps104
  go_wp2
  go_ret
  exact ⟨rfl, k0⟩
end Go.Proofs.YtlbhidiliogflaaGreat
namespace Go.Proofs.YtlbhidiliogflaaGreat
set_option linter.unusedSimpArgs false
set_option linter.unusedVariables false
open Go.RowKit

/-- the call owns the row behind this slice, which begins d elements in; it reads as the list -/
def OwnQ {α : Type} (enc : α → List Value) (e size base : Nat) (w : World) (v : Value) (l : List α) : Prop :=
  (v = .slice none 0 0 ∧ l = []) ∨ ∃ g d cap cur, v = .slice (some ⟨g, d * size, none⟩) l.length cap ∧ base ≤ g ∧ w.heap[g]? = some (.cells cur e (0, 0)) ∧ l.length ≤ cap ∧ cap ≤ 9223372036854775807 ∧ (d + cap) * size ≤ cur.size ∧ (cur.toList.drop (d * size)).take (l.length * size) = flat enc l
section
variable {α : Type} {enc : α → List Value} {e size base : Nat} {w w' : World} {v : Value} {l : List α}
theorem Own.q (h : Own enc e size base w v l) : OwnQ enc e size base w v l := by
  have hl := h.1
  rcases h.2 with ⟨rfl, h0⟩ | ⟨g, cap, cur, rfl, hb, hg, hn, hm, hs, ht⟩
  · exact .inl ⟨rfl, List.eq_nil_of_length_eq_zero h0⟩
  · exact .inr ⟨g, 0, cap, cur, by rw [Nat.zero_mul], hb, hg, hn, by unfold maxLen at hm; exact hm, by rw [Nat.zero_add, hs]; exact Nat.le_refl _, by rw [Nat.zero_mul, List.drop_zero]; exact ht⟩
theorem OwnQ.form (h : OwnQ enc e size base w v l) : ∃ A c, v = .slice A l.length c ∧ l.length ≤ c ∧ c ≤ 9223372036854775807 := by
  rcases h with ⟨rfl, rfl⟩ | ⟨g, d, cap, cur, rfl, hb, hg, hn, hm, hs, ht⟩
  · exact ⟨none, 0, rfl, Nat.zero_le _, by omega⟩
  · exact ⟨_, _, rfl, hn, hm⟩
theorem OwnQ.blk (h : OwnQ enc e size base w v l) : ∀ q, v.ownBlock = some q → base ≤ q ∧ q < w.heap.size := by
  rcases h with ⟨rfl, rfl⟩ | ⟨g, d, cap, cur, rfl, hb, hg, hn, hm, hs, ht⟩
  · intro q hq
    simp [Value.ownBlock] at hq
  · intro q hq
    simp only [Value.ownBlock, Option.some.injEq] at hq
    subst hq
    exact ⟨hb, (Array.getElem?_eq_some_iff.1 hg).1⟩
theorem OwnQ.owS (h : OwnQ enc e size base w v l) : OwS (fun q => v.ownBlock = some q) w fun w' => OwnQ enc e size base w' v l := by
  rcases h with ⟨rfl, rfl⟩ | ⟨g, d, cap, cur, rfl, hb, hg, hn, hm, hs, ht⟩
  · exact fun w' _ _ => .inl ⟨rfl, rfl⟩
  · exact fun w' h1 h2 => .inr ⟨g, d, cap, cur, rfl, hb, (h2 g rfl (Array.getElem?_eq_some_iff.1 hg).1).trans hg, hn, hm, hs, ht⟩
theorem row_cell {g o : Nat} {cur : Array Value} {t : TypeId} {j : Nat} {u : Value} (hg : w.heap[g]? = some (.cells cur t (0, 0))) (h : (cur.toList.drop o)[j]? = some u) : w.cell? ⟨g, o + j, none⟩ = some u := by
  rw [cell_of_row w g (o + j) cur t (0, 0) hg]
  rw [List.getElem?_drop] at h
  simpa using h
theorem OwnQ.sl (he : ∀ x, (enc x).length = size) (h : OwnQ enc e size base w v l) : Sl (Pl enc) size w v l := by
  rcases h with ⟨rfl, rfl⟩ | ⟨g, d, cap, cur, rfl, hb, hg, hn, hm, hs, ht⟩
  · exact Sl.nil _ _ _
  · refine ⟨_, cap, rfl, hn, hm, fun k hk => ⟨g, d * size, enc l[k], rfl, (Array.getElem?_eq_some_iff.1 hg).1, he _, fun j u hu => ?_, rfl⟩⟩
    have hj : j < size := by rw [← he l[k]]; exact (List.getElem?_eq_some_iff.1 hu).1
    rw [← flat_get he l k hk j hj, ← ht] at hu
    have h1 : (cur.toList.drop (d * size))[k * size + j]? = some u := by
      rw [List.getElem?_take] at hu
      split at hu
      · exact hu
      · cases hu
    have := row_cell hg h1
    rw [← Nat.add_assoc] at this
    exact this
/-- the head is cut off -/
theorem OwnQ.tail {A : Option Addr} {n c : Nat} {x : α} (he : ∀ x, (enc x).length = size) (h : OwnQ enc e size base w (.slice A n c) (x :: l)) : OwnQ enc e size base w (.slice (if c = 1 then A else A.map (·.add (1 * size))) (n - 1) (c - 1)) l := by
  rcases h with ⟨-, h0⟩ | ⟨g, d, cap, cur, hv, hb, hg, hn, hm, hs, ht⟩
  · cases h0
  · injection hv with e1 e2 e3
    subst e1 e2 e3
    rw [List.length_cons] at hn ht
    rw [flat_cons] at ht
    have hlen : (l.length + 1) * size = size + l.length * size := by rw [Nat.add_mul, Nat.one_mul, Nat.add_comm]
    rw [hlen] at ht
    have hd : (d + 1) * size = d * size + size := by rw [Nat.add_mul, Nat.one_mul]
    have htl : (cur.toList.drop ((d + 1) * size)).take (l.length * size) = flat enc l := by
      have h1 := congrArg (List.drop size) ht
      rw [List.drop_left' (he x), List.drop_take, Nat.add_sub_cancel_left, List.drop_drop] at h1
      rw [hd]
      exact h1
    right
    by_cases hc : c = 1
    · have hl0 : l.length = 0 := by omega
      have hl : l = [] := List.eq_nil_of_length_eq_zero hl0
      subst hl
      refine ⟨g, d, c - 1, cur, ?_, hb, hg, Nat.zero_le _, by omega, ?_, by simp [flat]⟩
      · rw [if_pos hc]
        simp
      · refine Nat.le_trans (Nat.mul_le_mul_right _ ?_) hs
        omega
    · refine ⟨g, d + 1, c - 1, cur, ?_, hb, hg, by omega, by omega, by rw [show d + 1 + (c - 1) = d + c by omega]; exact hs, htl⟩
      rw [if_neg hc]
      simp [Addr.add, hd]
end
section
variable {P : Program} {α : Type} {enc : α → List Value} {e size bytes base t : Nat} {w : World} {v : Value} {l : List α}
theorem slice_one (hT : SliceT P t e size bytes) (A : Option Addr) (n c : Nat) (h1 : 1 ≤ n) (h2 : n ≤ c) (w : World) : (Instr.slice t (.slice A n c) (some (.int .i64 1)) none none).run P w = .ok (.slice (if c = 1 then A else A.map (·.add (1 * size))) (n - 1) (c - 1)) w := by
  obtain ⟨i, z, hi, hz, hs, hb, hzs⟩ := hT.info
  have hsz : Sem.run P (sizeOf e) w = .ok size w := by simp [sizeOf, typeInfo, hi, hs]
  have hk : (1 : Int) ≤ (n : Int) := by omega
  unfold Instr.slice Instr.sliceBounds Instr.sliceBound
  simp [run_underlying hT.ht, hsz, hk, asIntOf]
theorem run_append_room_at (t ty e : TypeId) (i : TypeInfo) (ht : P.underlying t = some (.slice e)) (hi : P.info? e = some i)
    (g o sLen sCap : Nat) (cur : Array Value) (hg : w.heap[g]? = some (.cells cur e (0, 0)))
    (a : Addr) (m c : Nat) (news : List Value) (hl : news.length = m * i.size) (hnews : ∀ j u, news[j]? = some u → w.cell? (a.add j) = some u) (h1 : ∀ u ∈ news, u.oneCell' = true)
    (hroom : sLen + m ≤ sCap) (hfit : o + sLen * i.size + news.length ≤ cur.size) :
    (Builtin.append_ #[t, t] ty #[.slice (some ⟨g, o, none⟩) sLen sCap, .slice (some a) m c]).run P w =
      .ok (.slice (some ⟨g, o, none⟩) (sLen + m) sCap) (w.setRow g (cur.toList.take (o + sLen * i.size) ++ news ++ cur.toList.drop (o + sLen * i.size + news.length)).toArray) := by
  have hf := run_firstCells_some (P := P) w i.size m a m c news hl hnews
  have hst := run_storeCells_at P g (o + sLen * i.size) e news 0 cur w hg (by simpa using hfit) h1
  simp only [Nat.add_zero] at hst
  have ha : (⟨g, o, none⟩ : Addr).add (sLen * i.size) = ⟨g, o + sLen * i.size, none⟩ := by unfold Addr.add; split <;> simp_all
  simp [Builtin.append_, run_underlying ht, sizeOf, typeInfo, hi, Builtin.lenOf, hroom, hf, ha, hst]
/-- an append onto such a row -/
theorem run_append_q (hT : SliceT P t e size bytes) (he : ∀ x, (enc x).length = size) (h1 : ∀ x, ∀ u ∈ enc x, u.oneCell' = true) (ty : TypeId) (hown : OwnQ enc e size base w v l)
    {v2 : Value} {m : List α} (hsrc : Sl (Pl enc) size w v2 m) (hlen : l.length + m.length ≤ 4611686018427387904) (hby : (l.length + m.length) * bytes ≤ 140737488355328) (hbase : base ≤ w.heap.size) :
    ∃ v' w', (Builtin.append_ #[t, t] ty #[v, v2]).run P w = .ok v' w' ∧ OwnQ enc e size base w' v' (l ++ m) ∧ w.grownBy w' v.ownBlock ∧ (v'.ownBlock = v.ownBlock ∨ v'.ownBlock = some w.heap.size) := by
  rcases hown with ⟨rfl, rfl⟩ | ⟨g, d, cap, cur, rfl, hb, hg, hn, hm, hs, ht⟩
  · obtain ⟨v', w', h2, h3, h4, h5, -⟩ := run_append_flat (P := P) hT he h1 ty (Own.nil enc e size base w) hsrc (by simpa using hlen) (by simpa using hby) hbase
    exact ⟨v', w', h2, h3.q, h4, h5⟩
  · have hown : OwnQ enc e size base w (.slice (some ⟨g, d * size, none⟩) l.length cap) l := .inr ⟨g, d, cap, cur, rfl, hb, hg, hn, hm, hs, ht⟩
    obtain ⟨i, z, hi, hz, hsi, hbi, hzs⟩ := hT.info
    obtain ⟨A, c, rfl, hc1, hc2⟩ := hsrc.form
    have hx1 : ∀ u ∈ flat enc m, u.oneCell' = true := by
      intro u hu
      obtain ⟨x, _, hxu⟩ := List.mem_flatMap.1 hu
      exact h1 x u hxu
    rcases A with _ | ⟨b, o, sp⟩
    · have hm0 : m = [] := by
        cases m with
        | nil => rfl
        | cons x m =>
          obtain ⟨_, _, _, hA, _⟩ := hsrc.at_ (k := 0) (by simp)
          cases hA
      subst hm0
      have hr : (Builtin.append_ #[t, t] ty #[.slice (some ⟨g, d * size, none⟩) l.length cap, .slice none 0 c]).run P w = .ok (.slice (some ⟨g, d * size, none⟩) l.length cap) w := by
        simp [Builtin.append_, run_underlying hT.ht, sizeOf, typeInfo, hi, Builtin.lenOf, Builtin.firstCells, hn, storeCells]
      exact ⟨_, w, hr, by simpa using hown, World.grownBy.refl w _, .inl rfl⟩
    · have hnews := hsrc.flat_cells he hT.pos
      have hfl := flat_length he m
      have hll := flat_length he l
      have hcl : (flat enc (l ++ m)).length = (l.length + m.length) * size := by rw [flat_length he, List.length_append]
      by_cases hroom : l.length + m.length ≤ cap
      · have hfit : d * size + l.length * size + (flat enc m).length ≤ cur.size := by
          refine Nat.le_trans ?_ hs
          rw [hfl, ← Nat.add_mul, ← Nat.add_mul]
          exact Nat.mul_le_mul_right _ (by omega)
        have hr := run_append_room_at (P := P) (w := w) t ty e i hT.ht hi g (d * size) l.length cap cur hg ⟨b, o, sp⟩ m.length c (flat enc m) (by rw [hsi]; exact hfl) hnews hx1 hroom (by rw [hsi]; exact hfit)
        rw [hsi] at hr
        refine ⟨_, _, hr, .inr ⟨g, d, cap, _, by rw [List.length_append], hb, setRow_heap w g cur _ e _ hg, by rw [List.length_append]; exact hroom, hm, ?_, ?_⟩, ⟨rfl, rfl, rfl, by simp, fun k _ hk => setRow_other w g k _ (fun e => hk (by simp [Value.ownBlock, e]))⟩, .inl rfl⟩
        · simp only [List.size_toArray, List.length_append, List.length_take, List.length_drop, Array.length_toList]
          omega
        · have h2 : (cur.toList.take (d * size + l.length * size)).length = d * size + l.length * size := by rw [List.length_take, Array.length_toList]; exact Nat.min_eq_left (Nat.le_trans (Nat.le_add_right _ _) hfit)
          rw [List.length_append, Nat.add_mul]
          simp only [List.append_assoc]
          rw [List.drop_append_of_le_length (by rw [h2]; omega), List.drop_take, Nat.add_sub_cancel_left, ht, flat_append]
          rw [show l.length * size + m.length * size = (flat enc l).length + m.length * size by rw [hll], List.take_length_add_append, List.take_left' hfl]
      · have holds : ∀ j u, (flat enc l)[j]? = some u → w.cell? ((⟨g, d * size, none⟩ : Addr).add j) = some u := (hown.sl he).flat_cells he hT.pos
        have hr := run_append_grow (P := P) w t ty e i z hT.ht hi hz ⟨g, d * size, none⟩ l.length cap (flat enc l) (by rw [hsi]; exact hll) holds ⟨b, o, sp⟩ m.length c (flat enc m) (by rw [hsi]; exact hfl) hnews (by omega) (by omega) (growslice_fits (by omega) (by rw [hbi]; exact hby))
        have hge := grownCap_ge w (l.length + m.length) cap e
        have hcm : grownCap w (l.length + m.length) cap e ≤ maxLen := grownCap_le_maxLen w (l.length + m.length) cap e (by unfold maxLen; omega)
        refine ⟨_, _, hr, .inr ⟨w.heap.size, 0, _, _, by rw [Nat.zero_mul, List.length_append], hbase, heap_alloc_new w.drew _, by rw [List.length_append]; exact hge, by unfold maxLen at hcm; exact hcm, ?_, ?_⟩, ⟨rfl, rfl, rfl, by simp, fun k hk _ => heap_alloc_old w.drew _ hk⟩, .inr rfl⟩
        · simp only [Array.size_append, List.size_toArray, size_zeroCells, hzs, hfl, hll, ← Nat.add_mul]
          rw [Nat.zero_add]
          exact Nat.mul_le_mul_right _ (by omega)
        · rw [Nat.zero_mul, List.drop_zero, List.length_append]
          simp only [Array.toList_append, List.append_assoc]
          rw [← List.append_assoc, ← flat_append]
          exact List.take_left' hcl
/-- .. at the operation -/
theorem wpl_append_q {ops : Array Oper} {rest : List Oper} {o : Oper} {a : Act} {Q : Exit → Act → World → Prop} (hgd : o.guard = none) (s x : Operand)
    (ho : o.op = .call { callee := .builtin .append, args := #[s, x], argTypes := #[t, t] }) (hT : SliceT P t e size bytes) (he : ∀ x, (enc x).length = size) (h1 : ∀ x, ∀ u ∈ enc x, u.oneCell' = true)
    (hs : a.eval s = v) (hown : OwnQ enc e size base w v l)
    {v2 : Value} {m : List α} (hx : a.eval x = v2) (hsrc : Sl (Pl enc) size w v2 m) (hlen : l.length + m.length ≤ 4611686018427387904) (hby : (l.length + m.length) * bytes ≤ 140737488355328) (hbase : base ≤ w.heap.size)
    (h : ∀ v' w', OwnQ enc e size base w' v' (l ++ m) → w.grownBy w' v.ownBlock → (v'.ownBlock = v.ownBlock ∨ v'.ownBlock = some w.heap.size) → wpList P ops Q rest (a.put o.dst v') w') : wpList P ops Q (o :: rest) a w := by
  refine wpList_plain hgd fun K hK => ?_
  obtain ⟨v', w', hr, h2, h3, h4⟩ := run_append_q hT he h1 o.type hown hsrc hlen hby hbase
  unfold Oper.wp execOp
  simp only [ho, resolve, invoke, builtin, Sem.run_bind, Sem.run_pure, Result.andThen_ok, List.map_toArray, List.map_cons, List.map_nil, hs, hx, hr]
  exact hK _ _ (h v' w' h2 h3 h4)
end
/-- a queue of the call's own whose elements lead to blocks of S, others than the queue's -/
structure NQ {α : Type} (R : Rd α) (e size : Nat) (S : Nat → Prop) (w : World) (v : Value) (css : List (Elm size)) (xs : List α) : Prop where
  own : OwnQ encC e size 0 w v css
  len : css.length = xs.length
  blk : ∀ q, v.ownBlock = some q → S q
  els : ∀ k (h1 : k < css.length) (h2 : k < xs.length), ∃ T : Nat → Prop, (∀ i, T i → S i ∧ v.ownBlock ≠ some i ∧ i < w.heap.size) ∧ OwS T w fun w' => R w' css[k].val xs[k]
section
variable {α : Type} {R : Rd α} {e size : Nat} {S S' : Nat → Prop} {w w' : World} {v v' : Value} {css : List (Elm size)} {xs : List α}
theorem NL.q (h : NL R e size S w v css xs) : NQ R e size S w v css xs := ⟨h.own.q, h.len, h.blk, h.els⟩
theorem NQ.step (h : NQ R e size S w v css xs) (h1 : w.heap.size ≤ w'.heap.size) (h2 : ∀ k, S k → k < w.heap.size → w'.heap[k]? = w.heap[k]?) : NQ R e size S w' v css xs := by
  refine ⟨h.own.owS w' h1 fun k hk hlt => h2 k (h.blk k hk) hlt, h.len, h.blk, fun k hk1 hk2 => ?_⟩
  obtain ⟨T, hT, ho⟩ := h.els k hk1 hk2
  exact ⟨T, fun i hi => ⟨(hT i hi).1, (hT i hi).2.1, Nat.lt_of_lt_of_le (hT i hi).2.2 h1⟩, ho.step h1 fun i hi hlt => h2 i (hT i hi).1 hlt⟩
theorem NQ.kp (h : NQ R e size S w v css xs) (hk : Kp w w') : NQ R e size S w' v css xs := h.step hk.size fun _ _ hlt => hk.block hlt
theorem NQ.kg {g : Nat} (h : NQ R e size S w v css xs) (hk : Kg w w' g) (hg : ¬ S g) : NQ R e size S w' v css xs :=
  h.step hk.size fun k hs hlt => hk.block k hlt (fun e => hg (by injection e with e; exact e ▸ hs))
theorem NQ.mono (h : NQ R e size S w v css xs) (hs : ∀ k, S k → S' k) : NQ R e size S' w v css xs :=
  ⟨h.own, h.len, fun q hq => hs q (h.blk q hq), fun k h1 h2 => by
    obtain ⟨T, hT, ho⟩ := h.els k h1 h2
    exact ⟨T, fun i hi => ⟨hs i (hT i hi).1, (hT i hi).2⟩, ho⟩⟩
theorem NQ.sl (h : NQ R e size S w v css xs) : Sl R size w v xs := sl_of (h.own.sl encC_len) h.len fun k h1 h2 => by
  obtain ⟨T, hT, ho⟩ := h.els k h1 h2
  exact ho.here
theorem NQ.form (h : NQ R e size S w v css xs) : ∃ A c, v = .slice A xs.length c ∧ xs.length ≤ c ∧ c ≤ 9223372036854775807 := h.sl.form
/-- an append of one element: w is the world in which it runs -/
theorem NQ.snoc (h : NQ R e size S w v css xs) {c : Elm size} {x : α} (own' : OwnQ encC e size 0 w' v' (css ++ [c])) (hg : w.grownBy w' v.ownBlock) (hat : v'.ownBlock = v.ownBlock ∨ v'.ownBlock = some w.heap.size) (T : Nat → Prop)
    (hT : ∀ i, T i → S' i ∧ v.ownBlock ≠ some i ∧ i < w.heap.size) (ho : OwS T w fun w2 => R w2 c.val x) (hS : ∀ i, S i → S' i) (hn : S' w.heap.size) : NQ R e size S' w' v' (css ++ [c]) (xs ++ [x]) := by
  have hlen := h.len
  have hgb : ∀ i, v.ownBlock ≠ some i → i < w.heap.size → w'.heap[i]? = w.heap[i]? := fun i hi hlt => hg.block i hlt (fun e => hi e.symm)
  have hne : ∀ i, v.ownBlock ≠ some i → i < w.heap.size → v'.ownBlock ≠ some i := fun i hi hlt e => by
    rcases hat with h1 | h1
    · exact hi (h1 ▸ e)
    · rw [h1] at e
      injection e with e
      omega
  refine ⟨own', by simp [h.len], fun q hq => ?_, fun k h1 h2 => ?_⟩
  · rcases hat with h1 | h1
    · exact hS q (h.blk q (h1 ▸ hq))
    · rw [h1] at hq
      injection hq with hq
      exact hq ▸ hn
  · by_cases hk : k < css.length
    · rw [List.getElem_append_left hk, List.getElem_append_left (by omega)]
      obtain ⟨T', hT', ho'⟩ := h.els k hk (by omega)
      exact ⟨T', fun i hi => ⟨hS i (hT' i hi).1, hne i (hT' i hi).2.1 (hT' i hi).2.2, Nat.lt_of_lt_of_le (hT' i hi).2.2 hg.size⟩, ho'.step hg.size fun i hi hlt => hgb i (hT' i hi).2.1 hlt⟩
    · have e1 : k = css.length := by simp at h1; omega
      subst e1
      have e2 : (css ++ [c])[css.length] = c := by simp
      have e3 : (xs ++ [x])[css.length]'h2 = x := by simp [hlen]
      rw [e2, e3]
      exact ⟨T, fun i hi => ⟨(hT i hi).1, hne i (hT i hi).2.1 (hT i hi).2.2, Nat.lt_of_lt_of_le (hT i hi).2.2 hg.size⟩, ho.step hg.size fun i hi hlt => hgb i (hT i hi).2.1 hlt⟩
theorem tail_blk (A : Option Addr) (n c k : Nat) : (Value.slice (if c = 1 then A else A.map (·.add k)) (n - 1) (c - 1)).ownBlock = (Value.slice A n c).ownBlock := by
  cases A with
  | none => split <;> rfl
  | some a =>
    split
    · rfl
    · simp only [Option.map_some, Value.ownBlock]
      unfold Addr.add
      split <;> rfl
/-- the head is cut off -/
theorem NQ.tail {A : Option Addr} {n c : Nat} {c0 : Elm size} {x : α} (h : NQ R e size S w (.slice A n c) (c0 :: css) (x :: xs)) : NQ R e size S w (.slice (if c = 1 then A else A.map (·.add (1 * size))) (n - 1) (c - 1)) css xs := by
  refine ⟨h.own.tail encC_len, by have := h.len; simpa using this, fun q hq => h.blk q (by rw [tail_blk] at hq; exact hq), fun k h1 h2 => ?_⟩
  obtain ⟨T, hT, ho⟩ := h.els (k + 1) (by simpa using h1) (by simpa using h2)
  exact ⟨T, fun i hi => ⟨(hT i hi).1, by rw [tail_blk]; exact (hT i hi).2.1, (hT i hi).2.2⟩, by simpa using ho⟩
end
end Go.Proofs.YtlbhidiliogflaaGreat
namespace Go.Proofs.YtlbhidiliogflaaGreat
set_option linter.unusedSimpArgs false
set_option linter.unusedVariables false
open Go.RowKit

theorem dgIntM : SliceT Tryz.prog 30 3 1 8 := SliceT.mk' Tryz.underlying30 (z := .int .i64 0) (by kernel_rfl) rfl (by omega)
theorem dgBoolM : SliceT Tryz.prog 125 4 1 1 := SliceT.mk' Tryz.underlying125 (z := .bool false) (by kernel_rfl) rfl (by omega)
theorem dgIntsM : SliceT Tryz.prog 44 30 1 24 := SliceT.mk' Tryz.underlying44 (z := .slice none 0 0) (by kernel_rfl) rfl (by omega)
set_option maxHeartbeats 1000000 in
theorem CloneI_any (v : Value) (l : List Int) (w : World) (hS : Ints w v l) (hl : l.length ≤ 1000000000) :
    Calls Tryz.prog 34 #[v] w fun e w' => ∃ v', e = .returned v' ∧ Own encInt 3 1 w.heap.size w' v' l ∧ Kp w w' := by
  obtain ⟨A, c, rfl, hc, hm⟩ := hS.form
  rcases A with _ | A
  · have hl0 : l = [] := by
      cases l with
      | nil => rfl
      | cons x l =>
        obtain ⟨_, _, _, hA, _⟩ := hS.at_ (k := 0) (by simp)
        cases hA
    subst hl0
    rw [List.length_nil]
    have hnil := fun (W : World) => Lib.run_eql_slice_nil (P := Tryz.prog) W 30 3 none 0 c 0 0 Tryz.underlying30
    go_enter Tryz.func34, Tryz.ntmps34
    go_wp2
    go_ret
    exact ⟨_, rfl, Own.nil _ _ _ _ _, Kp.refl _⟩
  · have hnil := fun (W : World) => Lib.run_eql_slice_nil (P := Tryz.prog) W 30 3 (some A) l.length c 0 0 Tryz.underlying30
    go_enter Tryz.func34, Tryz.ntmps34
    go_wp2_with (at_builtin; refine wpl_append_flat rfl (.tmp 5) (.tmp 6) rfl dgIntM encInt_len encInt_one rfl (Own.lit (base := w.heap.size) encInt w #[] [] (Nat.le_refl _) (by simp) rfl rfl) rfl (hS.keep (pl_stable _) ((Kp.refl w).alloc _)) (by simp; omega) (by simp; omega) (by simp) ?_; intro v' w' hown hgrow hat hnil')
    go_ret
    exact ⟨_, rfl, by simpa using hown, ((Kp.refl w).alloc _).grown hgrow (fun k hk => by cases hk; exact Nat.le_refl _)⟩
def castL (l : List Nat) : List Int := l.map (fun x : Nat => (x : Int))
theorem castL_len (l : List Nat) : (castL l).length = l.length := by simp [castL]
theorem castL_get (l : List Nat) (k : Nat) (h : k < l.length) : (castL l)[k]'(by rw [castL_len]; exact h) = (l[k] : Int) := by simp [castL]
theorem castL_snoc (l : List Nat) (b : Nat) : castL (l ++ [b]) = castL l ++ [(b : Int)] := by simp [castL]
/-- how a list of vertices reads as an element of a list of lists -/
def rdL : Rd (List Nat) := fun w cs x => ∃ v, cs = [v] ∧ Ints w v (castL x)
theorem rdL_stable : Stable rdL := fun _ _ _ _ k ⟨v, e, h⟩ => ⟨v, e, h.keep (pl_stable _) k⟩
theorem Sl.rdL {w : World} {A : Option Addr} {n c : Nat} {l : List (List Nat)} (h : Sl rdL 1 w (.slice A n c) l) {k : Nat} (hk : k < l.length) :
    ∃ b o v, A = some ⟨b, o, none⟩ ∧ b < w.heap.size ∧ w.cell? ⟨b, o + k, none⟩ = some v ∧ Ints w v (castL l[k]) := by
  obtain ⟨b, o, cs, hA, hb, hcs, hc, v, rfl, hi⟩ := h.at_ hk
  have := hc 0 _ rfl
  rw [Nat.mul_one] at this
  exact ⟨b, o, v, hA, hb, this, hi⟩
/-- one vertex is looked at -/
def bfsIn (n : Nat) (es : List Bool) (l : List Nat) (p : List Bool × List (List Nat)) (b : Nat) : List Bool × List (List Nat) :=
  if hasE n es (l.getLastD 0) b = true ∧ p.1.getD b true = false then (p.1.set b true, p.2 ++ [l ++ [b]]) else p
def bfsRow (n : Nat) (es : List Bool) (l : List Nat) (p : List Bool × List (List Nat)) (k : Nat) : List Bool × List (List Nat) := (List.range k).foldl (bfsIn n es l) p
def bfs (n : Nat) (es : List Bool) (to_ : Nat) : Nat → List Bool → List (List Nat) → List Nat
  | 0, _, _ => []
  | _ + 1, _, [] => []
  | f + 1, seen, l :: q => if l.getLastD 0 = to_ then l else bfs n es to_ f (bfsRow n es l (seen, q) n).1 (bfsRow n es l (seen, q) n).2
def pathF (n : Nat) (es : List Bool) (a b : Nat) : List Nat := bfs n es b n ((List.replicate n false).set a true) [[a]]
theorem bfsRow_succ (n : Nat) (es : List Bool) (l : List Nat) (p : List Bool × List (List Nat)) (k : Nat) : bfsRow n es l p (k + 1) = bfsIn n es l (bfsRow n es l p k) k := by
  unfold bfsRow
  rw [List.range_succ, List.foldl_append]
  rfl
/-- what holds of the lists seen and queue when g rounds are left -/
structure BfsI (n g : Nat) (seen : List Bool) (q : List (List Nat)) : Prop where
  len : seen.length = n
  pot : q.length + seen.count false ≤ g
  els : ∀ l ∈ q, l ≠ [] ∧ (∀ x ∈ l, x < n) ∧ l.length + g ≤ n + 1
theorem count_set {seen : List Bool} {b : Nat} (h : b < seen.length) (h0 : seen.getD b true = false) : (seen.set b true).count false + 1 = seen.count false := by
  have e : seen[b] = false := by simpa [List.getD, List.getElem?_eq_getElem h] using h0
  have h1 := List.count_set (a := true) (b := false) (l := seen) (i := b) (by simpa using h)
  rw [h1, e]
  have : 0 < seen.count false := by
    rw [List.count_pos_iff]
    rw [← e]
    exact List.getElem_mem h
  simp
  omega
theorem BfsI.start (n a : Nat) (ha : a < n) : BfsI n n ((List.replicate n false).set a true) [[a]] := by
  refine ⟨by simp, ?_, fun l hl => ?_⟩
  · have h1 := count_set (seen := List.replicate n false) (b := a) (by simpa using ha) (by simp [List.getD, ha])
    rw [List.count_replicate_self] at h1
    simp
    omega
  · simp only [List.mem_singleton] at hl
    subst hl
    exact ⟨by simp, fun x hx => by simp only [List.mem_singleton] at hx; omega, by simp; omega⟩
theorem BfsI.row {n g : Nat} {seen : List Bool} {l : List Nat} {q : List (List Nat)} {es : List Bool} (h : BfsI n (g + 1) seen (l :: q)) : ∀ k, k ≤ n → BfsI n g (bfsRow n es l (seen, q) k).1 (bfsRow n es l (seen, q) k).2
  | 0, _ => ⟨h.len, by have := h.pot; simp only [List.length_cons] at this; show q.length + seen.count false ≤ g; omega, fun x hx => by obtain ⟨a1, a2, a3⟩ := h.els x (List.mem_cons_of_mem _ hx); exact ⟨a1, a2, by omega⟩⟩
  | k + 1, hk => by
    have ih := BfsI.row (es := es) h k (by omega)
    rw [bfsRow_succ]
    generalize bfsRow n es l (seen, q) k = p at *
    obtain ⟨s, q'⟩ := p
    unfold bfsIn
    dsimp only at ih ⊢
    split
    · rename_i hc
      obtain ⟨a1, a2, a3⟩ := h.els l (List.mem_cons_self ..)
      refine ⟨by simp [ih.len], ?_, fun x hx => ?_⟩
      · have h1 := count_set (seen := s) (b := k) (by rw [ih.len]; omega) hc.2
        have := ih.pot
        simp only [List.length_append, List.length_singleton]
        omega
      · rcases List.mem_append.1 hx with hx | hx
        · exact ih.els x hx
        · simp only [List.mem_singleton] at hx
          subst hx
          refine ⟨by simp, fun y hy => ?_, by simp only [List.length_append, List.length_singleton]; omega⟩
          rcases List.mem_append.1 hy with hy | hy
          · exact a2 y hy
          · simp only [List.mem_singleton] at hy
            omega
    · exact ih
theorem getLastD_eq {l : List Nat} (h : l ≠ []) : l.getLastD 0 = l[l.length - 1]'(by have := List.length_pos_iff.2 h; omega) := by
  rw [List.getLastD_eq_getLast?, List.getLast?_eq_getElem?, List.getElem?_eq_getElem (by have := List.length_pos_iff.2 h; omega)]
  rfl
theorem bfs_nil (n : Nat) (es : List Bool) (t g : Nat) (seen : List Bool) : bfs n es t g seen [] = [] := by cases g <;> rfl
theorem NQ.head {e : Nat} {S : Nat → Prop} {w : World} {A : Option Addr} {n c : Nat} {c0 : Elm 1} {css : List (Elm 1)} {x : List Nat} {xs : List (List Nat)} (h : NQ rdL e 1 S w (.slice A n c) (c0 :: css) (x :: xs)) :
    ∃ b o v, A = some ⟨b, o, none⟩ ∧ b < w.heap.size ∧ c0.val = [v] ∧ w.cell? ⟨b, o, none⟩ = some v ∧ Ints w v (castL x) := by
  obtain ⟨T, hT, ho⟩ := h.els 0 (by simp) (by simp)
  obtain ⟨v, hv, hi⟩ := ho.here
  obtain ⟨b, o, cs, hA, hb, hcs, hc, hr⟩ := (h.own.sl encC_len).at_ (k := 0) (by simp)
  have hr : cs = c0.val := hr
  have hv : c0.val = [v] := hv
  subst hr
  have := hc 0 v (by rw [hv]; rfl)
  simp only [Nat.zero_mul, Nat.add_zero] at this
  exact ⟨b, o, v, hA, hb, hv, this, hi⟩
set_option maxRecDepth 8000 in
set_option maxHeartbeats 3200000 in
theorem dPath_any (v : Value) (n : Nat) (es : List Bool) (a b : Nat) (w : World) (hg : DgGrV w v n es) (ha : a < n) (hb : b < n) : Calls Tryz.prog 96 #[v, .int .i64 (a : Int), .int .i64 (b : Int)] w fun e w' => ∃ v', e = .returned v' ∧ Ints w' v' (castL (pathF n es a b)) ∧ Kp w w' := by
  have HGR := hid hg
  generalize hR : pathF n es a b = R
  have HP : Hid (R = bfs n es b n ((List.replicate n false).set a true) [[a]]) := hid hR.symm
  clear hR
  obtain ⟨vb, rfl, hes, hl, h1, h6⟩ := hg
  obtain ⟨A, c, rfl, hc, hm⟩ := hes.form
  have hA := Bx.new w [.int .i64 (n : Int), .slice A es.length c].toArray 135
  have k0 := (Kp.refl w).alloc (.cells [.int .i64 (n : Int), .slice A es.length c].toArray 135)
  have la := alloc_lt w (.cells [.int .i64 (n : Int), .slice A es.length c].toArray 135)
  have hz : (w.alloc (.cells [.int .i64 (n : Int), .slice A es.length c].toArray 135)).heap.size = w.heap.size + 1 := by simp
  have HL := hid hl
  have han : (a : Int) < (n : Int) := by omega
  have hbn : b < n := hb
  clear hes hl
  go_enter Tryz.func96, Tryz.ntmps96
  go_upto_region 1 with (fail)
  generalize hw0 : w.alloc (.cells [.int .i64 (n : Int), .slice A es.length c].toArray 135) = w0 at *
  generalize hb0 : w.heap.size = b0 at *
  simp only [List.toList_toArray] at hA
  have c0 := hA.cell (j := 0) rfl
  have HZ := hid hz
  have hbase : b0 + 1 ≤ w0.heap.size := by omega
  clear hw0 hz
  go_upto_region 2 with (refine wpl_make_flat (enc := encBool) (base := b0 + 1) rfl (.tmp 13) (.tmp 13) rfl dgBoolM false (zero_of (u := .bool false) (by kernel_rfl) rfl) n rfl rfl (by omega) (by omega) hbase ?_; intro w1 own1 k1 z1; rw [HZ.out] at own1 z1)
  rw [HZ.out]
  have d0 := own1.boolCell (k := a) (by simp) (by simpa using ha)
  have fz := own1.frozen (by simp) a
  go_upto_region 3 with (fail)
  have own2 := own1.boolSet (k := a) (by simp) (by simpa using ha) true
  have kg := (Kg.refl w1 (b0 + 1)).set (p := ⟨b0 + 1, a, none⟩) (.inl rfl) (.bool true)
  have kk := (k0.trans k1).set (p := ⟨b0 + 1, a, none⟩) (by show w.heap.size ≤ b0 + 1; omega) (.bool true)
  have hA2 := (hA.kp k1 la).kg kg (by omega) (by omega)
  have hs2 : (w1.setCell ⟨b0 + 1, a, none⟩ (.bool true)).heap.size = b0 + 2 := by rw [set_size]; exact z1
  clear d0 fz own1 c0 hA kg k0
  generalize hw2 : w1.setCell ⟨b0 + 1, a, none⟩ (.bool true) = w2 at *
  clear hw2
  have HS2 := hid hs2
  have kw3 := (Kp.refl w2).alloc (.cells #[.int .i64 (a : Int)] 3)
  have o3 := Own.lit (base := b0 + 2) (size := 1) encInt (e := 3) w2 #[.int .i64 (a : Int)] [(a : Int)] (by omega) (by simp) rfl rfl
  have hs3 : (w2.alloc (.cells #[.int .i64 (a : Int)] 3)).heap.size = b0 + 3 := by simp [hs2]
  rw [hs2] at o3
  have ho3 := o3.owS
  have kw4 := kw3.alloc (.cells #[.slice (some ⟨b0 + 2, 0, none⟩) 1 1] 30)
  have kw4' := (Kp.refl (w2.alloc (.cells #[.int .i64 (a : Int)] 3))).alloc (.cells #[.slice (some ⟨b0 + 2, 0, none⟩) 1 1] 30)
  have o4 := Own.lit (base := 0) (size := 1) (encC (size := 1)) (e := 30) (w2.alloc (.cells #[.int .i64 (a : Int)] 3)) #[.slice (some ⟨b0 + 2, 0, none⟩) 1 1] [⟨[.slice (some ⟨b0 + 2, 0, none⟩) 1 1], rfl, by simp [Value.oneCell']⟩] (by omega) (by simp) rfl rfl
  rw [hs3] at o4
  have hlt4 : b0 + 3 < ((w2.alloc (.cells #[.int .i64 (a : Int)] 3)).alloc (.cells #[.slice (some ⟨b0 + 2, 0, none⟩) 1 1] 30)).heap.size := by rw [← hs3]; exact alloc_lt _ _
  have NQ0 : NQ rdL 30 1 (fun q => b0 + 2 ≤ q) ((w2.alloc (.cells #[.int .i64 (a : Int)] 3)).alloc (.cells #[.slice (some ⟨b0 + 2, 0, none⟩) 1 1] 30)) (.slice (some ⟨b0 + 3, 0, none⟩) 1 1) [⟨[.slice (some ⟨b0 + 2, 0, none⟩) 1 1], rfl, by simp [Value.oneCell']⟩] [[a]] := by
    refine ⟨o4.q, rfl, fun q hq => ?_, fun k i1 i2 => ?_⟩
    · simp only [Value.ownBlock, Option.some.injEq] at hq
      show b0 + 2 ≤ q
      omega
    · have hk : k = 0 := by simpa using i1
      subst hk
      refine ⟨fun q => (Value.slice (some ⟨b0 + 2, 0, none⟩) 1 1).ownBlock = some q, fun q hq => ?_, (ho3.kp kw4').imp fun w' h => ⟨_, rfl, h.sl encInt_len⟩⟩
      simp only [Value.ownBlock, Option.some.injEq] at hq
      subst hq
      exact ⟨Nat.le_refl _, by simp [Value.ownBlock], by omega⟩
  have own4 := own2.kp kw4
  have kk4 := kk.trans kw4
  have hA4 := hA2.kp kw4 (by omega)
  clear kw4' o3 o4 ho3 kw3 kw4 own2 kk hA2 k1 HZ hbase z1 la
  go_wp2_with fail
  generalize (w2.alloc (.cells #[.int .i64 (a : Int)] 3)).alloc (.cells #[.slice (some ⟨b0 + 2, 0, none⟩) 1 1] 30) = w4 at *
  clear hs2 hs3 HS2
  have HI := hid (BfsI.start n a ha)
  go_loopg [8] (n + 1) (fun gk qv wr => ∃ (g : Nat) (seen : List Bool) (queue : List (List Nat)) (css : List (Elm 1)), gk = g + 1 ∧ g ≤ n ∧ Own encBool 4 1 (b0 + 1) wr (.slice (some ⟨b0 + 1, 0, none⟩) n n) seen ∧ NQ rdL 30 1 (fun q => b0 + 2 ≤ q) wr qv css queue ∧ Kp w wr ∧ Bx wr b0 [.int .i64 (n : Int), .slice A es.length c] ∧ b0 + 1 < wr.heap.size ∧ Hid (BfsI n g seen queue) ∧ Hid (R = bfs n es b g seen queue))
  case atStart => exact ⟨n, _, _, _, rfl, Nat.le_refl _, own4, NQ0, kk4, hA4, by omega, HI, HP⟩
  case round =>
    clear own4 NQ0 kk4 hA4 HI HP hlt4
    obtain ⟨g, seen, queue, css, rfl, hgn, own, nq, kr, hB, hlt, HI, HP⟩ := hrel
    obtain ⟨Aq, cq, e0, hcq, hmq⟩ := nq.form
    generalize hLq : queue.length = Lq at *
    subst e0
    cases queue with
    | nil =>
      obtain rfl : Lq = 0 := by rw [← hLq]; rfl
      clear hLq
      have HF : Hid (R = []) := hid (by rw [HP.out, bfs_nil])
      clear own nq hB HI HP
      go_wp2
      go_ret
      exact ⟨_, rfl, by rw [HF.out]; exact Sl.nil _ _ _, kr⟩
    | cons l q =>
      obtain ⟨g', rfl⟩ : ∃ g', g = g' + 1 := ⟨g - 1, by have := HI.out.pot; simp only [List.length_cons] at this; omega⟩
      obtain ⟨hl1, hl2, hl3⟩ := HI.out.els l (List.mem_cons_self ..)
      have hpot := HI.out.pot
      obtain ⟨cc0, css, rfl⟩ : ∃ x r, css = x :: r := by
        cases css with
        | nil => have := nq.len; simp at this
        | cons x r => exact ⟨x, r, rfl⟩
      obtain ⟨gq, oq, v0, rfl, hgq, hcv, i0, hv0⟩ := nq.head
      obtain ⟨A0, cp0, rfl, hc0, hm0⟩ := hv0.form
      have hpos : 0 < l.length := List.length_pos_iff.2 hl1
      obtain ⟨gl, ol, rfl, hgl, i1⟩ := hv0.ints (k := l.length - 1) (by rw [castL_len]; omega)
      have hlast : l.getLastD 0 = l[l.length - 1]'(by omega) := getLastD_eq hl1
      have hln : l.getLastD 0 < n := by rw [hlast]; exact hl2 _ (List.getElem_mem _)
      rw [castL_get l (l.length - 1) (by omega), ← hlast] at i1
      have HV0 := hid hv0
      have HLL := hid hl3
      have HQP := hid hpot
      rw [castL_len] at i0 hc0 hcv
      obtain ⟨m, hm1⟩ : ∃ m, l.length = m + 1 := ⟨l.length - 1, by omega⟩
      rw [hm1] at i0 hc0 i1 hcv
      have HCV := hid hcv
      clear hcv
      rw [Nat.add_sub_cancel] at i1
      have HM1 := hid hm1
      have hmb : (m : Int) < 6 := by omega
      have hqb : (q.length : Int) ≤ 6 := by simp only [List.length_cons] at hpot; omega
      have HNQ := hid nq
      have hql : (0 : Int) < (Lq : Int) := by rw [← hLq]; simp only [List.length_cons]; omega
      have hql2 : 0 < Lq := by omega
      clear hLq
      clear hv0 hl1 hl2 hl3 hpot hm1 hpos hlast nq
      generalize hlastN : l.getLastD 0 = t at *
      have HT := hid hlastN
      clear hlastN
      by_cases htb : t = b
      · have e1 : ((t : Int) == (b : Int)) = true := by rw [htb]; simp
        have HF : Hid (R = l) := hid (by rw [HP.out, bfs, if_pos (by rw [HT.out]; exact htb)])
        replace htb := hid htb
        clear own HNQ hB HI HP
        go_wp2
        go_ret
        exact ⟨_, rfl, by rw [HF.out]; have := HV0.out; rw [castL_len, HM1.out] at this; exact this, kr⟩
      · have e1 : ((t : Int) == (b : Int)) = false := beq_false_of_ne (by omega)
        have HF : Hid (R = bfs n es b g' (bfsRow n es l (seen, q) n).1 (bfsRow n es l (seen, q) n).2) := hid (by rw [HP.out, bfs, if_neg (by rw [HT.out]; exact htb)])
        replace htb := hid htb
        clear HP
        have c0 := hB.cell (j := 0) rfl
        have lb : b0 < wr.heap.size := by omega
        go_wp2_with fail
        have HRow := hid (BfsI.row (es := es) HI.out)
        clear HI
        obtain ⟨wo, rfl⟩ : ∃ wo : World, wo = wr := ⟨_, rfl⟩
        go_loopw [8, 41] (fun qv i wi => ∃ (k : Nat) (css' : List (Elm 1)), k ≤ n ∧ i = .int .i64 (k : Int) ∧ Own encBool 4 1 (b0 + 1) wi (.slice (some ⟨b0 + 1, 0, none⟩) n n) (bfsRow n es l (seen, q) k).1 ∧ NQ rdL 30 1 (fun q => b0 + 2 ≤ q) wi qv (cc0 :: css') (l :: (bfsRow n es l (seen, q) k).2) ∧ Kp w wi ∧ Bx wi b0 [.int .i64 (n : Int), .slice A es.length c] ∧ b0 + 1 < wi.heap.size) (fun _ i _ => n - (intOf i).toNat)
        case atStart => exact ⟨0, css, Nat.zero_le _, rfl, own, HNQ.out, kr, hB, hlt⟩
        case round =>
          clear own HNQ kr hB hlt HV0 c0 lb i0 i1 hgq hgl
          obtain ⟨k, css', hk, rfl, own, nq, kr, hB, hlt⟩ := hrel
          by_cases hkn : k < n
          · have hkl : (k : Int) < (n : Int) := by omega
            have HI2 := hid (HRow.out k hk)
            have HI3 := hid (HRow.out (k + 1) hkn)
            have HS := hid (bfsRow_succ n es l (seen, q) k)
            rw [HS.out] at HI3
            generalize hps : bfsRow n es l (seen, q) k = p at *
            have HPS := hid hps
            clear hps
            obtain ⟨sn, qn⟩ := p
            dsimp only at own nq HI2
            have hsl : sn.length = n := HI2.out.len
            have d0 := own.boolCell (k := k) hsl.symm (by omega)
            have fz := own.frozen hsl.symm k
            have HSL := hid hsl
            have hsg : sn.getD k true = sn[k] := by simp [List.getD, List.getElem?_eq_getElem (show k < sn.length by omega)]
            have HSG := hid hsg
            have hqn : qn.length ≤ 6 := by have := HI2.out.pot; omega
            have c0 := hB.cell (j := 0) rfl
            have c1 := hB.cell (j := 1) rfl
            have lb : b0 < wr.heap.size := by omega
            generalize sn[k] = sk at *
            clear hsl hsg
            have HG := hid (HGR.out.kp kr)
            go_wp2_with fail
            refine (dHas_any _ n es t k _ HG.out hln hkn).mono ?_
            rintro e w5 ⟨rfl, k5⟩
            have own5 := own.kp k5
            have nq5 := nq.kp k5
            have kr5 := kr.trans k5
            have hB5 := hB.kp k5 lb
            have hz5 := k5.size
            have hlt5 : b0 + 1 < w5.heap.size := by omega
            have d5 := k5.cellS d0
            have fz5 := own5.frozen HSL.out.symm k
            clear own nq kr hB c0 c1 d0 fz k5 lb
            cases hE : hasE n es t k with
            | false =>
              have HBI : Hid (bfsRow n es l (seen, q) (k + 1) = (sn, qn)) := hid (by rw [HS.out, bfsIn, HT.out, hE, if_neg (by simp)])
              replace hE := hid hE
              go_wp2_with fail
              go_roundw
              case rel => exact ⟨k + 1, css', by omega, by go_num, by rw [HBI.out]; exact own5, by rw [HBI.out]; exact nq5, kr5, hB5, hlt5⟩
              case measure => simp [intOf]; omega
            | true =>
              cases sk with
              | true =>
                have HBI : Hid (bfsRow n es l (seen, q) (k + 1) = (sn, qn)) := hid (by rw [HS.out, bfsIn, HT.out, HSG.out, if_neg (by simp)])
                replace hE := hid hE
                go_wp2_with fail
                go_roundw
                case rel => exact ⟨k + 1, css', by omega, by go_num, by rw [HBI.out]; exact own5, by rw [HBI.out]; exact nq5, kr5, hB5, hlt5⟩
                case measure => simp [intOf]; omega
              | false =>
                have HBI : Hid (bfsRow n es l (seen, q) (k + 1) = (sn.set k true, qn ++ [l ++ [k]])) := hid (by rw [HS.out, bfsIn, HT.out, HSG.out, hE, if_pos ⟨rfl, rfl⟩])
                replace hE := hid hE
                go_upto_region 15 with (fail)
                have own6 := own5.boolSet (k := k) HSL.out.symm (by have := HSL.out; omega) true
                have kg := (Kg.refl w5 (b0 + 1)).set (p := ⟨b0 + 1, k, none⟩) (.inl rfl) (.bool true)
                have kr6 := kr5.set (p := ⟨b0 + 1, k, none⟩) (by show w.heap.size ≤ b0 + 1; omega) (.bool true)
                have hB6 := hB5.kg kg (by omega) (by omega)
                have nq6 := nq5.kg kg (by omega)
                have hz6 := kg.size
                clear own5 kr5 hB5 nq5 kg d5 fz5
                generalize hw6 : w5.setCell ⟨b0 + 1, k, none⟩ (.bool true) = w6 at *
                clear hw6
                obtain ⟨Aq, cq, e0, hcq, hmq⟩ := nq6.form
                generalize hLq : (l :: qn).length = Lq at *
                have HLQ := hid hLq
                clear hLq
                subst e0
                have NQ6 := hid nq6
                obtain ⟨gq, oq, v1, rfl, hgq, hcv1, -, hv1⟩ := nq6.head
                obtain rfl : v1 = _ := (List.cons.inj (hcv1.symm.trans HCV.out)).1
                have hlb : (castL l).length ≤ 1000 := by rw [castL_len, HM1.out]; omega
                have hblk := hid (fun i hi => (nq6.own.blk i hi).2)
                clear hcv1 nq6
                go_wp2_with fail
                refine (CloneI_any _ (castL l) w6 hv1 (by omega)).mono ?_
                rintro e w7 ⟨vc, rfl, ownc, k7⟩
                obtain ⟨Ac, cc, rfl, hcc, hmc⟩ := ownc.form
                have hcl : (castL l).length ≤ 1000 := hlb
                have hkb : (k : Int) ≤ 6 := by omega
                have hblo := hid ownc.ge
                have hz7 := k7.size
                go_upto_region 16 with (first | (at_builtin; refine wpl_append_flat rfl (.tmp 60) (.tmp 62) rfl dgIntM encInt_len encInt_one rfl (ownc.alloc _) rfl (Sl.one (R := Pl encInt) w7 _ 3 1 (k : Int) rfl rfl) (by simp; omega) (by simp; omega) (by simp; omega) ?_; intro vn w8 ownn hgn hatn hniln; obtain ⟨An, cn, en, hcn, hmn⟩ := ownn.form; rw [List.length_append, List.length_singleton] at en; subst en; have k68 : Kp w6 w8 := (k7.alloc _).grown hgn hblo.out; have k69 : Kp w6 (w8.alloc (.cells #[.slice An ((castL l).length + 1) cn] 30)) := k68.alloc _; have nq9 := NQ6.out.kp k69) | (at_builtin; refine wpl_append_q (base := 0) rfl (.tmp 58) (.tmp 64) rfl dgIntsM encC_len encC_one rfl nq9.own rfl (Sl.one (R := Pl encC) w8 _ 30 1 (⟨[.slice An ((castL l).length + 1) cn], rfl, by simp [Value.oneCell']⟩ : Elm 1) rfl rfl) (by have := nq9.len; simp only [List.length_cons, List.length_nil] at this ⊢; omega) (by have := nq9.len; simp only [List.length_cons, List.length_nil] at this ⊢; omega) (Nat.zero_le _) ?_; intro vq wA ownq hgq2 hatq))
                have hgr : (w8.alloc (.cells #[.slice An ((castL l).length + 1) cn] 30)).grownBy wA (Value.slice (some ⟨gq, oq, none⟩) Lq cq).ownBlock := hgq2
                have hat : vq.ownBlock = (Value.slice (some ⟨gq, oq, none⟩) Lq cq).ownBlock ∨ vq.ownBlock = some (w8.alloc (.cells #[.slice An ((castL l).length + 1) cn] 30)).heap.size := hatq
                have hnge := ownn.ge
                have hnlt := ownn.owS.here.blk_lt
                have hk8 := k68.size
                have hz9 := alloc_lt w8 (.cells #[.slice An ((castL l).length + 1) cn] 30)
                have hgqb : b0 + 2 ≤ gq := nq9.blk gq rfl
                have hgq6 : gq < w6.heap.size := hblk.out gq rfl
                have nqA := nq9.snoc (x := l ++ [k]) ownq hgr hat (fun q => (Value.slice An ((castL l).length + 1) cn).ownBlock = some q) (fun q hq => ⟨by have := hnge q hq; show b0 + 2 ≤ q; omega, fun e => by
                  simp only [Value.ownBlock, Option.some.injEq] at e
                  have := hnge q hq
                  omega, by have := hnlt q hq; omega⟩) ((ownn.owS.kp ((Kp.refl w8).alloc _)).imp fun w' h => ⟨_, rfl, by rw [castL_snoc]; have := h.sl encInt_len; simpa using this⟩) (fun q hq => hq) (by show b0 + 2 ≤ _; omega)
                have ownA := (own6.kp k69).owS wA hgr.size fun q hq hlt => hgr.block q hlt fun e => by
                  simp only [Value.ownBlock, Option.some.injEq] at e hq
                  omega
                have hBA := (hB6.kp k69 (by omega)).grown hgr (fun e => by simp only [Value.ownBlock, Option.some.injEq] at e; omega) (by omega)
                have krA := (kr6.trans k69).grown hgr fun q hq => by
                  simp only [Value.ownBlock, Option.some.injEq] at hq
                  omega
                have hsA := hgr.size
                clear hgq2 hatq hatn hgn hgr hat nq9 k69 k68 own6 hB6 kr6 ownn ownq
                obtain ⟨Av, cv, ev, hcv, hmv⟩ := nqA.form
                generalize hLv : (l :: qn ++ [l ++ [k]]).length = Lv at *
                clear hLv
                subst ev
                go_wp2_with fail
                go_roundw
                case rel => exact ⟨k + 1, css' ++ [_], by omega, by go_num, by rw [HBI.out]; exact ownA, by rw [HBI.out]; exact nqA, krA, hBA, by omega⟩
                case measure => simp [intOf]; omega
          · obtain rfl : k = n := by omega
            have HRn := hid (HRow.out k (Nat.le_refl _))
            have hkl : ¬ (k : Int) < (k : Int) := by omega
            obtain ⟨Aq, cq, e0, hcq, hmq⟩ := nq.form
            generalize hLq : (l :: (bfsRow k es l (seen, q) k).2).length = Lq at *
            subst e0
            have hLp : 1 ≤ Lq := by rw [← hLq]; simp
            obtain ⟨At, nt, ct, hs1, nqt⟩ : ∃ At nt ct, (∀ wx, (Instr.slice 44 (.slice Aq Lq cq) (some (.int .i64 1)) none none).run Tryz.prog wx = .ok (.slice At nt ct) wx) ∧ NQ rdL 30 1 (fun q => b0 + 2 ≤ q) wr (.slice At nt ct) css' (bfsRow k es l (seen, q) k).2 := ⟨_, _, _, slice_one dgIntsM Aq Lq cq hLp hcq, nq.tail⟩
            clear hLq nq
            go_wp2_with fail
            go_roundg (g' + 1)
            case measure => omega
            case rel => exact ⟨g', _, _, css', rfl, by omega, own, nqt, kr, hB, hlt, HRn, HF⟩
end Go.Proofs.YtlbhidiliogflaaGreat
namespace Go.Proofs.YtlbhidiliogflaaGreat
set_option linter.unusedSimpArgs false
set_option linter.unusedVariables false
open Go.RowKit

/-- what can be reached, by edges or none -/
inductive Rs (n : Nat) (es : List Bool) (a : Nat) : Nat → Prop
  | refl : Rs n es a a
  | step {b c : Nat} : Rs n es a b → c < n → hasE n es b c = true → Rs n es a c
def seenB (s : List Bool) (v : Nat) : Prop := s.getD v false = true
theorem seen_set {s : List Bool} {k : Nat} (hk : k < s.length) (v : Nat) : seenB (s.set k true) v ↔ seenB s v ∨ v = k := by
  unfold seenB
  rw [List.getD_eq_getElem?_getD, List.getD_eq_getElem?_getD, List.getElem?_set]
  by_cases h : k = v
  · subst h
    simp [hk]
  · have : ¬ v = k := fun e => h e.symm
    simp [h, this]
theorem not_seen {s : List Bool} {k : Nat} (hk : k < s.length) : s.getD k true = false ↔ ¬ seenB s k := by
  unfold seenB
  simp [List.getD, List.getElem?_eq_getElem hk]
/-- a row of the search -/
theorem row_facts (n : Nat) (es : List Bool) (l : List Nat) (seen : List Bool) (q : List (List Nat)) (hs : seen.length = n) : ∀ k, k ≤ n →
    (bfsRow n es l (seen, q) k).1.length = n ∧ (∀ v, seenB (bfsRow n es l (seen, q) k).1 v ↔ seenB seen v ∨ (v < k ∧ hasE n es (l.getLastD 0) v = true)) ∧
    (∀ x ∈ q, x ∈ (bfsRow n es l (seen, q) k).2) ∧ (∀ v, seenB (bfsRow n es l (seen, q) k).1 v → seenB seen v ∨ ∃ x ∈ (bfsRow n es l (seen, q) k).2, x.getLastD 0 = v) ∧
    (∀ x ∈ (bfsRow n es l (seen, q) k).2, x ∈ q ∨ ∃ c, c < k ∧ x = l ++ [c] ∧ hasE n es (l.getLastD 0) c = true)
  | 0, _ => ⟨hs, fun v => ⟨.inl, fun h => h.resolve_right fun h => by omega⟩, fun x hx => hx, fun v h => .inl h, fun x hx => .inl hx⟩
  | k + 1, hk => by
    obtain ⟨a1, a2, a3, a4, a5⟩ := row_facts n es l seen q hs k (by omega)
    rw [bfsRow_succ]
    generalize bfsRow n es l (seen, q) k = p at *
    obtain ⟨s, q'⟩ := p
    dsimp only at a1 a2 a3 a4 a5
    unfold bfsIn
    dsimp only
    have hkl : k < s.length := by omega
    split
    · rename_i hc
      dsimp only
      refine ⟨by rw [List.length_set]; exact a1, fun v => ?_, fun x hx => List.mem_append_left _ (a3 x hx), fun v h => ?_, fun x hx => ?_⟩
      · rw [seen_set hkl, a2]
        constructor
        · rintro ((h | ⟨h, h'⟩) | rfl)
          · exact .inl h
          · exact .inr ⟨by omega, h'⟩
          · exact .inr ⟨by omega, hc.1⟩
        · rintro (h | ⟨h, h'⟩)
          · exact .inl (.inl h)
          · by_cases e : v = k
            · exact .inr e
            · exact .inl (.inr ⟨by omega, h'⟩)
      · rcases (seen_set hkl v).1 h with h | rfl
        · rcases a4 v h with h | ⟨x, hx, e⟩
          · exact .inl h
          · exact .inr ⟨x, List.mem_append_left _ hx, e⟩
        · exact .inr ⟨l ++ [v], List.mem_append_right _ (by simp), by simp⟩
      · rcases List.mem_append.1 hx with hx | hx
        · rcases a5 x hx with h | ⟨c, h1, h2⟩
          · exact .inl h
          · exact .inr ⟨c, by omega, h2⟩
        · simp only [List.mem_singleton] at hx
          exact .inr ⟨k, by omega, hx, hc.1⟩
    · rename_i hc
      refine ⟨a1, fun v => ?_, a3, a4, fun x hx => ?_⟩
      · rw [a2]
        constructor
        · rintro (h | ⟨h, h'⟩)
          · exact .inl h
          · exact .inr ⟨by omega, h'⟩
        · rintro (h | ⟨h, h'⟩)
          · exact .inl h
          · by_cases e : v = k
            · subst e
              have h2 : seenB s v := Classical.byContradiction fun hn => hc ⟨h', (not_seen hkl).2 hn⟩
              exact (a2 v).1 h2
            · exact .inr ⟨by omega, h'⟩
      · rcases a5 x hx with h | ⟨c, h1, h2⟩
        · exact .inl h
        · exact .inr ⟨c, by omega, h2⟩
structure BInv (n : Nat) (es : List Bool) (a t : Nat) (seen : List Bool) (q : List (List Nat)) : Prop where
  start : seenB seen a
  sound : ∀ v, seenB seen v → Rs n es a v
  last : ∀ l ∈ q, seenB seen (l.getLastD 0)
  closed : ∀ v, seenB seen v → (v ≠ t ∧ ∀ c, c < n → hasE n es v c = true → seenB seen c) ∨ ∃ l ∈ q, l.getLastD 0 = v
theorem bfs_complete (n : Nat) (es : List Bool) (a t : Nat) : ∀ (g : Nat) (seen : List Bool) (q : List (List Nat)), BInv n es a t seen q → BfsI n g seen q → bfs n es t g seen q = [] → ¬ Rs n es a t
  | g, seen, [], h, _, _ => by
    have hall : ∀ v, Rs n es a v → seenB seen v := fun v hv => by
      induction hv with
      | refl => exact h.start
      | step _ h2 h3 ih =>
        rcases h.closed _ ih with h4 | ⟨l, hl, -⟩
        · exact h4.2 _ h2 h3
        · simp at hl
    intro ht
    rcases h.closed t (hall t ht) with h4 | ⟨l, hl, -⟩
    · exact h4.1 rfl
    · simp at hl
  | 0, seen, l :: q, h, hi, _ => by
    have := hi.pot
    simp at this
  | g + 1, seen, l :: q, h, hi, he => by
    unfold bfs at he
    split at he
    · exact absurd he (hi.els l (List.mem_cons_self ..)).1
    · rename_i hne
      have hr := BfsI.row (es := es) hi n (Nat.le_refl _)
      obtain ⟨b1, b2, b3, b4, b5⟩ := row_facts n es l seen q hi.len n (Nat.le_refl _)
      refine bfs_complete n es a t g _ _ ⟨(b2 a).2 (.inl h.start), fun v hv => ?_, fun x hx => ?_, fun v hv => ?_⟩ hr he
      · rcases (b2 v).1 hv with hv | ⟨h1, h2⟩
        · exact h.sound v hv
        · exact .step (h.sound _ (h.last l (List.mem_cons_self ..))) h1 h2
      · rcases b5 x hx with hx | ⟨c, h1, rfl, h2⟩
        · exact (b2 _).2 (.inl (h.last x (List.mem_cons_of_mem _ hx)))
        · rw [show (l ++ [c]).getLastD 0 = c by simp]
          exact (b2 _).2 (.inr ⟨h1, h2⟩)
      · rcases b4 v hv with hv | ⟨x, hx, e⟩
        · rcases h.closed v hv with ⟨h1, h2⟩ | ⟨x, hx, e⟩
          · exact .inl ⟨h1, fun c hc hec => (b2 c).2 (.inl (h2 c hc hec))⟩
          · rcases List.mem_cons.1 hx with rfl | hx
            · subst e
              exact .inl ⟨hne, fun c hc hec => (b2 c).2 (.inr ⟨hc, hec⟩)⟩
            · exact .inr ⟨x, b3 x hx, e⟩
        · exact .inr ⟨x, hx, e⟩
/-- a walk along edges -/
def Walk (n : Nat) (es : List Bool) : List Nat → Prop
  | [] => True
  | [_] => True
  | a :: b :: r => (b < n ∧ hasE n es a b = true) ∧ Walk n es (b :: r)
theorem walk_snoc (n : Nat) (es : List Bool) (c : Nat) : ∀ l : List Nat, l ≠ [] → Walk n es l → c < n → hasE n es (l.getLastD 0) c = true → Walk n es (l ++ [c])
  | [], h, _, _, _ => absurd rfl h
  | [x], _, _, h1, h2 => ⟨⟨h1, h2⟩, trivial⟩
  | x :: y :: r, _, hw, h1, h2 => ⟨hw.1, walk_snoc n es c (y :: r) (by simp) hw.2 h1 (by simpa using h2)⟩
theorem bfs_sound (n : Nat) (es : List Bool) (a t : Nat) : ∀ (g : Nat) (seen : List Bool) (q : List (List Nat)), BfsI n g seen q → (∀ l ∈ q, l.head? = some a ∧ Walk n es l) → bfs n es t g seen q ≠ [] →
    (bfs n es t g seen q).head? = some a ∧ Walk n es (bfs n es t g seen q) ∧ (bfs n es t g seen q).getLastD 0 = t ∧ (bfs n es t g seen q).length ≤ n
  | g, seen, [], _, _, he => absurd (bfs_nil n es t g seen) he
  | 0, seen, l :: q, hi, _, _ => by
    have := hi.pot
    simp at this
  | g + 1, seen, l :: q, hi, hq, he => by
    unfold bfs at he ⊢
    split
    · rename_i ht
      have := (hi.els l (List.mem_cons_self ..)).2.2
      exact ⟨(hq l (List.mem_cons_self ..)).1, (hq l (List.mem_cons_self ..)).2, ht, by omega⟩
    · rename_i hne
      rw [if_neg hne] at he
      have hr := BfsI.row (es := es) hi n (Nat.le_refl _)
      obtain ⟨b1, b2, b3, b4, b5⟩ := row_facts n es l seen q hi.len n (Nat.le_refl _)
      refine bfs_sound n es a t g _ _ hr (fun x hx => ?_) he
      rcases b5 x hx with hx | ⟨c, h1, rfl, h2⟩
      · exact hq x (List.mem_cons_of_mem _ hx)
      · obtain ⟨h3, h4⟩ := hq l (List.mem_cons_self ..)
        have hl : l ≠ [] := (hi.els l (List.mem_cons_self ..)).1
        refine ⟨?_, walk_snoc n es c l hl h4 h1 h2⟩
        rw [List.head?_append, h3]
        rfl
theorem path_some {n : Nat} {es : List Bool} {a t : Nat} (ha : a < n) (h : pathF n es a t ≠ []) : (pathF n es a t).head? = some a ∧ Walk n es (pathF n es a t) ∧ (pathF n es a t).getLastD 0 = t ∧ (pathF n es a t).length ≤ n :=
  bfs_sound n es a t n _ _ (BfsI.start n a ha) (fun l hl => by simp only [List.mem_singleton] at hl; subst hl; exact ⟨rfl, trivial⟩) h
theorem path_none {n : Nat} {es : List Bool} {a t : Nat} (ha : a < n) (h : pathF n es a t = []) : ¬ Rs n es a t := by
  have h0 : ∀ v, ¬ seenB (List.replicate n false) v := fun v hv => by
    unfold seenB at hv
    rw [List.getD_eq_getElem?_getD, List.getElem?_replicate] at hv
    by_cases h1 : v < n
    · rw [if_pos h1] at hv
      cases hv
    · rw [if_neg h1] at hv
      cases hv
  refine bfs_complete n es a t n _ _ ⟨(seen_set (by simpa using ha) a).2 (.inr rfl), fun v hv => ?_, fun l hl => ?_, fun v hv => ?_⟩ (BfsI.start n a ha) h
  · rcases (seen_set (by simpa using ha) v).1 hv with hv | rfl
    · exact absurd hv (h0 v)
    · exact .refl
  · simp only [List.mem_singleton] at hl
    subst hl
    exact (seen_set (by simpa using ha) _).2 (.inr rfl)
  · rcases (seen_set (by simpa using ha) v).1 hv with hv | rfl
    · exact absurd hv (h0 v)
    · exact .inr ⟨[v], by simp, rfl⟩
end Go.Proofs.YtlbhidiliogflaaGreat
