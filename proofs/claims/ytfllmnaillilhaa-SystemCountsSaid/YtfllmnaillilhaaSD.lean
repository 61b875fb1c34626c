/-
Copies of rows and of systems: the walks.
A copy of a system under way: what is known of it.
A copy of a system: the walk.
-/
import Derived.Test.YtfllmnaillilhaaSC
import Derived.Deep.CutRange
namespace Go.Proofs.Ytfllmnaillilhaa
set_option linter.unusedSimpArgs false
set_option linter.unusedVariables false
open Go.RowKit

theorem stRowM : SliceT Try.prog 23 30 2 32 := SliceT.mk' Try.underlying23 (z := .agg #[.slice none 0 0, .int .i64 0]) (by kernel_rfl) rfl (by omega)
theorem stGraphM : SliceT Try.prog 24 65 3 40 := SliceT.mk' Try.underlying24 (z := .agg #[.int .i64 0, .int .i64 0, .slice none 0 0]) (by kernel_rfl) rfl (by omega)
theorem stRowsM : SliceT Try.prog 25 23 1 24 := SliceT.mk' Try.underlying25 (z := .slice none 0 0) (by kernel_rfl) rfl (by omega)
abbrev RawRows := Sl (Pl (encC (size := 2))) 2
abbrev RawGrs := Sl (Pl (encC (size := 3))) 3
set_option maxHeartbeats 1000000 in
theorem CloneTerm_any (v : Value) (l : List Term) (w : World) (hS : Terms w v l) (hl : l.length ≤ 1000000000) :
    Calls Try.prog 95 #[v] w fun e w' => ∃ v', e = .returned v' ∧ Own encTerm 49 2 w.heap.size w' v' l ∧ Kp w w' := by
  obtain ⟨A, c, rfl, hc, hm⟩ := hS.form
  rcases A with _ | A
  · have hl0 : l = [] := by
      cases l with
      | nil => rfl
      | cons x l =>
        obtain ⟨_, _, _, hA, _⟩ := hS.at_ (k := 0) (by simp)
        cases hA
    subst hl0
    rw [List.length_nil]
    have hnil := fun (W : World) => Lib.run_eql_slice_nil (P := Try.prog) W 28 49 none 0 c 0 0 Try.underlying28
    go_enter Try.func95, Try.ntmps95
    go_wp2
    go_ret
    exact ⟨_, rfl, Own.nil _ _ _ _ _, Kp.refl _⟩
  · have hnil := fun (W : World) => Lib.run_eql_slice_nil (P := Try.prog) W 28 49 (some A) l.length c 0 0 Try.underlying28
    go_enter Try.func95, Try.ntmps95
    go_wp2_with (at_builtin; refine wpl_append_flat rfl (.tmp 5) (.tmp 6) rfl stTermM encTerm_len encTerm_one rfl (Own.lit (base := w.heap.size) encTerm w #[] [] (Nat.le_refl _) (by simp) rfl rfl) rfl (hS.keep (pl_stable _) ((Kp.refl w).alloc _)) (by simp; omega) (by simp; omega) (by simp) ?_; intro v' w' hown hgrow hat hnil')
    go_ret
    exact ⟨_, rfl, by simpa using hown, ((Kp.refl w).alloc _).grown hgrow (fun k hk => by cases hk; exact Nat.le_refl _)⟩
set_option maxHeartbeats 1000000 in
theorem CloneRow_any (v : Value) (l : List (Elm 2)) (w : World) (hS : RawRows w v l) (hl : l.length ≤ 1000000000) :
    Calls Try.prog 94 #[v] w fun e w' => ∃ v', e = .returned v' ∧ Own encC 30 2 w.heap.size w' v' l ∧ Kp w w' := by
  obtain ⟨A, c, rfl, hc, hm⟩ := hS.form
  rcases A with _ | A
  · have hl0 : l = [] := by
      cases l with
      | nil => rfl
      | cons x l =>
        obtain ⟨_, _, _, hA, _⟩ := hS.at_ (k := 0) (by simp)
        cases hA
    subst hl0
    rw [List.length_nil]
    have hnil := fun (W : World) => Lib.run_eql_slice_nil (P := Try.prog) W 23 30 none 0 c 0 0 Try.underlying23
    go_enter Try.func94, Try.ntmps94
    go_wp2
    go_ret
    exact ⟨_, rfl, Own.nil _ _ _ _ _, Kp.refl _⟩
  · have hnil := fun (W : World) => Lib.run_eql_slice_nil (P := Try.prog) W 23 30 (some A) l.length c 0 0 Try.underlying23
    go_enter Try.func94, Try.ntmps94
    go_wp2_with (at_builtin; refine wpl_append_flat rfl (.tmp 5) (.tmp 6) rfl stRowM encC_len encC_one rfl (Own.lit (base := w.heap.size) encC w #[] [] (Nat.le_refl _) (by simp) rfl rfl) rfl (hS.keep (pl_stable _) ((Kp.refl w).alloc _)) (by simp; omega) (by simp; omega) (by simp) ?_; intro v' w' hown hgrow hat hnil')
    go_ret
    exact ⟨_, rfl, by simpa using hown, ((Kp.refl w).alloc _).grown hgrow (fun k hk => by cases hk; exact Nat.le_refl _)⟩
set_option maxHeartbeats 1000000 in
theorem CloneGraph_any (v : Value) (l : List (Elm 3)) (w : World) (hS : RawGrs w v l) (hl : l.length ≤ 1000000000) :
    Calls Try.prog 76 #[v] w fun e w' => ∃ v', e = .returned v' ∧ Own encC 65 3 w.heap.size w' v' l ∧ Kp w w' := by
  obtain ⟨A, c, rfl, hc, hm⟩ := hS.form
  rcases A with _ | A
  · have hl0 : l = [] := by
      cases l with
      | nil => rfl
      | cons x l =>
        obtain ⟨_, _, _, hA, _⟩ := hS.at_ (k := 0) (by simp)
        cases hA
    subst hl0
    rw [List.length_nil]
    have hnil := fun (W : World) => Lib.run_eql_slice_nil (P := Try.prog) W 24 65 none 0 c 0 0 Try.underlying24
    go_enter Try.func76, Try.ntmps76
    go_wp2
    go_ret
    exact ⟨_, rfl, Own.nil _ _ _ _ _, Kp.refl _⟩
  · have hnil := fun (W : World) => Lib.run_eql_slice_nil (P := Try.prog) W 24 65 (some A) l.length c 0 0 Try.underlying24
    go_enter Try.func76, Try.ntmps76
    go_wp2_with (at_builtin; refine wpl_append_flat rfl (.tmp 5) (.tmp 6) rfl stGraphM encC_len encC_one rfl (Own.lit (base := w.heap.size) encC w #[] [] (Nat.le_refl _) (by simp) rfl rfl) rfl (hS.keep (pl_stable _) ((Kp.refl w).alloc _)) (by simp; omega) (by simp; omega) (by simp) ?_; intro v' w' hown hgrow hat hnil')
    go_ret
    exact ⟨_, rfl, by simpa using hown, ((Kp.refl w).alloc _).grown hgrow (fun k hk => by cases hk; exact Nat.le_refl _)⟩
theorem rdRow_one {w : World} {cs : List Value} {r : Row} (h : rdRow w cs r) : ∀ u ∈ cs, u.oneCell' = true := by
  obtain ⟨v, rfl, ht⟩ := h
  obtain ⟨A, c, rfl, -, -⟩ := ht.form
  simp [Value.oneCell']
theorem rdGr_one {w : World} {cs : List Value} {g : Gr} (h : rdGr w cs g) : ∀ u ∈ cs, u.oneCell' = true := by
  obtain ⟨v, rfl, ht⟩ := h
  obtain ⟨A, c, rfl, -, -⟩ := ht.form
  simp [Value.oneCell']
/-- the first k rows have terms of their own, the others those they had -/
structure Copied (w wr : World) (v : Value) (k : Nat) (css : List (Elm 2)) (l : List Row) : Prop where
  own : Own encC 30 2 w.heap.size wr v css
  len : css.length = l.length
  new : ∀ j (h1 : j < css.length) (h2 : j < l.length), j < k → ∃ T : Nat → Prop, (∀ i, T i → w.heap.size ≤ i ∧ v.ownBlock ≠ some i ∧ i < wr.heap.size) ∧ OwS T wr fun w' => rdRow w' css[j].val l[j]
  old : ∀ j (h1 : j < css.length) (h2 : j < l.length), k ≤ j → rdRow w css[j].val l[j]
theorem Copied.done {w wr : World} {v : Value} {k : Nat} {css : List (Elm 2)} {l : List Row} (h : Copied w wr v k css l) (hk : l.length ≤ k) : NL rdRow 30 2 (fun q => w.heap.size ≤ q ∧ q < wr.heap.size) wr v css l :=
  ⟨h.own.less (Nat.zero_le _), h.len, fun q hq => ⟨h.own.ge q hq, h.own.blk_lt q hq⟩, fun j h1 h2 => by
    obtain ⟨T, hT, ho⟩ := h.new j h1 h2 (by omega)
    exact ⟨T, fun i hi => ⟨⟨(hT i hi).1, (hT i hi).2.2⟩, (hT i hi).2.1, (hT i hi).2.2⟩, ho⟩⟩
/-- a store of new terms -/
theorem Copied.next {w wr w2 : World} {g n c k : Nat} {css : List (Elm 2)} {l : List Row} (h : Copied w wr (.slice (some ⟨g, 0, none⟩) n c) k css l) (hn : n = l.length) (hk : k < css.length) (hk2 : k < l.length) {tv : Value} (hu : tv.oneCell' = true) (hkp : Kp wr w2)
    (ht : Own encTerm 49 2 wr.heap.size w2 tv l[k].terms) (hb : css[k].val[1]? = some (.int .i64 l[k].bound)) :
    Copied w (w2.setCell ⟨g, k * 2, none⟩ tv) (.slice (some ⟨g, 0, none⟩) n c) (k + 1) (css.set k (css[k].set 0 tv hu)) l := by
  have hlen := h.len
  have hgl := h.own.blk_lt g rfl
  have hge := h.own.ge g rfl
  have own2 := h.own.kp hkp
  have own3 := own2.setE (k := k) (j := 0) (u := tv) (by omega) hk (by omega) hu
  have hkg : Kg w2 (w2.setCell ⟨g, k * 2, none⟩ tv) g := (Kg.refl _ _).set (.inl rfl) _
  refine ⟨own3, by simp [h.len], fun j h1 h2 hj => ?_, fun j h1 h2 hj => ?_⟩
  · rw [List.getElem_set]
    by_cases hkj : k = j
    · subst hkj
      rw [if_pos rfl]
      refine ⟨fun q => tv.ownBlock = some q, fun i hi => ?_, ?_⟩
      · have a1 := ht.ge i hi
        have a2 := ht.blk_lt i hi
        exact ⟨by omega, fun e => absurd (show g = i by simpa [Value.ownBlock] using e) (by omega), by rw [set_size]; exact a2⟩
      · have h3 := (ht.kg hkg hgl).owS
        refine h3.imp fun w' ho => ?_
        refine ⟨tv, ?_, ho.sl encTerm_len⟩
        have hl2 := css[k].property.1
        have e1 : (css[k].set 0 tv hu).val = css[k].val.set 0 tv := rfl
        rw [e1]
        generalize css[k].val = cs at *
        match cs, hl2, hb with
        | [a, b], _, hb =>
          simp only [List.getElem?_cons_succ, List.getElem?_cons_zero, Option.some.injEq] at hb
          subst hb
          rfl
    · rw [if_neg hkj]
      obtain ⟨T, hT, ho⟩ := h.new j (by simpa using h1) h2 (by omega)
      refine ⟨T, fun i hi => ⟨(hT i hi).1, (hT i hi).2.1, by rw [set_size]; exact Nat.lt_of_lt_of_le (hT i hi).2.2 hkp.size⟩, (ho.kp hkp).kg hkg fun hTg => (hT g hTg).2.1 rfl⟩
  · rw [List.getElem_set, if_neg (by omega)]
    exact h.old j (by simpa using h1) h2 (by omega)
set_option maxRecDepth 8000 in
set_option maxHeartbeats 4000000 in
theorem sCopied_any (v : Value) (l : List Row) (w : World) (hS : RowsL w v l) (hl : l.length ≤ 1000000) (hts : ∀ r ∈ l, r.terms.length ≤ 1000000) :
    Calls Try.prog 75 #[v] w fun e w' => ∃ v' css, e = .returned v' ∧ NL rdRow 30 2 (fun q => w.heap.size ≤ q ∧ q < w'.heap.size) w' v' css l ∧ Kp w w' := by
  obtain ⟨css0, hraw, hlen, hrd⟩ := sl_raw hS (fun _ _ h => rdRow_one h)
  have HT := hid hts
  clear hts
  go_enter Try.func75, Try.ntmps75
  go_wp2_with fail
  refine (CloneRow_any v css0 _ hraw (by omega)).mono ?_
  rintro e w1 ⟨v1, rfl, own1, k1⟩
  have hC0 : Copied w w1 v1 0 css0 l := ⟨own1, hlen, fun j _ _ hj => absurd hj (by omega), fun j h1 h2 _ => hrd j h1 h2⟩
  obtain ⟨A1, c1, rfl, hc1, hm1⟩ := own1.form
  rw [hlen] at hC0 hc1 ⊢
  clear own1 hraw hrd
  go_wp2
  go_loopw [9] (fun i wr => ∃ (k : Nat) (css : List (Elm 2)), k ≤ l.length ∧ i = .int .i64 k ∧ Copied w wr (.slice A1 l.length c1) k css l ∧ Kp w wr) (fun i _ => l.length - (intOf i).toNat)
  case atStart => exact ⟨0, css0, Nat.zero_le _, rfl, hC0, k1⟩
  case round =>
    clear hC0 k1
    obtain ⟨k, css, hk, rfl, hC, hkr⟩ := hrel
    by_cases hlt : k < l.length
    · have hkc : k < css.length := by have := hC.len; omega
      obtain ⟨tv, hcs, hT⟩ := hC.old k hkc hlt (Nat.le_refl _)
      have htl := HT.out l[k] (List.getElem_mem hlt)
      obtain ⟨g, rfl, hge, hgl⟩ := hC.own.at_ (by omega)
      have cell0 : wr.cell? ⟨g, k * 2, none⟩ = some tv := by
        have := hC.own.cellAt encC_len (by have := hC.len; omega) hkc (j := 0) (by omega)
        rw [Nat.add_zero] at this
        rw [this]
        show css[k].val[0]? = some tv
        rw [hcs]; rfl
      have fr0 : wr.frozen? ⟨g, k * 2, none⟩ = false := hC.own.frozen (by have := hC.len; omega) _
      have hb1 : css[k].val[1]? = some (.int .i64 l[k].bound) := by rw [hcs]; rfl
      obtain ⟨A2, c2, rfl, hc2, hm2⟩ := hT.form
      have hT2 := hT.keep (pl_stable _) hkr
      have q1 : (0 : Int) ≤ k := by omega
      have q2 : (k : Int) < l.length := by omega
      clear hT hcs
      go_wp2_with fail
      refine (CloneTerm_any _ l[k].terms _ hT2 (by omega)).mono ?_
      rintro e w3 ⟨v3, rfl, own3, k3⟩
      obtain ⟨A3, c3, rfl, hc3, hm3⟩ := own3.form
      have hN := hC.next rfl hkc hlt (tv := .slice A3 l[k].terms.length c3) rfl k3 own3 hb1
      have fr1 : w3.frozen? ⟨g, k * 2, none⟩ = false := (World.frozen?_of_block (k3.block hgl)).trans fr0
      have cell1 := k3.cellS cell0
      have hks := (hkr.trans k3).set (p := ⟨g, k * 2, none⟩) hge (.slice A3 l[k].terms.length c3)
      clear hC own3 cell0 fr0
      go_wp2
      go_roundw
      case rel => exact ⟨k + 1, _, by omega, by go_num, hN, hks⟩
      case measure => simp [intOf]; omega
    · have hD := hC.done (by omega)
      go_wp2
      go_ret
      exact ⟨_, css, rfl, hD, hkr⟩
end Go.Proofs.Ytfllmnaillilhaa
namespace Go.Proofs.Ytfllmnaillilhaa
set_option linter.unusedSimpArgs false
set_option linter.unusedVariables false
open Go.RowKit

/-! tags of blocks -/
/-- which blocks from B on belong to which part -/
def Tags (B : Nat) (w : World) (τ : Nat → Nat) : Prop := ∀ q, τ q ≠ 0 → B ≤ q ∧ q < w.heap.size
theorem Tags.grow {B : Nat} {w w' : World} {τ : Nat → Nat} (h : Tags B w τ) (hs : w.heap.size ≤ w'.heap.size) : Tags B w' τ := fun q hq => ⟨(h q hq).1, Nat.lt_of_lt_of_le (h q hq).2 hs⟩
/-- new blocks get a tag -/
def tagN (τ : Nat → Nat) (z : Nat) (t : Nat) (z' : Nat) : Nat → Nat := fun q => if z ≤ q ∧ q < z' then t else τ q
theorem tagN_old {B : Nat} {w : World} {τ : Nat → Nat} (h : Tags B w τ) (t z' : Nat) {q u : Nat} (hu : u ≠ 0) (hq : τ q = u) : tagN τ w.heap.size t z' q = u := by
  have := h q (by rw [hq]; exact hu)
  unfold tagN
  rw [if_neg (by omega)]
  exact hq
theorem tagN_new {τ : Nat → Nat} {z t z' q : Nat} (h1 : z ≤ q) (h2 : q < z') : tagN τ z t z' q = t := by unfold tagN; rw [if_pos ⟨h1, h2⟩]
theorem Tags.ext {B : Nat} {w w' : World} {τ : Nat → Nat} (h : Tags B w τ) (t : Nat) (hs : w.heap.size ≤ w'.heap.size) (hB : B ≤ w.heap.size) : Tags B w' (tagN τ w.heap.size t w'.heap.size) := fun q hq => by
  unfold tagN at hq
  split at hq
  · omega
  · have := h q hq
    omega
/-- a system whose parts may be written; the parts have tags -/
structure SysO (τ : Nat → Nat) (w : World) (vb vr vg vc : Value) (s : Sys) : Prop where
  box : Own encRng 59 2 0 w vb s.box
  boxT : ∀ q, vb.ownBlock = some q → τ q = 1
  rows : ∃ css, NL rdRow 30 2 (fun q => τ q = 2) w vr css s.rows
  graphs : OwS (fun q => τ q = 3) w fun w' => GrsL w' vg s.graphs
  cases : ∃ vs : List (Elm 1), Own encC 23 1 0 w vc vs ∧ vs.length = s.cases.length ∧ (∀ q, vc.ownBlock = some q → τ q = 4) ∧
    ∀ j (h1 : j < vs.length) (h2 : j < s.cases.length), ∃ v css, vs[j].val = [v] ∧ NL rdRow 30 2 (fun q => τ q = 5 + j) w v css s.cases[j]
theorem SysO.sysv {τ : Nat → Nat} {w : World} {vb vr vg vc : Value} {s : Sys} (h : SysO τ w vb vr vg vc s) : SysV w (.agg #[vb, vr, vg, vc]) s := by
  have h1 := h.box.sl encRng_len
  obtain ⟨css, h2⟩ := h.rows
  have h2 := h2.sl
  have h3 := h.graphs.here
  obtain ⟨vs, h4, h5, -, h6⟩ := h.cases
  have h7 : CasesL w vc s.cases := sl_of (h4.sl encC_len) h5 fun k k1 k2 => by
    obtain ⟨v, css, e, hn⟩ := h6 k k1 k2
    exact ⟨v, e, hn.sl⟩
  obtain ⟨A1, c1, rfl, -, -⟩ := h1.form
  obtain ⟨A2, c2, rfl, -, -⟩ := h2.form
  obtain ⟨A3, c3, rfl, -, -⟩ := h3.form
  obtain ⟨A4, c4, rfl, -, -⟩ := h7.form
  exact ⟨A1, c1, A2, c2, A3, c3, A4, c4, rfl, h1, h2, h3, h7⟩
/-- how long the parts of a system may be -/
structure SizeS (s : Sys) : Prop where
  box : s.box.length ≤ 128
  rows : s.rows.length ≤ 1024
  terms : ∀ r ∈ s.rows, r.terms.length ≤ 128
  graphs : s.graphs.length ≤ 64
  least : ∀ g ∈ s.graphs, g.least.length ≤ 36
  cases : s.cases.length ≤ 1024
  case : ∀ l ∈ s.cases, l.length ≤ 64 ∧ ∀ r ∈ l, r.terms.length ≤ 128
theorem size_of {s : Sys} (h : validS s = true) : SizeS s := by
  obtain ⟨h1, h2, ⟨h3, h4⟩, h5, h6, h7, h8⟩ := validS_parts h
  obtain ⟨-, v2, v3⟩ := validB_ok h4
  refine ⟨v2, h3, fun r hr => ?_, h5, fun g hg => ?_, h6, fun l hl => ⟨(h8 l hl).1, fun r hr => ?_⟩⟩
  · have := (fitsB_ok (v3 r hr)).2.1
    omega
  · have h9 := h7 g hg
    unfold grOk at h9
    rw [Bool.and_eq_true, decide_eq_true_eq] at h9
    obtain ⟨⟨a1, a2, a3, a4, a5⟩, -⟩ := h9
    have := sq_bd a1 a2
    omega
  · obtain ⟨-, -, v4⟩ := validB_ok (h8 l hl).2
    have := (fitsB_ok (v4 r hr)).2.1
    omega
/-- what the first statement of clone leaves -/
structure CloneI (w0 w wx : World) (bo : Nat) (s : Sys) : Prop where
  ex : ∃ (τ : Nat → Nat) (A1 A2 A3 : Option Addr) (c1 c2 c3 : Nat) (css : List (Elm 2)) (gcs : List (Elm 3)), Tags w0.heap.size wx τ ∧ τ bo = 0 ∧ Bx wx bo [.slice A1 s.box.length c1, .slice A2 s.rows.length c2, .slice A3 s.graphs.length c3, .slice none 0 0] ∧
    Own encRng 59 2 0 wx (.slice A1 s.box.length c1) s.box ∧ (∀ q, (Value.slice A1 s.box.length c1).ownBlock = some q → τ q = 1) ∧
    NL rdRow 30 2 (fun q => τ q = 2) wx (.slice A2 s.rows.length c2) css s.rows ∧
    Own encC 65 3 0 wx (.slice A3 s.graphs.length c3) gcs ∧ (∀ q, (Value.slice A3 s.graphs.length c3).ownBlock = some q → τ q = 3) ∧
    gcs.length = s.graphs.length ∧ ∀ k (h1 : k < gcs.length) (h2 : k < s.graphs.length), rdGr w gcs[k].val s.graphs[k]
  lo : w0.heap.size ≤ bo
  lt : bo < wx.heap.size
  kp : Kp w0 wx
theorem cloneI_mk {w0 w wj wz : World} {bo : Nat} {s : Sys} {A1 A2 A3 : Option Addr} {d1 d2 d3 : Nat} {css : List (Elm 2)} {gcs : List (Elm 3)} {x1 y1 x2 y2 x3 y3 : Nat}
    (hB : Bx wz bo [.slice A1 s.box.length d1, .slice A2 s.rows.length d2, .slice A3 s.graphs.length d3, .slice none 0 0]) (kS : Kg wj wz bo) (hk : Kp w0 wj) (hlo : w0.heap.size ≤ bo) (hbol : bo < wj.heap.size)
    (own1 : Own encRng 59 2 0 wj (.slice A1 s.box.length d1) s.box) (lo1 : ∀ q, (Value.slice A1 s.box.length d1).ownBlock = some q → x1 ≤ q) (hi1 : ∀ q, (Value.slice A1 s.box.length d1).ownBlock = some q → q < y1)
    (nl2 : NL rdRow 30 2 (fun q => x2 ≤ q ∧ q < y2) wj (.slice A2 s.rows.length d2) css s.rows)
    (own3 : Own encC 65 3 0 wj (.slice A3 s.graphs.length d3) gcs) (lo3 : ∀ q, (Value.slice A3 s.graphs.length d3).ownBlock = some q → x3 ≤ q) (hi3 : ∀ q, (Value.slice A3 s.graphs.length d3).ownBlock = some q → q < y3)
    (h0 : w0.heap.size ≤ x1) (h1 : x1 ≤ y1) (h12 : y1 ≤ x2) (h2 : x2 ≤ y2) (h23 : y2 ≤ x3) (h3 : x3 ≤ y3) (h4 : y3 ≤ wj.heap.size)
    (hb : bo < x1 ∨ (y1 ≤ bo ∧ bo < x2) ∨ (y2 ≤ bo ∧ bo < x3) ∨ y3 ≤ bo)
    (hgl : gcs.length = s.graphs.length) (hgr : ∀ k (h1 : k < gcs.length) (h2 : k < s.graphs.length), rdGr w gcs[k].val s.graphs[k]) : CloneI w0 w wz bo s := by
  have n1 : ∀ q, (Value.slice A1 s.box.length d1).ownBlock = some q → q ≠ bo := fun q hq => by have := lo1 q hq; have := hi1 q hq; omega
  have n3 : ∀ q, (Value.slice A3 s.graphs.length d3).ownBlock = some q → q ≠ bo := fun q hq => by have := lo3 q hq; have := hi3 q hq; omega
  have keep : ∀ k, k < wj.heap.size → k ≠ bo → wz.heap[k]? = wj.heap[k]? := fun k hk hne => kS.block k hk (fun e => hne (by injection e))
  refine ⟨⟨fun q => if (Value.slice A1 s.box.length d1).ownBlock = some q then 1 else if x2 ≤ q ∧ q < y2 then 2 else if (Value.slice A3 s.graphs.length d3).ownBlock = some q then 3 else 0, A1, A2, A3, d1, d2, d3, css, gcs, ?_, ?_, hB, ?_, ?_, ?_, ?_, ?_, hgl, hgr⟩, hlo, Nat.lt_of_lt_of_le hbol kS.size, Kg.to_kp hk kS hlo⟩
  · intro q hq
    have := kS.size
    dsimp only at hq
    split at hq
    · rename_i h
      have := lo1 q h
      have := hi1 q h
      omega
    · split at hq
      · omega
      · split at hq
        · rename_i h
          have := lo3 q h
          have := hi3 q h
          omega
        · exact absurd rfl hq
  · dsimp only
    rw [if_neg (fun h => n1 bo h rfl), if_neg (by omega), if_neg (fun h => n3 bo h rfl)]
  · exact own1.owS wz kS.size fun k hk hlt => keep k hlt (n1 k hk)
  · intro q hq
    dsimp only
    rw [if_pos hq]
  · refine (nl2.step kS.size fun k hk hlt => keep k hlt (by omega)).mono fun k hk => ?_
    dsimp only
    rw [if_neg (fun h => by have := hi1 k h; omega), if_pos hk]
  · exact own3.owS wz kS.size fun k hk hlt => keep k hlt (n3 k hk)
  · intro q hq
    have := lo3 q hq
    dsimp only
    rw [if_neg (fun h => by have := hi1 q h; omega), if_neg (by omega), if_pos hq]
/-- a copy under way: kg graphs and kc cases are done -/
structure CloneS (w0 w wx : World) (bo : Nat) (τ : Nat → Nat) (s : Sys) (v1 v2 v3 v4 : Value) (css : List (Elm 2)) (gcs : List (Elm 3)) (vs : List (Elm 1)) (kg kc : Nat) : Prop where
  tags : Tags w0.heap.size wx τ
  bo0 : τ bo = 0
  box : Bx wx bo [v1, v2, v3, v4]
  o1 : Own encRng 59 2 0 wx v1 s.box
  t1 : ∀ q, v1.ownBlock = some q → τ q = 1
  n2 : NL rdRow 30 2 (fun q => τ q = 2) wx v2 css s.rows
  o3 : Own encC 65 3 0 wx v3 gcs
  t3 : ∀ q, v3.ownBlock = some q → τ q = 3
  l3 : gcs.length = s.graphs.length
  new3 : ∀ j (h1 : j < gcs.length) (h2 : j < s.graphs.length), j < kg → ∃ T : Nat → Prop, (∀ i, T i → τ i = 3 ∧ v3.ownBlock ≠ some i) ∧ OwS T wx fun w' => rdGr w' gcs[j].val s.graphs[j]
  old3 : ∀ j (h1 : j < gcs.length) (h2 : j < s.graphs.length), kg ≤ j → rdGr w gcs[j].val s.graphs[j]
  o4 : Own encC 23 1 0 wx v4 vs
  t4 : ∀ q, v4.ownBlock = some q → τ q = 4
  l4 : vs.length = kc
  n4 : ∀ j (h1 : j < vs.length) (h2 : j < s.cases.length), ∃ v css, vs[j].val = [v] ∧ NL rdRow 30 2 (fun q => τ q = 5 + j) wx v css s.cases[j]
  lo : w0.heap.size ≤ bo
  lt : bo < wx.heap.size
  kp : Kp w0 wx
section
variable {w0 w wx wy : World} {bo : Nat} {τ τ' : Nat → Nat} {s : Sys} {v1 v2 v3 v4 : Value} {css : List (Elm 2)} {gcs : List (Elm 3)} {vs : List (Elm 1)} {kg kc : Nat}
theorem CloneI.start (h : CloneI w0 w wx bo s) : ∃ (τ : Nat → Nat) (A1 A2 A3 : Option Addr) (c1 c2 c3 : Nat) (css : List (Elm 2)) (gcs : List (Elm 3)), CloneS w0 w wx bo τ s (.slice A1 s.box.length c1) (.slice A2 s.rows.length c2) (.slice A3 s.graphs.length c3) (.slice none 0 0) css gcs [] 0 0 := by
  obtain ⟨⟨τ, A1, A2, A3, c1, c2, c3, css, gcs, h1, h2, h3, h4, h5, h6, h7, h8, h9, h10⟩, h11, h12, h13⟩ := h
  exact ⟨τ, A1, A2, A3, c1, c2, c3, css, gcs, h1, h2, h3, h4, h5, h6, h7, h8, h9, fun j _ _ hj => absurd hj (by omega), fun j a b _ => h10 j a b, Own.nil _ _ _ _ _, fun q hq => by simp [Value.ownBlock] at hq, rfl, fun j hj => absurd hj (by simp), h11, h12, h13⟩
theorem CloneS.kpS (h : CloneS w0 w wx bo τ s v1 v2 v3 v4 css gcs vs kg kc) (hk : Kp wx wy) : CloneS w0 w wy bo τ s v1 v2 v3 v4 css gcs vs kg kc where
  tags := h.tags.grow hk.size
  bo0 := h.bo0
  box := h.box.kp hk h.lt
  o1 := h.o1.kp hk
  t1 := h.t1
  n2 := h.n2.kp hk
  o3 := h.o3.kp hk
  t3 := h.t3
  l3 := h.l3
  new3 := fun j h1 h2 hj => by
    obtain ⟨T, hT, ho⟩ := h.new3 j h1 h2 hj
    exact ⟨T, hT, ho.kp hk⟩
  old3 := h.old3
  o4 := h.o4.kp hk
  t4 := h.t4
  l4 := h.l4
  n4 := fun j h1 h2 => by
    obtain ⟨v, c, e, hn⟩ := h.n4 j h1 h2
    exact ⟨v, c, e, hn.kp hk⟩
  lo := h.lo
  lt := Nat.lt_of_lt_of_le h.lt hk.size
  kp := h.kp.trans hk
theorem CloneS.retag (h : CloneS w0 w wx bo τ s v1 v2 v3 v4 css gcs vs kg kc) (ht : Tags w0.heap.size wx τ') (hb : τ' bo = 0) (hr : ∀ q t, t ≠ 0 → τ q = t → τ' q = t) : CloneS w0 w wx bo τ' s v1 v2 v3 v4 css gcs vs kg kc where
  tags := ht
  bo0 := hb
  box := h.box
  o1 := h.o1
  t1 := fun q hq => hr q 1 (by omega) (h.t1 q hq)
  n2 := h.n2.mono fun q hq => hr q 2 (by omega) hq
  o3 := h.o3
  t3 := fun q hq => hr q 3 (by omega) (h.t3 q hq)
  l3 := h.l3
  new3 := fun j h1 h2 hj => by
    obtain ⟨T, hT, ho⟩ := h.new3 j h1 h2 hj
    exact ⟨T, fun i hi => ⟨hr i 3 (by omega) (hT i hi).1, (hT i hi).2⟩, ho⟩
  old3 := h.old3
  o4 := h.o4
  t4 := fun q hq => hr q 4 (by omega) (h.t4 q hq)
  l4 := h.l4
  n4 := fun j h1 h2 => by
    obtain ⟨v, c, e, hn⟩ := h.n4 j h1 h2
    exact ⟨v, c, e, hn.mono fun q hq => hr q (5 + j) (by omega) hq⟩
  lo := h.lo
  lt := h.lt
  kp := h.kp
/-- later worlds, with tags for what is new -/
theorem CloneS.next (h : CloneS w0 w wx bo τ s v1 v2 v3 v4 css gcs vs kg kc) (hk : Kp wx wy) (t : Nat) : CloneS w0 w wy bo (tagN τ wx.heap.size t wy.heap.size) s v1 v2 v3 v4 css gcs vs kg kc :=
  (h.kpS hk).retag (h.tags.ext t hk.size h.kp.size) (by have := h.lt; unfold tagN; rw [if_neg (by omega)]; exact h.bo0) (fun q u hu hq => tagN_old h.tags t _ hu hq)
/-- a graph gets its own numbers: wy is the world of the store -/
theorem CloneS.graph {g n c : Nat} (h : CloneS w0 w wx bo τ s v1 v2 (.slice (some ⟨g, 0, none⟩) n c) v4 css gcs vs kg kc) (hn : n = s.graphs.length) (hk1 : kg < gcs.length) (hk2 : kg < s.graphs.length) {tv : Value} (hu : tv.oneCell' = true) (hk : Kp wx wy)
    (ho : Own encInt 3 1 wx.heap.size wy tv s.graphs[kg].least) (hc : gcs[kg].val.take 2 = [.int .i64 s.graphs[kg].first, .int .i64 s.graphs[kg].size]) :
    CloneS w0 w (wy.setCell ⟨g, kg * 3 + 2, none⟩ tv) bo (tagN τ wx.heap.size 3 wy.heap.size) s v1 v2 (.slice (some ⟨g, 0, none⟩) n c) v4 css (gcs.set kg (gcs[kg].set 2 tv hu)) vs (kg + 1) kc := by
  have hN := h.next hk 3
  have hg : τ g = 3 := h.t3 g rfl
  have hgl : g < wx.heap.size := h.o3.blk_lt g rfl
  have hgb : g ≠ bo := fun e => by have := h.bo0; rw [e] at hg; omega
  have hkg : Kg wy (wy.setCell ⟨g, kg * 3 + 2, none⟩ tv) g := (Kg.refl _ _).set (.inl rfl) _
  have hl3 := h.l3
  have keep : ∀ q, q < wy.heap.size → q ≠ g → (wy.setCell ⟨g, kg * 3 + 2, none⟩ tv).heap[q]? = wy.heap[q]? := fun q hq hne => hkg.block q hq (fun e => hne (by injection e))
  have hng : ∀ t, t ≠ 3 → ∀ q, tagN τ wx.heap.size 3 wy.heap.size q = t → q ≠ g := fun t ht q hq e => ht (by rw [← hq, e]; exact hN.t3 g rfl)
  have hsz : (wy.setCell ⟨g, kg * 3 + 2, none⟩ tv).heap.size = wy.heap.size := set_size _ _ _
  refine ⟨hN.tags.grow (Nat.le_of_eq hsz.symm), hN.bo0, hN.box.kg hkg hN.lt (fun e => hgb e.symm), hN.o1.owS _ hkg.size fun q hq hlt => keep q hlt (hng 1 (by omega) q (hN.t1 q hq)), hN.t1, hN.n2.kg hkg (fun e => hng 2 (by omega) g e rfl), ?_, hN.t3, by simp [hl3], ?_, ?_, hN.o4.owS _ hkg.size fun q hq hlt => keep q hlt (hng 4 (by omega) q (hN.t4 q hq)), hN.t4, hN.l4, ?_, hN.lo, by rw [hsz]; exact hN.lt, ?_⟩
  · exact hN.o3.setE (by omega) hk1 (by omega) hu
  · intro j h1 h2 hj
    rw [List.getElem_set]
    by_cases hkj : kg = j
    · subst hkj
      rw [if_pos rfl]
      refine ⟨fun q => tv.ownBlock = some q, fun i hi => ?_, ?_⟩
      · have a1 := ho.ge i hi
        have a2 := ho.blk_lt i hi
        exact ⟨tagN_new a1 a2, fun e => absurd (show g = i by simpa [Value.ownBlock] using e) (by omega)⟩
      · refine ((ho.kg hkg hgl).owS).imp fun w' hw' => ?_
        refine ⟨tv, ?_, hw'.sl encInt_len⟩
        have hl2 := gcs[kg].property.1
        have e1 : (gcs[kg].set 2 tv hu).val = gcs[kg].val.set 2 tv := rfl
        rw [e1]
        generalize gcs[kg].val = cs at *
        match cs, hl2, hc with
        | [a, b, d], _, hc =>
          simp only [List.take_succ_cons, List.take_zero, List.cons.injEq, and_true] at hc
          obtain ⟨rfl, rfl⟩ := hc
          rfl
    · rw [if_neg hkj]
      obtain ⟨T, hT, hOw⟩ := hN.new3 j (by simpa using h1) h2 (by omega)
      exact ⟨T, hT, hOw.kg hkg fun hTg => (hT g hTg).2 rfl⟩
  · intro j h1 h2 hj
    rw [List.getElem_set, if_neg (by omega)]
    exact hN.old3 j (by simpa using h1) h2 (by omega)
  · intro j h1 h2
    obtain ⟨v, c', e, hn'⟩ := hN.n4 j h1 h2
    exact ⟨v, c', e, hn'.kg hkg (fun e => hng (5 + j) (by omega) g e rfl)⟩
  · exact Kg.to_kp hN.kp hkg (by have := h.tags g (by rw [hg]; omega); exact this.1)
/-- all graphs are done -/
theorem CloneS.graphs (h : CloneS w0 w wx bo τ s v1 v2 v3 v4 css gcs vs kg kc) (hk : s.graphs.length ≤ kg) : OwS (fun q => τ q = 3) wx fun w' => GrsL w' v3 s.graphs := by
  intro w' h1 h2
  refine sl_of ((h.o3.owS w' h1 fun q hq hlt => h2 q (h.t3 q hq) hlt).sl encC_len) h.l3 fun j k1 k2 => ?_
  obtain ⟨T, hT, ho⟩ := h.new3 j k1 k2 (by omega)
  exact ho w' h1 fun q hq hlt => h2 q (hT q hq).1 hlt
/-- a case is added: wd is the world of the append, and what it gives is stored in the copy -/
theorem CloneS.case {wc wd w4 : World} {vx v4' : Value} {cssx : List (Elm 2)} (h : CloneS w0 w wx bo τ s v1 v2 v3 v4 css gcs vs kg kc) (hkc : kc < s.cases.length) (hk1 : Kp wx wc) (hk2 : Kp wc wd) (nl : NL rdRow 30 2 (fun q => wx.heap.size ≤ q ∧ q < wc.heap.size) wc vx cssx s.cases[kc])
    {c : Elm 1} (hc : c.val = [vx]) (own' : Own encC 23 1 0 w4 v4' (vs ++ [c])) (hg : wd.grownBy w4 v4.ownBlock) (hat : v4'.ownBlock = v4.ownBlock ∨ v4'.ownBlock = some wd.heap.size) :
    CloneS w0 w (w4.setCell ⟨bo, 3, none⟩ v4') bo (tagN (tagN τ wx.heap.size (5 + kc) wc.heap.size) wc.heap.size 4 w4.heap.size) s v1 v2 v3 v4' css gcs (vs ++ [c]) kg (kc + 1) := by
  have hA := h.next hk1 (5 + kc)
  have hD := hA.kpS hk2
  have hgs := hg.size
  have hcs := hk2.size
  have hxs := hk1.size
  have htag : Tags w0.heap.size w4 (tagN (tagN τ wx.heap.size (5 + kc) wc.heap.size) wc.heap.size 4 w4.heap.size) := fun q hq => by
    unfold tagN at hq
    have := h.kp.size
    split at hq
    · omega
    · split at hq
      · omega
      · have := h.tags q hq
        omega
  have hold : ∀ q t, t ≠ 0 → tagN τ wx.heap.size (5 + kc) wc.heap.size q = t → tagN (tagN τ wx.heap.size (5 + kc) wc.heap.size) wc.heap.size 4 w4.heap.size q = t := fun q t ht hq => tagN_old hA.tags 4 _ ht hq
  have hsz : (w4.setCell ⟨bo, 3, none⟩ v4').heap.size = w4.heap.size := set_size _ _ _
  have hob : ∀ q, v4.ownBlock = some q → q < wc.heap.size := hA.o4.blk_lt
  have hbo4 : v4.ownBlock ≠ some bo := fun e => by have h1 := h.t4 bo e; have h2 := h.bo0; omega
  have hblt := hD.lt
  have keep : ∀ q, q < wd.heap.size → v4.ownBlock ≠ some q → q ≠ bo → (w4.setCell ⟨bo, 3, none⟩ v4').heap[q]? = wd.heap[q]? := fun q hq h1 h2 => (set_block w4 ⟨bo, 3, none⟩ v4' q h2).trans (hg.block q hq (fun e => h1 e.symm))
  have keepT : ∀ q t, t ≠ 0 → t ≠ 4 → q < wd.heap.size → tagN τ wx.heap.size (5 + kc) wc.heap.size q = t → (w4.setCell ⟨bo, 3, none⟩ v4').heap[q]? = wd.heap[q]? := fun q t h1 h2 hq ht => keep q hq (fun e => h2 (by rw [← ht, hA.t4 q e])) (fun e => h1 (by rw [← ht, e]; exact hA.bo0))
  have hb4 := hD.box.grown hg hbo4 hblt
  have hbs := hb4.set (j := 3) (by simp) v4'
  simp only [List.set_cons_zero, List.set_cons_succ] at hbs
  have hle : wd.heap.size ≤ (w4.setCell ⟨bo, 3, none⟩ v4').heap.size := by rw [hsz]; exact hgs
  have hkg : Kg w4 (w4.setCell ⟨bo, 3, none⟩ v4') bo := (Kg.refl _ _).set (.inl rfl) _
  have hbo' : tagN (tagN τ wx.heap.size (5 + kc) wc.heap.size) wc.heap.size 4 w4.heap.size bo = 0 := by
    have := h.lt
    unfold tagN
    rw [if_neg (by omega), if_neg (by omega)]
    exact h.bo0
  have ht4' : ∀ q, v4'.ownBlock = some q → tagN (tagN τ wx.heap.size (5 + kc) wc.heap.size) wc.heap.size 4 w4.heap.size q = 4 := fun q hq => by
    rcases hat with e | e
    · exact hold q 4 (by omega) (hA.t4 q (e ▸ hq))
    · rw [e] at hq
      injection hq with hq
      have h1 := own'.blk_lt q (by rw [e, hq])
      exact tagN_new (by omega) h1
  refine ⟨htag.grow (Nat.le_of_eq hsz.symm), hbo', hbs, hD.o1.owS _ hle fun q hq hlt => keepT q 1 (by omega) (by omega) hlt (hA.t1 q hq), fun q hq => hold q 1 (by omega) (hA.t1 q hq),
    (hD.n2.step hle fun q hq hlt => keepT q 2 (by omega) (by omega) hlt hq).mono fun q hq => hold q 2 (by omega) hq, hD.o3.owS _ hle fun q hq hlt => keepT q 3 (by omega) (by omega) hlt (hA.t3 q hq), fun q hq => hold q 3 (by omega) (hA.t3 q hq), h.l3, ?_, h.old3,
    ?_, ht4', by simp [h.l4], ?_, h.lo, by rw [hsz]; omega, ?_⟩
  · intro j h1 h2 hj
    obtain ⟨T, hT, ho⟩ := hD.new3 j h1 h2 hj
    exact ⟨T, fun i hi => ⟨hold i 3 (by omega) (hT i hi).1, (hT i hi).2⟩, ho.step hle fun q hq hlt => keepT q 3 (by omega) (by omega) hlt (hT q hq).1⟩
  · refine own'.owS _ hkg.size fun q hq hlt => hkg.block q hlt fun e => ?_
    have h1 : bo = q := (Option.some.inj e).symm
    have h2 := ht4' q hq
    rw [← h1, hbo'] at h2
    omega
  · intro j h1 h2
    by_cases hj : j < vs.length
    · obtain ⟨v, c', e, hn⟩ := hD.n4 j hj h2
      rw [List.getElem_append_left hj]
      exact ⟨v, c', e, (hn.step hle fun q hq hlt => keepT q (5 + j) (by omega) (by omega) hlt hq).mono fun q hq => hold q (5 + j) (by omega) hq⟩
    · have hj2 : j = vs.length := by simp at h1; omega
      have hj3 : j = kc := by rw [hj2]; exact h.l4
      subst hj3
      have e2 : (vs ++ [c])[j]'h1 = c := by simp [hj2]
      rw [e2]
      refine ⟨vx, cssx, hc, ((nl.kp hk2).step hle fun q hq hlt => keepT q (5 + j) (by omega) (by omega) hlt ?_).mono fun q hq => hold q (5 + j) (by omega) ?_⟩
      · exact tagN_new hq.1 hq.2
      · exact tagN_new hq.1 hq.2
  · refine Kg.to_kp (hD.kp.grown hg fun q hq => ?_) hkg h.lo
    have h1 := h.t4 q hq
    exact (h.tags q (by rw [h1]; omega)).1
/-- the copy is done; a block without a tag may change -/
theorem CloneS.fin {g : Nat} (h : CloneS w0 w wx bo τ s v1 v2 v3 v4 css gcs vs kg kc) (hkg : s.graphs.length ≤ kg) (hkc : kc = s.cases.length) (hx : Kg wx wy g) (hg : τ g = 0) : SysO τ wy v1 v2 v3 v4 s := by
  have hgr := h.graphs hkg
  have keep : ∀ q t, t ≠ 0 → q < wx.heap.size → τ q = t → wy.heap[q]? = wx.heap[q]? := fun q t ht hq hτ => hx.block q hq fun e => ht (by rw [← hτ, Option.some.inj e, hg])
  refine ⟨h.o1.owS _ hx.size fun q hq hlt => keep q 1 (by omega) hlt (h.t1 q hq), h.t1, ⟨css, h.n2.step hx.size fun q hq hlt => keep q 2 (by omega) hlt hq⟩, hgr.step hx.size fun q hq hlt => keep q 3 (by omega) hlt hq,
    vs, h.o4.owS _ hx.size fun q hq hlt => keep q 4 (by omega) hlt (h.t4 q hq), by rw [h.l4, hkc], h.t4, fun j h1 h2 => ?_⟩
  obtain ⟨v, c, e, hn⟩ := h.n4 j h1 h2
  exact ⟨v, c, e, hn.step hx.size fun q hq hlt => keep q (5 + j) (by omega) hlt hq⟩
end
end Go.Proofs.Ytfllmnaillilhaa
namespace Go.Proofs.Ytfllmnaillilhaa
set_option linter.unusedSimpArgs false
set_option linter.unusedVariables false
open Go.RowKit

set_option maxRecDepth 8000 in
set_option maxHeartbeats 8000000 in
theorem sClone_any (va : Value) (s : Sys) (w : World) (hs : SysV w va s) (hz : SizeS s) :
    Calls Try.prog 41 #[va] w fun e w' => ∃ vb vr vg vc τ, e = .returned (.agg #[vb, vr, vg, vc]) ∧ Tags w.heap.size w' τ ∧ SysO τ w' vb vr vg vc s ∧ Kp w w' := by
  have hz1 := hz.box
  have hz2 := hz.rows
  have hz3 := hz.graphs
  have hz4 := hz.cases
  have hs' := hs
  obtain ⟨Ab, cb, Ar, cr, Ag, cg, Ac, cc, rfl, hb, hr, hg, hc⟩ := hs'
  obtain ⟨l1, m1⟩ := hb.caps
  obtain ⟨l2, m2⟩ := hr.caps
  obtain ⟨l3, m3⟩ := hg.caps
  obtain ⟨l4, m4⟩ := hc.caps
  have k0 := ((Kp.refl w).alloc (.cells #[.slice Ab s.box.length cb, .slice Ar s.rows.length cr, .slice Ag s.graphs.length cg, .slice Ac s.cases.length cc] 27)).alloc (.cells #[.slice none 0 0, .slice none 0 0, .slice none 0 0, .slice none 0 0] 27)
  have B0 := (SysB.new w #[.slice Ab s.box.length cb, .slice Ar s.rows.length cr, .slice Ag s.graphs.length cg, .slice Ac s.cases.length cc] 27).keep ((Kp.refl _).alloc (.cells #[.slice none 0 0, .slice none 0 0, .slice none 0 0, .slice none 0 0] 27))
  have hR := Bx.new (w.alloc (.cells #[.slice Ab s.box.length cb, .slice Ar s.rows.length cr, .slice Ag s.graphs.length cg, .slice Ac s.cases.length cc] 27)) #[.slice none 0 0, .slice none 0 0, .slice none 0 0, .slice none 0 0] 27
  rw [World.size_alloc] at hR
  have hzw : ((w.alloc (.cells #[.slice Ab s.box.length cb, .slice Ar s.rows.length cr, .slice Ag s.graphs.length cg, .slice Ac s.cases.length cc] 27)).alloc (.cells #[.slice none 0 0, .slice none 0 0, .slice none 0 0, .slice none 0 0] 27)).heap.size = w.heap.size + 2 := by simp
  go_enter Try.func41, Try.ntmps41
  go_wp2
  generalize (w.alloc (.cells #[.slice Ab s.box.length cb, .slice Ar s.rows.length cr, .slice Ag s.graphs.length cg, .slice Ac s.cases.length cc] 27)).alloc (.cells #[.slice none 0 0, .slice none 0 0, .slice none 0 0, .slice none 0 0] 27) = w0 at *
  generalize hbw : w.heap.size = b at *
  replace hbw := hid hbw
  replace hzw := hid hzw
  obtain ⟨c0, c1, c2, c3⟩ := B0.cells
  obtain ⟨gcs, hraw, hgl, hgr⟩ := sl_raw hg (fun _ _ h => rdGr_one h)
  rw [show Value.slice Ag s.graphs.length cg = Value.slice Ag s.graphs.length cg from rfl] at hraw
  go_cut [3] from 7 (fun s3 wx => ∃ bo, s3 = .pointer (some ⟨bo, 0, none⟩) ∧ CloneI w0 w wx bo s)
  case first =>
    have hS : ∀ W, Kp w0 W → (W.cell? ⟨b, 0, none⟩ = some (.slice Ab s.box.length cb) ∧ W.cell? ⟨b, 1, none⟩ = some (.slice Ar s.rows.length cr) ∧ W.cell? ⟨b, 2, none⟩ = some (.slice Ag s.graphs.length cg) ∧ Kp w0 W) := fun W hk => ⟨hk.cellS c0, hk.cellS c1, hk.cellS c2, hk⟩
    refine wp_region_held_drew (S := fun W => W.cell? ⟨b, 0, none⟩ = some (.slice Ab s.box.length cb) ∧ W.cell? ⟨b, 1, none⟩ = some (.slice Ar s.rows.length cr) ∧ W.cell? ⟨b, 2, none⟩ = some (.slice Ag s.graphs.length cg) ∧ Kp w0 W) (by kernel_rfl) (hS _ (Kp.refl _).drew) (fun hHeld => ?_)
    generalize w0.drew = wd at *
    refine take_at 0 7 (v := ?_) rfl rfl (by kernel_rfl) (by kernel_rfl) (by kernel_rfl) (fun _ _ _ h => h) hHeld (Or.inl ⟨by kernel_rfl, ?_⟩) ?_
    rotate_left
    · intro w hSw; (try dsimp only at hSw); go_simp; try with_reducible rfl
    simp only [Act.put, List.setIfInBounds_toArray, List.set_cons_zero, List.set_cons_succ]
    refine take_at 1 8 (v := ?_) rfl rfl (by kernel_rfl) (by kernel_rfl) (by kernel_rfl) (fun _ _ _ h => h) hHeld (Or.inl ⟨by kernel_rfl, ?_⟩) ?_
    rotate_left
    · intro w hSw; (try dsimp only at hSw); go_simp; try with_reducible rfl
    simp only [Act.put, List.setIfInBounds_toArray, List.set_cons_zero, List.set_cons_succ]
    refine take_at 3 10 (v := ?_) rfl rfl (by kernel_rfl) (by kernel_rfl) (by kernel_rfl) (fun _ _ _ h => h) hHeld (Or.inl ⟨by kernel_rfl, ?_⟩) ?_
    rotate_left
    · intro w hSw; (try dsimp only at hSw); go_simp; try with_reducible rfl
    simp only [Act.put, List.setIfInBounds_toArray, List.set_cons_zero, List.set_cons_succ]
    refine take_at 4 11 (v := ?_) rfl rfl (by kernel_rfl) (by kernel_rfl) (by kernel_rfl) (fun _ _ _ h => h) hHeld (Or.inl ⟨by kernel_rfl, ?_⟩) ?_
    rotate_left
    · intro w hSw; (try dsimp only at hSw); go_simp; try with_reducible rfl
    simp only [Act.put, List.setIfInBounds_toArray, List.set_cons_zero, List.set_cons_succ]
    refine take_at 6 13 (v := ?_) rfl rfl (by kernel_rfl) (by kernel_rfl) (by kernel_rfl) (fun _ _ _ h => h) hHeld (Or.inl ⟨by kernel_rfl, ?_⟩) ?_
    rotate_left
    · intro w hSw; (try dsimp only at hSw); go_simp; try with_reducible rfl
    simp only [Act.put, List.setIfInBounds_toArray, List.set_cons_zero, List.set_cons_succ]
    refine take_at 7 14 (v := ?_) rfl rfl (by kernel_rfl) (by kernel_rfl) (by kernel_rfl) (fun _ _ _ h => h) hHeld (Or.inl ⟨by kernel_rfl, ?_⟩) ?_
    rotate_left
    · intro w hSw; (try dsimp only at hSw); go_simp; try with_reducible rfl
    simp only [Act.put, List.setIfInBounds_toArray, List.set_cons_zero, List.set_cons_succ]
    refine wpAnyH_ready (rs := [2, 10]) (by kernel_rfl) (by simp) ?_
    refine AllReadyH.cons (o := _) rfl (fun K hK => ?_) (AllReadyH.cons (o := _) rfl (fun K hK => ?_) AllReadyH.nil)
    · go_simp
      refine (CloneRange_any _ s.box _ (hb.keep (pl_stable _) (k0.trans hHeld.2.2.2)) (by omega)).mono ?_
      rintro e wa ⟨v1, rfl, own1, ka⟩
      obtain ⟨A1, d1, rfl, _, _⟩ := own1.form
      try replace hBo := hBo.kp ka hbol
      try replace hbol := Nat.lt_of_lt_of_le hbol ka.size
      have lo1 := own1.ge
      have hi1 := own1.blk_lt
      have zz1 := ka.size
      have zy1 := hHeld.2.2.2.size
      replace own1 := own1.less (Nat.zero_le _)
      have hka := hHeld.2.2.2.trans ka
      clear ka
      refine hK.out _ _ (hS _ hka) (fun hHeld2 => ?_)
      clear hK K hHeld
      have hHeld := hHeld2
      clear hHeld2
      clear hka
      refine wpAnyH_ready (rs := [5, 10]) (by kernel_rfl) (by simp) ?_
      refine AllReadyH.cons (o := _) rfl (fun K hK => ?_) (AllReadyH.cons (o := _) rfl (fun K hK => ?_) AllReadyH.nil)
      · go_simp
        refine (sCopied_any _ s.rows _ (hr.keep rdRow_stable (k0.trans hHeld.2.2.2)) (by omega) (fun r hr => by have := hz.terms r hr; omega)).mono ?_
        rintro e wc ⟨v2, css, rfl, nl2, ka⟩
        obtain ⟨A2, d2, rfl, _, _⟩ := nl2.form
        replace own1 := own1.kp ka
        try replace hBo := hBo.kp ka hbol
        try replace hbol := Nat.lt_of_lt_of_le hbol ka.size
        have zz2 := ka.size
        have zy2 := hHeld.2.2.2.size
        have hka := hHeld.2.2.2.trans ka
        clear ka
        refine hK.out _ _ (hS _ hka) (fun hHeld2 => ?_)
        clear hK K hHeld
        have hHeld := hHeld2
        clear hHeld2
        clear hka
        refine wpAnyH_ready (rs := [8, 10]) (by kernel_rfl) (by simp) ?_
        refine AllReadyH.cons (o := _) rfl (fun K hK => ?_) (AllReadyH.cons (o := _) rfl (fun K hK => ?_) AllReadyH.nil)
        · go_simp
          refine (CloneGraph_any _ gcs _ (hraw.keep (pl_stable _) (k0.trans hHeld.2.2.2)) (by omega)).mono ?_
          rintro e we ⟨v3, rfl, own3, ka⟩
          obtain ⟨A3, d3, rfl, _, _⟩ := own3.form
          rw [hgl] at own3
          replace own1 := own1.kp ka
          replace nl2 := nl2.kp ka
          try replace hBo := hBo.kp ka hbol
          try replace hbol := Nat.lt_of_lt_of_le hbol ka.size
          have lo3 := own3.ge
          have hi3 := own3.blk_lt
          have zz3 := ka.size
          have zy3 := hHeld.2.2.2.size
          replace own3 := own3.less (Nat.zero_le _)
          have hka := hHeld.2.2.2.trans ka
          clear ka
          rw [hgl]
          refine hK.out _ _ (hS _ hka) (fun hHeld2 => ?_)
          clear hK K hHeld
          have hHeld := hHeld2
          clear hHeld2
          clear hka
          refine take_at 9 16 (v := ?_) rfl rfl (by kernel_rfl) (by kernel_rfl) (by kernel_rfl) (fun _ _ _ h => h) hHeld (Or.inl ⟨by kernel_rfl, ?_⟩) ?_
          rotate_left
          · intro w hSw; (try dsimp only at hSw); go_simp; try with_reducible rfl
          simp only [Act.put, List.setIfInBounds_toArray, List.set_cons_zero, List.set_cons_succ]
          refine wpAnyH_ready (rs := [10]) (by kernel_rfl) (by simp) ?_
          refine AllReadyH.cons (o := _) rfl (fun K hK => ?_) AllReadyH.nil
          go_simp
          have kA := (Kp.refl we).alloc (.cells #[.slice none 0 0, .slice none 0 0, .slice none 0 0, .slice none 0 0] 27)
          try replace own1 := own1.kp kA
          try replace nl2 := nl2.kp kA
          try replace own3 := own3.kp kA
          try replace hBo := hBo.kp kA hbol
          try replace hbol := Nat.lt_of_lt_of_le hbol (Kp.size kA)
          have hBo := Bx.new we #[.slice none 0 0, .slice none 0 0, .slice none 0 0, .slice none 0 0] 27
          have hbol := alloc_lt we (.cells #[.slice none 0 0, .slice none 0 0, .slice none 0 0, .slice none 0 0] 27)
          have hka := hHeld.2.2.2.trans kA
          have zA := hbol
          have zlo := hHeld.2.2.2.size
          clear kA
          generalize we.alloc (.cells #[.slice none 0 0, .slice none 0 0, .slice none 0 0, .slice none 0 0] 27) = wf at *
          generalize we.heap.size = bo at *
          refine hK.out _ _ (hS _ hka) (fun hHeld2 => ?_)
          clear hK K hHeld
          have hHeld := hHeld2
          clear hHeld2
          clear hka
          refine wpAnyH_ready (rs := [11]) (by kernel_rfl) (by simp) ?_
          refine AllReadyH.cons (o := _) rfl (fun K hK => ?_) AllReadyH.nil
          have q0 := hBo.cell (j := 0) rfl
          have q1 := hBo.cell (j := 1) rfl
          have q2 := hBo.cell (j := 2) rfl
          have q3 := hBo.cell (j := 3) rfl
          have r0 := hBo.free (j := 0) (by simp)
          have r1 := hBo.free (j := 1) (by simp)
          have r2 := hBo.free (j := 2) (by simp)
          have r3 := hBo.free (j := 3) (by simp)
          go_simp
          have hBs := (((hBo.set (j := 0) (by simp) (.slice A1 s.box.length d1)).set (j := 1) (by simp) (.slice A2 s.rows.length d2)).set (j := 2) (by simp) (.slice A3 s.graphs.length d3)).set (j := 3) (by simp) (.slice none 0 0)
          simp only [List.set_cons_zero, List.set_cons_succ] at hBs
          have kS : Kg wf _ bo := ((((Kg.refl wf bo).set (p := ⟨bo, 0, none⟩) (.inl rfl) (.slice A1 s.box.length d1)).set (p := ⟨bo, 1, none⟩) (.inl rfl) (.slice A2 s.rows.length d2)).set (p := ⟨bo, 2, none⟩) (.inl rfl) (.slice A3 s.graphs.length d3)).set (p := ⟨bo, 3, none⟩) (.inl rfl) (.slice none 0 0)
          have hCI := cloneI_mk hBs kS hHeld.2.2.2 (by omega) hbol own1 lo1 hi1 nl2 own3 lo3 hi3 (by omega) (by omega) (by omega) (by omega) (by omega) (by omega) (by omega) (by omega) hgl hgr
          refine hK.out _ _ (hS _ hCI.kp) (fun hHeld2 => ?_)
          clear hK K hHeld
          have hHeld := hHeld2
          clear hHeld2
          refine wpAnyH_done (by kernel_rfl) ?_ _
          go_wp2
          go_meet
          case rel => exact ⟨bo, rfl, hCI⟩
        · go_simp
          have kA := (Kp.refl wc).alloc (.cells #[.slice none 0 0, .slice none 0 0, .slice none 0 0, .slice none 0 0] 27)
          try replace own1 := own1.kp kA
          try replace nl2 := nl2.kp kA
          try replace own3 := own3.kp kA
          try replace hBo := hBo.kp kA hbol
          try replace hbol := Nat.lt_of_lt_of_le hbol (Kp.size kA)
          have hBo := Bx.new wc #[.slice none 0 0, .slice none 0 0, .slice none 0 0, .slice none 0 0] 27
          have hbol := alloc_lt wc (.cells #[.slice none 0 0, .slice none 0 0, .slice none 0 0, .slice none 0 0] 27)
          have hka := hHeld.2.2.2.trans kA
          have zA := hbol
          have zlo := hHeld.2.2.2.size
          clear kA
          generalize wc.alloc (.cells #[.slice none 0 0, .slice none 0 0, .slice none 0 0, .slice none 0 0] 27) = wd2 at *
          generalize wc.heap.size = bo at *
          refine hK.out _ _ (hS _ hka) (fun hHeld2 => ?_)
          clear hK K hHeld
          have hHeld := hHeld2
          clear hHeld2
          clear hka
          refine wpAnyH_ready (rs := [8]) (by kernel_rfl) (by simp) ?_
          refine AllReadyH.cons (o := _) rfl (fun K hK => ?_) AllReadyH.nil
          go_simp
          refine (CloneGraph_any _ gcs _ (hraw.keep (pl_stable _) (k0.trans hHeld.2.2.2)) (by omega)).mono ?_
          rintro e we ⟨v3, rfl, own3, ka⟩
          obtain ⟨A3, d3, rfl, _, _⟩ := own3.form
          rw [hgl] at own3
          replace own1 := own1.kp ka
          replace nl2 := nl2.kp ka
          try replace hBo := hBo.kp ka hbol
          try replace hbol := Nat.lt_of_lt_of_le hbol ka.size
          have lo3 := own3.ge
          have hi3 := own3.blk_lt
          have zz3 := ka.size
          have zy3 := hHeld.2.2.2.size
          replace own3 := own3.less (Nat.zero_le _)
          have hka := hHeld.2.2.2.trans ka
          clear ka
          rw [hgl]
          refine hK.out _ _ (hS _ hka) (fun hHeld2 => ?_)
          clear hK K hHeld
          have hHeld := hHeld2
          clear hHeld2
          clear hka
          refine take_at 9 16 (v := ?_) rfl rfl (by kernel_rfl) (by kernel_rfl) (by kernel_rfl) (fun _ _ _ h => h) hHeld (Or.inl ⟨by kernel_rfl, ?_⟩) ?_
          rotate_left
          · intro w hSw; (try dsimp only at hSw); go_simp; try with_reducible rfl
          simp only [Act.put, List.setIfInBounds_toArray, List.set_cons_zero, List.set_cons_succ]
          refine wpAnyH_ready (rs := [11]) (by kernel_rfl) (by simp) ?_
          refine AllReadyH.cons (o := _) rfl (fun K hK => ?_) AllReadyH.nil
          have q0 := hBo.cell (j := 0) rfl
          have q1 := hBo.cell (j := 1) rfl
          have q2 := hBo.cell (j := 2) rfl
          have q3 := hBo.cell (j := 3) rfl
          have r0 := hBo.free (j := 0) (by simp)
          have r1 := hBo.free (j := 1) (by simp)
          have r2 := hBo.free (j := 2) (by simp)
          have r3 := hBo.free (j := 3) (by simp)
          go_simp
          have hBs := (((hBo.set (j := 0) (by simp) (.slice A1 s.box.length d1)).set (j := 1) (by simp) (.slice A2 s.rows.length d2)).set (j := 2) (by simp) (.slice A3 s.graphs.length d3)).set (j := 3) (by simp) (.slice none 0 0)
          simp only [List.set_cons_zero, List.set_cons_succ] at hBs
          have kS : Kg we _ bo := ((((Kg.refl we bo).set (p := ⟨bo, 0, none⟩) (.inl rfl) (.slice A1 s.box.length d1)).set (p := ⟨bo, 1, none⟩) (.inl rfl) (.slice A2 s.rows.length d2)).set (p := ⟨bo, 2, none⟩) (.inl rfl) (.slice A3 s.graphs.length d3)).set (p := ⟨bo, 3, none⟩) (.inl rfl) (.slice none 0 0)
          have hCI := cloneI_mk hBs kS hHeld.2.2.2 (by omega) hbol own1 lo1 hi1 nl2 own3 lo3 hi3 (by omega) (by omega) (by omega) (by omega) (by omega) (by omega) (by omega) (by omega) hgl hgr
          refine hK.out _ _ (hS _ hCI.kp) (fun hHeld2 => ?_)
          clear hK K hHeld
          have hHeld := hHeld2
          clear hHeld2
          refine wpAnyH_done (by kernel_rfl) ?_ _
          go_wp2
          go_meet
          case rel => exact ⟨bo, rfl, hCI⟩
      · go_simp
        have kA := (Kp.refl wa).alloc (.cells #[.slice none 0 0, .slice none 0 0, .slice none 0 0, .slice none 0 0] 27)
        try replace own1 := own1.kp kA
        try replace nl2 := nl2.kp kA
        try replace own3 := own3.kp kA
        try replace hBo := hBo.kp kA hbol
        try replace hbol := Nat.lt_of_lt_of_le hbol (Kp.size kA)
        have hBo := Bx.new wa #[.slice none 0 0, .slice none 0 0, .slice none 0 0, .slice none 0 0] 27
        have hbol := alloc_lt wa (.cells #[.slice none 0 0, .slice none 0 0, .slice none 0 0, .slice none 0 0] 27)
        have hka := hHeld.2.2.2.trans kA
        have zA := hbol
        have zlo := hHeld.2.2.2.size
        clear kA
        generalize wa.alloc (.cells #[.slice none 0 0, .slice none 0 0, .slice none 0 0, .slice none 0 0] 27) = wd2 at *
        generalize wa.heap.size = bo at *
        refine hK.out _ _ (hS _ hka) (fun hHeld2 => ?_)
        clear hK K hHeld
        have hHeld := hHeld2
        clear hHeld2
        clear hka
        refine wpAnyH_ready (rs := [5]) (by kernel_rfl) (by simp) ?_
        refine AllReadyH.cons (o := _) rfl (fun K hK => ?_) AllReadyH.nil
        go_simp
        refine (sCopied_any _ s.rows _ (hr.keep rdRow_stable (k0.trans hHeld.2.2.2)) (by omega) (fun r hr => by have := hz.terms r hr; omega)).mono ?_
        rintro e wc ⟨v2, css, rfl, nl2, ka⟩
        obtain ⟨A2, d2, rfl, _, _⟩ := nl2.form
        replace own1 := own1.kp ka
        try replace hBo := hBo.kp ka hbol
        try replace hbol := Nat.lt_of_lt_of_le hbol ka.size
        have zz2 := ka.size
        have zy2 := hHeld.2.2.2.size
        have hka := hHeld.2.2.2.trans ka
        clear ka
        refine hK.out _ _ (hS _ hka) (fun hHeld2 => ?_)
        clear hK K hHeld
        have hHeld := hHeld2
        clear hHeld2
        clear hka
        refine wpAnyH_ready (rs := [8]) (by kernel_rfl) (by simp) ?_
        refine AllReadyH.cons (o := _) rfl (fun K hK => ?_) AllReadyH.nil
        go_simp
        refine (CloneGraph_any _ gcs _ (hraw.keep (pl_stable _) (k0.trans hHeld.2.2.2)) (by omega)).mono ?_
        rintro e we ⟨v3, rfl, own3, ka⟩
        obtain ⟨A3, d3, rfl, _, _⟩ := own3.form
        rw [hgl] at own3
        replace own1 := own1.kp ka
        replace nl2 := nl2.kp ka
        try replace hBo := hBo.kp ka hbol
        try replace hbol := Nat.lt_of_lt_of_le hbol ka.size
        have lo3 := own3.ge
        have hi3 := own3.blk_lt
        have zz3 := ka.size
        have zy3 := hHeld.2.2.2.size
        replace own3 := own3.less (Nat.zero_le _)
        have hka := hHeld.2.2.2.trans ka
        clear ka
        rw [hgl]
        refine hK.out _ _ (hS _ hka) (fun hHeld2 => ?_)
        clear hK K hHeld
        have hHeld := hHeld2
        clear hHeld2
        clear hka
        refine take_at 9 16 (v := ?_) rfl rfl (by kernel_rfl) (by kernel_rfl) (by kernel_rfl) (fun _ _ _ h => h) hHeld (Or.inl ⟨by kernel_rfl, ?_⟩) ?_
        rotate_left
        · intro w hSw; (try dsimp only at hSw); go_simp; try with_reducible rfl
        simp only [Act.put, List.setIfInBounds_toArray, List.set_cons_zero, List.set_cons_succ]
        refine wpAnyH_ready (rs := [11]) (by kernel_rfl) (by simp) ?_
        refine AllReadyH.cons (o := _) rfl (fun K hK => ?_) AllReadyH.nil
        have q0 := hBo.cell (j := 0) rfl
        have q1 := hBo.cell (j := 1) rfl
        have q2 := hBo.cell (j := 2) rfl
        have q3 := hBo.cell (j := 3) rfl
        have r0 := hBo.free (j := 0) (by simp)
        have r1 := hBo.free (j := 1) (by simp)
        have r2 := hBo.free (j := 2) (by simp)
        have r3 := hBo.free (j := 3) (by simp)
        go_simp
        have hBs := (((hBo.set (j := 0) (by simp) (.slice A1 s.box.length d1)).set (j := 1) (by simp) (.slice A2 s.rows.length d2)).set (j := 2) (by simp) (.slice A3 s.graphs.length d3)).set (j := 3) (by simp) (.slice none 0 0)
        simp only [List.set_cons_zero, List.set_cons_succ] at hBs
        have kS : Kg we _ bo := ((((Kg.refl we bo).set (p := ⟨bo, 0, none⟩) (.inl rfl) (.slice A1 s.box.length d1)).set (p := ⟨bo, 1, none⟩) (.inl rfl) (.slice A2 s.rows.length d2)).set (p := ⟨bo, 2, none⟩) (.inl rfl) (.slice A3 s.graphs.length d3)).set (p := ⟨bo, 3, none⟩) (.inl rfl) (.slice none 0 0)
        have hCI := cloneI_mk hBs kS hHeld.2.2.2 (by omega) hbol own1 lo1 hi1 nl2 own3 lo3 hi3 (by omega) (by omega) (by omega) (by omega) (by omega) (by omega) (by omega) (by omega) hgl hgr
        refine hK.out _ _ (hS _ hCI.kp) (fun hHeld2 => ?_)
        clear hK K hHeld
        have hHeld := hHeld2
        clear hHeld2
        refine wpAnyH_done (by kernel_rfl) ?_ _
        go_wp2
        go_meet
        case rel => exact ⟨bo, rfl, hCI⟩
    · go_simp
      have kA := (Kp.refl wd).alloc (.cells #[.slice none 0 0, .slice none 0 0, .slice none 0 0, .slice none 0 0] 27)
      try replace own1 := own1.kp kA
      try replace nl2 := nl2.kp kA
      try replace own3 := own3.kp kA
      try replace hBo := hBo.kp kA hbol
      try replace hbol := Nat.lt_of_lt_of_le hbol (Kp.size kA)
      have hBo := Bx.new wd #[.slice none 0 0, .slice none 0 0, .slice none 0 0, .slice none 0 0] 27
      have hbol := alloc_lt wd (.cells #[.slice none 0 0, .slice none 0 0, .slice none 0 0, .slice none 0 0] 27)
      have hka := hHeld.2.2.2.trans kA
      have zA := hbol
      have zlo := hHeld.2.2.2.size
      clear kA
      generalize wd.alloc (.cells #[.slice none 0 0, .slice none 0 0, .slice none 0 0, .slice none 0 0] 27) = wa at *
      generalize wd.heap.size = bo at *
      refine hK.out _ _ (hS _ hka) (fun hHeld2 => ?_)
      clear hK K hHeld
      have hHeld := hHeld2
      clear hHeld2
      clear hka
      refine wpAnyH_ready (rs := [2]) (by kernel_rfl) (by simp) ?_
      refine AllReadyH.cons (o := _) rfl (fun K hK => ?_) AllReadyH.nil
      go_simp
      refine (CloneRange_any _ s.box _ (hb.keep (pl_stable _) (k0.trans hHeld.2.2.2)) (by omega)).mono ?_
      rintro e wb ⟨v1, rfl, own1, ka⟩
      obtain ⟨A1, d1, rfl, _, _⟩ := own1.form
      try replace hBo := hBo.kp ka hbol
      try replace hbol := Nat.lt_of_lt_of_le hbol ka.size
      have lo1 := own1.ge
      have hi1 := own1.blk_lt
      have zz1 := ka.size
      have zy1 := hHeld.2.2.2.size
      replace own1 := own1.less (Nat.zero_le _)
      have hka := hHeld.2.2.2.trans ka
      clear ka
      refine hK.out _ _ (hS _ hka) (fun hHeld2 => ?_)
      clear hK K hHeld
      have hHeld := hHeld2
      clear hHeld2
      clear hka
      refine wpAnyH_ready (rs := [5]) (by kernel_rfl) (by simp) ?_
      refine AllReadyH.cons (o := _) rfl (fun K hK => ?_) AllReadyH.nil
      go_simp
      refine (sCopied_any _ s.rows _ (hr.keep rdRow_stable (k0.trans hHeld.2.2.2)) (by omega) (fun r hr => by have := hz.terms r hr; omega)).mono ?_
      rintro e wc ⟨v2, css, rfl, nl2, ka⟩
      obtain ⟨A2, d2, rfl, _, _⟩ := nl2.form
      replace own1 := own1.kp ka
      try replace hBo := hBo.kp ka hbol
      try replace hbol := Nat.lt_of_lt_of_le hbol ka.size
      have zz2 := ka.size
      have zy2 := hHeld.2.2.2.size
      have hka := hHeld.2.2.2.trans ka
      clear ka
      refine hK.out _ _ (hS _ hka) (fun hHeld2 => ?_)
      clear hK K hHeld
      have hHeld := hHeld2
      clear hHeld2
      clear hka
      refine wpAnyH_ready (rs := [8]) (by kernel_rfl) (by simp) ?_
      refine AllReadyH.cons (o := _) rfl (fun K hK => ?_) AllReadyH.nil
      go_simp
      refine (CloneGraph_any _ gcs _ (hraw.keep (pl_stable _) (k0.trans hHeld.2.2.2)) (by omega)).mono ?_
      rintro e we ⟨v3, rfl, own3, ka⟩
      obtain ⟨A3, d3, rfl, _, _⟩ := own3.form
      rw [hgl] at own3
      replace own1 := own1.kp ka
      replace nl2 := nl2.kp ka
      try replace hBo := hBo.kp ka hbol
      try replace hbol := Nat.lt_of_lt_of_le hbol ka.size
      have lo3 := own3.ge
      have hi3 := own3.blk_lt
      have zz3 := ka.size
      have zy3 := hHeld.2.2.2.size
      replace own3 := own3.less (Nat.zero_le _)
      have hka := hHeld.2.2.2.trans ka
      clear ka
      rw [hgl]
      refine hK.out _ _ (hS _ hka) (fun hHeld2 => ?_)
      clear hK K hHeld
      have hHeld := hHeld2
      clear hHeld2
      clear hka
      refine take_at 9 16 (v := ?_) rfl rfl (by kernel_rfl) (by kernel_rfl) (by kernel_rfl) (fun _ _ _ h => h) hHeld (Or.inl ⟨by kernel_rfl, ?_⟩) ?_
      rotate_left
      · intro w hSw; (try dsimp only at hSw); go_simp; try with_reducible rfl
      simp only [Act.put, List.setIfInBounds_toArray, List.set_cons_zero, List.set_cons_succ]
      refine wpAnyH_ready (rs := [11]) (by kernel_rfl) (by simp) ?_
      refine AllReadyH.cons (o := _) rfl (fun K hK => ?_) AllReadyH.nil
      have q0 := hBo.cell (j := 0) rfl
      have q1 := hBo.cell (j := 1) rfl
      have q2 := hBo.cell (j := 2) rfl
      have q3 := hBo.cell (j := 3) rfl
      have r0 := hBo.free (j := 0) (by simp)
      have r1 := hBo.free (j := 1) (by simp)
      have r2 := hBo.free (j := 2) (by simp)
      have r3 := hBo.free (j := 3) (by simp)
      go_simp
      have hBs := (((hBo.set (j := 0) (by simp) (.slice A1 s.box.length d1)).set (j := 1) (by simp) (.slice A2 s.rows.length d2)).set (j := 2) (by simp) (.slice A3 s.graphs.length d3)).set (j := 3) (by simp) (.slice none 0 0)
      simp only [List.set_cons_zero, List.set_cons_succ] at hBs
      have kS : Kg we _ bo := ((((Kg.refl we bo).set (p := ⟨bo, 0, none⟩) (.inl rfl) (.slice A1 s.box.length d1)).set (p := ⟨bo, 1, none⟩) (.inl rfl) (.slice A2 s.rows.length d2)).set (p := ⟨bo, 2, none⟩) (.inl rfl) (.slice A3 s.graphs.length d3)).set (p := ⟨bo, 3, none⟩) (.inl rfl) (.slice none 0 0)
      have hCI := cloneI_mk hBs kS hHeld.2.2.2 (by omega) hbol own1 lo1 hi1 nl2 own3 lo3 hi3 (by omega) (by omega) (by omega) (by omega) (by omega) (by omega) (by omega) (by omega) hgl hgr
      refine hK.out _ _ (hS _ hCI.kp) (fun hHeld2 => ?_)
      clear hK K hHeld
      have hHeld := hHeld2
      clear hHeld2
      refine wpAnyH_done (by kernel_rfl) ?_ _
      go_wp2
      go_meet
      case rel => exact ⟨bo, rfl, hCI⟩
  case rest =>
    obtain ⟨bo, rfl, hI⟩ := hcut
    obtain ⟨τ0, A1, A2, A3, e1, e2, e3, css, gcs0, hI⟩ := hI.start
    clear hraw hgl hgr
    have hq2 := hI.box.cell (j := 2) rfl
    have hbl := hI.lt
    have hkp := hI.kp
    have d3 := hI.kp.cellS c3
    go_wp2
    clear hq2 d3 hkp hbl
    go_loopw [20] (fun i wr => ∃ (k : Nat) (τ : Nat → Nat) (gcs : List (Elm 3)), k ≤ s.graphs.length ∧ i = .int .i64 k ∧ CloneS w0 w wr bo τ s (.slice A1 s.box.length e1) (.slice A2 s.rows.length e2) (.slice A3 s.graphs.length e3) (.slice none 0 0) css gcs [] k 0) (fun i _ => s.graphs.length - (intOf i).toNat)
    case atStart => exact ⟨0, τ0, gcs0, Nat.zero_le _, rfl, hI⟩
    case round =>
      clear hI
      obtain ⟨k, τ, gcs, hk, rfl, hI⟩ := hrel
      by_cases hlt : k < s.graphs.length
      · have hkc : k < gcs.length := by have := hI.l3; omega
        have hrd := hI.old3 k hkc hlt (Nat.le_refl _)
        have hll := hz.least s.graphs[k] (List.getElem_mem hlt)
        obtain ⟨tv, hcs, hT⟩ := hrd
        obtain ⟨g, rfl, -, hgl⟩ := hI.o3.at_ (by omega)
        have hge : w0.heap.size ≤ g := (hI.tags g (by rw [hI.t3 g rfl]; omega)).1
        have hgbo : g ≠ bo := fun e => by have h1 := hI.t3 g rfl; have h2 := hI.bo0; rw [e] at h1; omega
        have cell2 : wr.cell? ⟨g, k * 3 + 2, none⟩ = some tv := by
          have := hI.o3.cellAt encC_len (by have := hI.l3; omega) hkc (j := 2) (by omega)
          rw [this]
          show gcs[k].val[2]? = some tv
          rw [hcs]; rfl
        have fr2 : wr.frozen? ⟨g, k * 3 + 2, none⟩ = false := hI.o3.frozen (by have := hI.l3; omega) _
        have htk : gcs[k].val.take 2 = [.int .i64 s.graphs[k].first, .int .i64 s.graphs[k].size] := by rw [hcs]; rfl
        obtain ⟨A4, e4, rfl, he4, hm4⟩ := hT.form
        have hT2 := hT.keep (pl_stable _) (k0.trans hI.kp)
        have hb2 := hI.box.cell (j := 2) rfl
        have hbol := hI.lt
        have q1 : (0 : Int) ≤ k := by omega
        have q2 : (k : Int) < s.graphs.length := by omega
        clear hT hcs
        go_wp2
        have hSf : ∀ W : World, W.heap[bo]? = wr.heap[bo]? → W.heap[g]? = wr.heap[g]? → (W.cell? ⟨bo, 2, none⟩ = some (.slice (some ⟨g, 0, none⟩) s.graphs.length e3) ∧ W.cell? ⟨g, k * 3 + 2, none⟩ = some (.slice A4 s.graphs[k].least.length e4) ∧ W.frozen? ⟨g, k * 3 + 2, none⟩ = false) := fun W h1 h2 => ⟨(World.cell?_of_block h1).trans hb2, (World.cell?_of_block h2).trans cell2, (World.frozen?_of_block h2).trans fr2⟩
        refine beginT 12 (S := fun W => W.cell? ⟨bo, 2, none⟩ = some (.slice (some ⟨g, 0, none⟩) s.graphs.length e3) ∧ W.cell? ⟨g, k * 3 + 2, none⟩ = some (.slice A4 s.graphs[k].least.length e4) ∧ W.frozen? ⟨g, k * 3 + 2, none⟩ = false) (by kernel_rfl) (hSf _ rfl rfl) (fun hHeld => ?_)
        refine take_atT 0 23 (v := ?_) rfl rfl (by kernel_rfl) (by kernel_rfl) (by kernel_rfl) (by kernel_rfl) (by kernel_rfl) (fun _ _ _ h => h) hHeld (Or.inl ⟨by kernel_rfl, ?_⟩) ?_
        rotate_left
        · intro w hSw; (try dsimp only at hSw); go_simp; try with_reducible rfl
        simp only [Act.put, List.setIfInBounds_toArray, List.set_cons_zero, List.set_cons_succ]
        refine take_atT 1 24 (v := ?_) rfl rfl (by kernel_rfl) (by kernel_rfl) (by kernel_rfl) (by kernel_rfl) (by kernel_rfl) (fun _ _ _ h => h) hHeld (Or.inl ⟨by kernel_rfl, ?_⟩) ?_
        rotate_left
        · intro w hSw; (try dsimp only at hSw); go_simp; try with_reducible rfl
        simp only [Act.put, List.setIfInBounds_toArray, List.set_cons_zero, List.set_cons_succ]
        refine take_atT 2 25 (v := ?_) rfl rfl (by kernel_rfl) (by kernel_rfl) (by kernel_rfl) (by kernel_rfl) (by kernel_rfl) (fun _ _ _ h => h) hHeld (Or.inl ⟨by kernel_rfl, ?_⟩) ?_
        rotate_left
        · intro w hSw; (try dsimp only at hSw); go_simp; try with_reducible rfl
        simp only [Act.put, List.setIfInBounds_toArray, List.set_cons_zero, List.set_cons_succ]
        refine take_atT 3 26 (v := ?_) rfl rfl (by kernel_rfl) (by kernel_rfl) (by kernel_rfl) (by kernel_rfl) (by kernel_rfl) (fun _ _ _ h => h) hHeld (Or.inl ⟨by kernel_rfl, ?_⟩) ?_
        rotate_left
        · intro w hSw; (try dsimp only at hSw); go_simp; try with_reducible rfl
        simp only [Act.put, List.setIfInBounds_toArray, List.set_cons_zero, List.set_cons_succ]
        refine take_atT 4 27 (v := ?_) rfl rfl (by kernel_rfl) (by kernel_rfl) (by kernel_rfl) (by kernel_rfl) (by kernel_rfl) (fun _ _ _ h => h) hHeld (Or.inl ⟨by kernel_rfl, ?_⟩) ?_
        rotate_left
        · intro w hSw; (try dsimp only at hSw); go_simp; try with_reducible rfl
        simp only [Act.put, List.setIfInBounds_toArray, List.set_cons_zero, List.set_cons_succ]
        refine take_atT 5 28 (v := ?_) rfl rfl (by kernel_rfl) (by kernel_rfl) (by kernel_rfl) (by kernel_rfl) (by kernel_rfl) (fun _ _ _ h => h) hHeld (Or.inl ⟨by kernel_rfl, ?_⟩) ?_
        rotate_left
        · intro w hSw; (try dsimp only at hSw); go_simp; try with_reducible rfl
        simp only [Act.put, List.setIfInBounds_toArray, List.set_cons_zero, List.set_cons_succ]
        refine take_atT 6 29 (v := ?_) rfl rfl (by kernel_rfl) (by kernel_rfl) (by kernel_rfl) (by kernel_rfl) (by kernel_rfl) (fun _ _ _ h => h) hHeld (Or.inl ⟨by kernel_rfl, ?_⟩) ?_
        rotate_left
        · intro w hSw; (try dsimp only at hSw); go_simp; try with_reducible rfl
        simp only [Act.put, List.setIfInBounds_toArray, List.set_cons_zero, List.set_cons_succ]
        refine take_atT 7 30 (v := ?_) rfl rfl (by kernel_rfl) (by kernel_rfl) (by kernel_rfl) (by kernel_rfl) (by kernel_rfl) (fun _ _ _ h => h) hHeld (Or.inl ⟨by kernel_rfl, ?_⟩) ?_
        rotate_left
        · intro w hSw; (try dsimp only at hSw); go_simp; try with_reducible rfl
        simp only [Act.put, List.setIfInBounds_toArray, List.set_cons_zero, List.set_cons_succ]
        refine take_atT 8 31 (v := ?_) rfl rfl (by kernel_rfl) (by kernel_rfl) (by kernel_rfl) (by kernel_rfl) (by kernel_rfl) (fun _ _ _ h => h) hHeld (Or.inl ⟨by kernel_rfl, ?_⟩) ?_
        rotate_left
        · intro w hSw; (try dsimp only at hSw); go_simp; try with_reducible rfl
        simp only [Act.put, List.setIfInBounds_toArray, List.set_cons_zero, List.set_cons_succ]
        refine stepT (i := 9) (o := _) (by kernel_rfl) rfl (fun K hK => ?_)
        go_simp
        refine (CloneInt_any _ s.graphs[k].least _ (hT2.keep (pl_stable _) (Kp.refl _).drew) (by omega)).mono ?_
        rintro e w5 ⟨v5, rfl, own5, k5⟩
        replace k5 := (Kp.refl wr).drew.trans k5
        obtain ⟨A5, e5, rfl, he5, hm5⟩ := own5.form
        refine hK.out _ _ (hSf _ (k5.block hbol) (k5.block hgl)) (fun hHeld2 => ?_)
        clear hK K hHeld
        have hHeld := hHeld2
        clear hHeld2
        have hN := hI.graph rfl hkc hlt (tv := .slice A5 s.graphs[k].least.length e5) rfl k5 own5 htk
        refine stepT (i := 10) (o := _) (by kernel_rfl) rfl (fun K hK => ?_)
        go_simp
        refine hK.out _ _ hHeld (fun hHeld2 => ?_)
        clear hK K hHeld
        have hHeld := hHeld2
        clear hHeld2
        refine stepT (i := 11) (o := _) (by kernel_rfl) rfl (fun K hK => ?_)
        go_simp
        refine hK.out _ _ hHeld (fun hHeld2 => ?_)
        clear hK K hHeld
        have hHeld := hHeld2
        clear hHeld2
        obtain ⟨hc8, hc9, hf9⟩ := hHeld
        clear hSf cell2 fr2
        refine lastT (o := _) (by kernel_rfl) rfl (fun K hK => ?_)
        go_simp
        refine hK.out _ _ ?_
        clear hK K
        refine doneT (by kernel_rfl) ?_ _
        go_wp2
        go_roundw
        case rel => exact ⟨k + 1, _, _, by omega, by go_num, hN⟩
        case measure => simp [intOf]; omega
      · have hc3 := hI.kp.cellS c3
        have hbl := hI.lt
        have hgr := hI.graphs (by omega)
        have hbz := block_lt_of_cell hc3
        obtain ⟨wo, rfl⟩ : ∃ wo : World, wo = wr := ⟨_, rfl⟩
        go_wp2
        clear hc3 hbl hbz
        go_loopw [39] (fun i wr => ∃ (m : Nat) (τ : Nat → Nat) (A4 : Option Addr) (e4 : Nat) (vs : List (Elm 1)), m ≤ s.cases.length ∧ i = .int .i64 m ∧ CloneS w0 w wr bo τ s (.slice A1 s.box.length e1) (.slice A2 s.rows.length e2) (.slice A3 s.graphs.length e3) (.slice A4 vs.length e4) css gcs vs k m ∧ Hid (m ≤ e4 ∧ e4 ≤ 9223372036854775807)) (fun i _ => s.cases.length - (intOf i).toNat)
        case atStart => exact ⟨0, τ, none, 0, [], Nat.zero_le _, rfl, hI, hid (by omega)⟩
        case round =>
          clear hI hgr
          obtain ⟨m, τ, A4, e4, vs, hm, rfl, hI, HE4⟩ := hrel
          have hl4 := hI.l4
          by_cases hlt2 : m < s.cases.length
          · obtain ⟨q, o, A5, e5, rfl, hq, h1, hT⟩ := (hc.keep rdRows_stable (k0.trans hI.kp)).rowsAt hlt2
            obtain ⟨hlc, hlct⟩ := hz.case s.cases[m] (List.getElem_mem hlt2)
            have hb3 := hI.box.cell (j := 3) rfl
            have hf3 := hI.box.free (j := 3) (by simp)
            have hbol := hI.lt
            have ho4 := hI.o4
            have hob4 := hI.o4.blk_lt
            have hbo4 : (Value.slice A4 vs.length e4).ownBlock ≠ some bo := fun e => by have h1 := hI.t4 bo e; have h2 := hI.bo0; omega
            replace hl4 := hid hl4
            go_wp2
            have hSf : ∀ W : World, W.heap[bo]? = wr.heap[bo]? → (W.cell? ⟨bo, 3, none⟩ = some (.slice A4 vs.length e4) ∧ W.frozen? ⟨bo, 3, none⟩ = false) := fun W h1 => ⟨(World.cell?_of_block h1).trans hb3, (World.frozen?_of_block h1).trans hf3⟩
            refine beginT 7 (S := fun W => W.cell? ⟨bo, 3, none⟩ = some (.slice A4 vs.length e4) ∧ W.frozen? ⟨bo, 3, none⟩ = false) (by kernel_rfl) (hSf _ rfl) (fun hHeld => ?_)
            refine take_atT 0 43 (v := ?_) rfl rfl (by kernel_rfl) (by kernel_rfl) (by kernel_rfl) (by kernel_rfl) (by kernel_rfl) (fun _ _ _ h => h) hHeld (Or.inl ⟨by kernel_rfl, ?_⟩) ?_
            rotate_left
            · intro w hSw; (try dsimp only at hSw); go_simp; try with_reducible rfl
            simp only [Act.put, List.setIfInBounds_toArray, List.set_cons_zero, List.set_cons_succ]
            refine take_atT 1 44 (v := ?_) rfl rfl (by kernel_rfl) (by kernel_rfl) (by kernel_rfl) (by kernel_rfl) (by kernel_rfl) (fun _ _ _ h => h) hHeld (Or.inl ⟨by kernel_rfl, ?_⟩) ?_
            rotate_left
            · intro w hSw; (try dsimp only at hSw); go_simp; try with_reducible rfl
            simp only [Act.put, List.setIfInBounds_toArray, List.set_cons_zero, List.set_cons_succ]
            refine take_atT 2 45 (v := ?_) rfl rfl (by kernel_rfl) (by kernel_rfl) (by kernel_rfl) (by kernel_rfl) (by kernel_rfl) (fun _ _ _ h => h) hHeld (Or.inl ⟨by kernel_rfl, ?_⟩) ?_
            rotate_left
            · intro w hSw; (try dsimp only at hSw); go_simp; try with_reducible rfl
            simp only [Act.put, List.setIfInBounds_toArray, List.set_cons_zero, List.set_cons_succ]
            refine stepT (i := 3) (o := _) (by kernel_rfl) rfl (fun K hK => ?_)
            go_simp
            refine (sCopied_any _ s.cases[m] _ (hT.keep rdRow_stable (Kp.refl _).drew) (by omega) (fun r hr => by have := hlct r hr; omega)).mono ?_
            rintro e w5 ⟨v5, cssx, rfl, nl5, k5⟩
            replace k5 := (Kp.refl wr).drew.trans k5
            obtain ⟨A6, e6, rfl, he6, hm6⟩ := nl5.form
            refine hK.out _ _ (hSf _ (k5.block hbol)) (fun hHeld2 => ?_)
            clear hK K hHeld
            have hHeld := hHeld2
            clear hHeld2
            refine stepT (i := 4) (o := _) (by kernel_rfl) rfl (fun K hK => ?_)
            go_simp
            have kD := (Kp.refl w5).alloc (.cells #[.slice A6 s.cases[m].length e6] 23)
            have hbD : (w5.alloc (.cells #[.slice A6 s.cases[m].length e6] 23)).heap[bo]? = wr.heap[bo]? := (kD.block (Nat.lt_of_lt_of_le hbol k5.size)).trans (k5.block hbol)
            refine hK.out _ _ (hSf _ hbD) (fun hHeld2 => ?_)
            clear hK K hHeld
            have hHeld := hHeld2
            clear hHeld2
            refine stepT (i := 5) (o := _) (by kernel_rfl) rfl (fun K hK => ?_)
            refine step_append4 (l := vs) (m := [(⟨[.slice A6 s.cases[m].length e6], rfl, by simp [Value.oneCell']⟩ : Elm 1)]) rfl (.tmp 44) (.tmp 47) rfl stRowsM encC_len encC_one rfl ((ho4.kp k5).kp kD) rfl (Sl.one (R := Pl encC) w5 [.slice A6 s.cases[m].length e6] 23 1 _ rfl rfl) (by have := hl4.out; simp; omega) (by have := hl4.out; simp; omega) (Nat.zero_le _) ?_
            intro v4 w4 hown4 hgrow4 hat4
            have hN := hI.case hlt2 k5 kD nl5 rfl hown4 hgrow4 hat4
            have hl5 := hN.l4
            generalize vs ++ [(⟨[.slice A6 s.cases[m].length e6], rfl, by simp [Value.oneCell']⟩ : Elm 1)] = vs2 at *
            obtain ⟨A7, e7, rfl, he7, hm7⟩ := hown4.form
            replace hl5 := hid hl5
            refine hK.out _ _ (hSf _ ((hgrow4.block bo (by have := k5.size; simp; omega) (fun e => hbo4 e.symm)).trans hbD)) (fun hHeld2 => ?_)
            clear hK K hHeld
            have hHeld := hHeld2
            clear hHeld2
            refine stepT (i := 6) (o := _) (by kernel_rfl) rfl (fun K hK => ?_)
            go_simp
            refine hK.out _ _ hHeld (fun hHeld2 => ?_)
            clear hK K hHeld
            have hHeld := hHeld2
            clear hHeld2
            obtain ⟨hc8, hf8⟩ := hHeld
            clear hSf hb3 hf3
            refine lastT (o := _) (by kernel_rfl) rfl (fun K hK => ?_)
            go_simp
            refine hK.out _ _ ?_
            clear hK K
            refine doneT (by kernel_rfl) ?_ _
            go_wp2
            go_roundw
            case rel => exact ⟨m + 1, _, A7, e7, _, by omega, by go_num, hN, hid (by have := hl5.out; omega)⟩
            case measure => simp [intOf]; omega
          · have hme : m = s.cases.length := by omega
            have hgrF := hI.graphs (kg := k) (by omega)
            have b0' := hI.box.cell (j := 0) rfl
            have b1' := hI.box.cell (j := 1) rfl
            have b2' := hI.box.cell (j := 2) rfl
            have b3' := hI.box.cell (j := 3) rfl
            have hbol := hI.lt
            have hzw' := hzw.out
            have hbw' := hbw.out
            have hRr := hR.kp hI.kp (by omega)
            have hblr : b + 1 < wr.heap.size := by have := hI.kp.size; omega
            have f0 := hRr.free (j := 0) (by simp)
            have f1 := hRr.free (j := 1) (by simp)
            have f2 := hRr.free (j := 2) (by simp)
            have f3 := hRr.free (j := 3) (by simp)
            have g0 := hRr.cell (j := 0) rfl
            have g1 := hRr.cell (j := 1) rfl
            have g2 := hRr.cell (j := 2) rfl
            have g3 := hRr.cell (j := 3) rfl
            clear hzw' hbw'
            replace hme := hid hme
            replace hl4 := hid hl4
            have hBF := (((hRr.set (j := 0) (by simp) (.slice A1 s.box.length e1)).set (j := 1) (by simp) (.slice A2 s.rows.length e2)).set (j := 2) (by simp) (.slice A3 s.graphs.length e3)).set (j := 3) (by simp) (.slice A4 vs.length e4)
            simp only [List.set_cons_zero, List.set_cons_succ] at hBF
            have kS : Kg wr ((((wr.setCell ⟨b + 1, 0, none⟩ (.slice A1 s.box.length e1)).setCell ⟨b + 1, 1, none⟩ (.slice A2 s.rows.length e2)).setCell ⟨b + 1, 2, none⟩ (.slice A3 s.graphs.length e3)).setCell ⟨b + 1, 3, none⟩ (.slice A4 vs.length e4)) (b + 1) := ((((Kg.refl wr (b + 1)).set (p := ⟨b + 1, 0, none⟩) (.inl rfl) _).set (p := ⟨b + 1, 1, none⟩) (.inl rfl) _).set (p := ⟨b + 1, 2, none⟩) (.inl rfl) _).set (p := ⟨b + 1, 3, none⟩) (.inl rfl) _
            have hτ : τ (b + 1) = 0 := by
              by_cases h : τ (b + 1) = 0
              · exact h
              · have := (hI.tags _ h).1
                have := hzw.out
                omega
            have hsys := hI.fin (by omega) hme.out kS hτ
            have htags : Tags w.heap.size ((((wr.setCell ⟨b + 1, 0, none⟩ (.slice A1 s.box.length e1)).setCell ⟨b + 1, 1, none⟩ (.slice A2 s.rows.length e2)).setCell ⟨b + 1, 2, none⟩ (.slice A3 s.graphs.length e3)).setCell ⟨b + 1, 3, none⟩ (.slice A4 vs.length e4)) τ := fun q hq => by
              have h1 := hI.tags q hq
              have h2 := kS.size
              have h3 := hzw.out
              have h4 := hbw.out
              omega
            have hkF := Kg.to_kp (k0.trans hI.kp) kS (by have := hbw.out; omega)
            go_wp2
            refine bodyPost_ret (results_cell_bx rfl _ _ (b + 1) [.slice A1 s.box.length e1, .slice A2 s.rows.length e2, .slice A3 s.graphs.length e3, .slice A4 vs.length e4] _ rfl hBF.range Try.underlying27 rfl (by kernel_rfl)) rfl ?_
            exact ⟨_, _, _, _, τ, rfl, htags, hsys, hkF⟩
end Go.Proofs.Ytfllmnaillilhaa
