
/-
The reference of the broker: giving away: the walk.
-/
import Derived.Test.YtbcekihjcgnhkaaBrK
import Derived.Test.YtbcekihjcgnhkaaBrI
import Derived.Test.YtbcekihjcgnhkaaBrB
namespace Go.Proofs.Ytbcekihjcgnhkaa
set_option linter.unusedSimpArgs false
set_option linter.unusedVariables false
open Go.RowKit

/-- a new request -/
def boxA (base : Nat) (v : Value) (w : World) : Prop := ∃ p : Nat, v = .pointer (some ⟨p, 0, none⟩) ∧ base ≤ p ∧ Bx w p [.int .i64 0, .int .i64 0, .int .i64 0, .int .i64 0, .int .i64 0, .slice none 0 0]
theorem stab_boxA (base : Nat) : G2.Stab (boxA base) := fun _ _ _ ⟨p, e, h1, h2⟩ k => ⟨p, e, h1, h2.keep (k.block (h2.lt (by simp)))⟩
/-- a slice of one grant -/
def oneGr (y : Gr) (v : Value) (w : World) : Prop := ∃ p : Nat, v = .slice (some ⟨p, 0, none⟩) 1 1 ∧ Sl (Pl encGr) 5 w (.slice (some ⟨p, 0, none⟩) 1 1) [y]
theorem stab_oneGr (y : Gr) : G2.Stab (oneGr y) := fun _ _ _ ⟨p, e, h⟩ k => ⟨p, e, h.keep (pl_stable _) k⟩
/-- what may change: Z, the row gh, the row of what is given -/
def FG (Z : Nat → Prop) (gh : Nat) (vo : Value) (q : Nat) : Prop := Z q ∨ q = gh ∨ vo.ownBlock = some q
theorem OwF.turn {F F' : Nat → Prop} {w w1 : World} {R : World → Prop} (h : OwF F w R) (k : Fx F w w1) (hF : ∀ q, F' q → q < w.heap.size → F q) : OwF F' w1 R := fun w2 k2 =>
  h w2 ⟨k2.os.trans k.os, k2.tape.trans k.tape, k2.output.trans k.output, Nat.le_trans k.size k2.size, fun i hi hx => (k2.block i (Nat.lt_of_lt_of_le hi k.size) (fun hf => hx (hF i hf hi))).trans (k.block i hi hx)⟩
theorem OwF.mono {F F' : Nat → Prop} {w : World} {R : World → Prop} (h : OwF F w R) (hF : ∀ q, F' q → F q) : OwF F' w R := fun w2 k2 => h w2 (k2.mono fun q _ hq => hF q hq)
theorem kp_owF {F : Nat → Prop} {w w1 : World} {R : World → Prop} (h : ∀ w', Kp w w' → R w') (k : Kp w w1) (hF : ∀ q, F q → w.heap.size ≤ q) : OwF F w1 R := fun w2 k2 => h w2 (((k.fx F).trans k2).kp fun q hq hf => by have := hF q hf; omega)
/-- between two requests, in memory -/
structure GvW (X : Nat → Prop) (b : Bk) (has : List Nd) (w : World) (o0 gh n ch m c2 x0 tB bO bL bG : Nat) (A2 : Option Addr) (out : List Nat) (L0 : List Value) (k : Nat) (hs : List Nd) (H : Int → Option Ak) (gs : List Gr) (L : List AV) (vs vo : Value) (wr : World) : Prop where
  gv : GvO b has k hs H gs
  mp : L.map (·.a) = hdL H n
  row : Own encAV 29 6 bG wr (.slice (some ⟨gh, 0, none⟩) n ch) L
  nds : ∀ x ∈ L, OwF (FG X gh vo) wr fun w' => Nds w' x.v x.a.needs
  hsw : OwF (FG (fun _ => False) gh vo) wr fun w' => Nds w' vs hs
  ow : Own encGr 46 5 o0 wr vo gs
  ne : vo.ownBlock ≠ some gh
  lst : Own encInt 3 1 bL wr (.slice A2 m c2) (natI out)
  ap : ∀ q, (Value.slice A2 m c2).ownBlock = some q → vo.ownBlock ≠ some q ∧ q ≠ gh
  bx : Bx wr x0 L0
  bt : Bx wr tB [.int .i64 0, .int .i64 0, .int .i64 0, .bool false, .int .i64 0, .int .i64 0, .int .i64 0, .int .i64 0, .slice none 0 0, .slice none 0 0]
  sz : bO ≤ wr.heap.size
  kp : Kp w wr
  len : gs.length ≤ k * 2048
/-- within a request, in memory -/
structure GvM (X : Nat → Prop) (w : World) (o0 gh n ch m c2 x0 tB ab bL bG bN cn : Nat) (A2 An : Option Addr) (out : List Nat) (L0 : List Value) (L : List AV) (nl : List Nd) (num p1 p2 p3 p4 : Int)
    (hs cur : List Nd) (og : List Gr) (uA : Option Addr) (un uc : Nat) (vs vo : Value) (wr : World) : Prop where
  ba : Bx wr ab [.int .i64 num, .int .i64 p1, .int .i64 p2, .int .i64 p3, .int .i64 p4, .slice uA un uc]
  cw : OwF (FG (fun q => X q ∨ q = ab) gh vo) wr fun w' => Nds w' (.slice uA un uc) cur
  hw : OwF (FG (fun q => q = ab) gh vo) wr fun w' => Nds w' vs hs
  nds : ∀ x ∈ L, OwF (FG (fun q => X q ∨ q = ab) gh vo) wr fun w' => Nds w' x.v x.a.needs
  row : Own encAV 29 6 bG wr (.slice (some ⟨gh, 0, none⟩) n ch) L
  ow : Own encGr 46 5 o0 wr vo og
  ne : vo.ownBlock ≠ some gh ∧ vo.ownBlock ≠ some ab
  lst : Own encInt 3 1 bL wr (.slice A2 m c2) (natI out)
  ap : ∀ q, (Value.slice A2 m c2).ownBlock = some q → vo.ownBlock ≠ some q ∧ q ≠ gh ∧ q ≠ ab
  nw : Own encNd 41 4 bN wr (.slice An nl.length cn) nl
  an : ∀ q, (Value.slice An nl.length cn).ownBlock = some q → vo.ownBlock ≠ some q ∧ q ≠ gh ∧ q ≠ ab
  bx : Bx wr x0 L0
  bt : Bx wr tB [.int .i64 0, .int .i64 0, .int .i64 0, .bool false, .int .i64 0, .int .i64 0, .int .i64 0, .int .i64 0, .slice none 0 0, .slice none 0 0]
  sz : o0 ≤ wr.heap.size ∧ gh < wr.heap.size ∧ ab < wr.heap.size ∧ x0 < o0 ∧ tB < o0 ∧ L0.length ≠ 0
  lo : gh < ab ∧ o0 ≤ gh
  kp : Kp w wr
section
variable {X : Nat → Prop} {w : World} {o0 gh n ch m c2 x0 tB ab bL bG bN cn : Nat} {A2 An : Option Addr} {out : List Nat} {L0 : List Value} {L : List AV} {nl : List Nd} {num p1 p2 p3 p4 : Int} {hs cur : List Nd} {og : List Gr} {uA : Option Addr} {un uc : Nat} {vs vo : Value} {wr w' : World}
theorem GvM.kp' (h : GvM X w o0 gh n ch m c2 x0 tB ab bL bG bN cn A2 An out L0 L nl num p1 p2 p3 p4 hs cur og uA un uc vs vo wr) (k : Kp wr w') : GvM X w o0 gh n ch m c2 x0 tB ab bL bG bN cn A2 An out L0 L nl num p1 p2 p3 p4 hs cur og uA un uc vs vo w' :=
  ⟨h.ba.kp k (h.ba.lt (by simp)), h.cw.kp k, h.hw.kp k, fun x hx => (h.nds x hx).kp k, h.row.kp k, h.ow.kp k, h.ne, h.lst.kp k, h.ap, h.nw.kp k, h.an, h.bx.kp k (h.bx.lt (by have := h.sz; omega)), h.bt.kp k (h.bt.lt (by simp)), ⟨Nat.le_trans h.sz.1 k.size, Nat.lt_of_lt_of_le h.sz.2.1 k.size, Nat.lt_of_lt_of_le h.sz.2.2.1 k.size, h.sz.2.2.2⟩, h.lo, h.kp.trans k⟩
theorem GvM.app (h : GvM X w o0 gh n ch m c2 x0 tB ab bL bG bN cn A2 An out L0 L nl num p1 p2 p3 p4 hs cur og uA un uc vs vo wr) {og' : List Gr} {vo' : Value} (ho : Own encGr 46 5 o0 w' vo' og') (hg : wr.grownBy w' vo.ownBlock) (hat : vo'.ownBlock = vo.ownBlock ∨ vo'.ownBlock = some wr.heap.size) (hw0 : w.heap.size ≤ o0) :
    GvM X w o0 gh n ch m c2 x0 tB ab bL bG bN cn A2 An out L0 L nl num p1 p2 p3 p4 hs cur og' uA un uc vs vo' w' := by
  have hge := h.ow.ge
  have hsz := h.sz
  have fx : ∀ Z : Nat → Prop, Fx (FG Z gh vo) wr w' := fun Z => ⟨hg.os, hg.tape, hg.output, hg.size, fun i hi hx => hg.block i hi (fun e => hx (.inr (.inr e.symm)))⟩
  have tr : ∀ (Z : Nat → Prop) q, FG Z gh vo' q → q < wr.heap.size → FG Z gh vo q := fun Z q hq hl => by
    rcases hq with h1 | h1 | h1
    · exact .inl h1
    · exact .inr (.inl h1)
    · rcases hat with h2 | h2
      · exact .inr (.inr (h2 ▸ h1))
      · rw [h2] at h1
        injection h1 with h1
        omega
  have nb : ∀ q, q < wr.heap.size → vo.ownBlock ≠ some q → vo'.ownBlock ≠ some q := fun q hq hne e => by
    rcases hat with h2 | h2
    · exact hne (h2.symm.trans e)
    · rw [h2] at e
      injection e with e
      omega
  have bk : ∀ q, q < wr.heap.size → vo.ownBlock ≠ some q → w'.heap[q]? = wr.heap[q]? := fun q hq hne => hg.block q hq (fun e => hne e.symm)
  have lx : ∀ q, q < o0 → vo.ownBlock ≠ some q := fun q hq e => by have := hge q e; omega
  refine ⟨h.ba.keep (bk ab hsz.2.2.1 h.ne.2), h.cw.turn (fx _) (tr _), h.hw.turn (fx _) (tr _), fun x hx => (h.nds x hx).turn (fx _) (tr _), h.row.owS w' hg.size (fun q hq hl => bk q hl (by simp [Value.ownBlock] at hq; rw [← hq]; exact h.ne.1)), ho, ⟨nb gh hsz.2.1 h.ne.1, nb ab hsz.2.2.1 h.ne.2⟩,
    h.lst.owS w' hg.size (fun q hq hl => bk q hl (h.ap q hq).1), fun q hq => ⟨nb q (h.lst.blk_lt q hq) (h.ap q hq).1, (h.ap q hq).2⟩, h.nw.owS w' hg.size (fun q hq hl => bk q hl (h.an q hq).1), fun q hq => ⟨nb q (h.nw.blk_lt q hq) (h.an q hq).1, (h.an q hq).2⟩,
    h.bx.keep (bk x0 (by omega) (lx x0 hsz.2.2.2.1)), h.bt.keep (bk tB (by omega) (lx tB hsz.2.2.2.2.1)), ⟨Nat.le_trans hsz.1 hg.size, Nat.lt_of_lt_of_le hsz.2.1 hg.size, Nat.lt_of_lt_of_le hsz.2.2.1 hg.size, hsz.2.2.2⟩, h.lo, h.kp.grown hg (fun q hq => Nat.le_trans hw0 (hge q hq))⟩
theorem GvM.has' (h : GvM X w o0 gh n ch m c2 x0 tB ab bL bG bN cn A2 An out L0 L nl num p1 p2 p3 p4 hs cur og uA un uc vs vo wr) {hs' : List Nd} {vs' : Value} (hh : OwF (FG (fun q => q = ab) gh vo) wr fun w' => Nds w' vs' hs') : GvM X w o0 gh n ch m c2 x0 tB ab bL bG bN cn A2 An out L0 L nl num p1 p2 p3 p4 hs' cur og uA un uc vs' vo wr :=
  ⟨h.ba, h.cw, hh, h.nds, h.row, h.ow, h.ne, h.lst, h.ap, h.nw, h.an, h.bx, h.bt, h.sz, h.lo, h.kp⟩
theorem GvM.cur' (h : GvM X w o0 gh n ch m c2 x0 tB ab bL bG bN cn A2 An out L0 L nl num p1 p2 p3 p4 hs cur og uA un uc vs vo wr) {cur' : List Nd} {uA' : Option Addr} {un' uc' : Nat} (hc : OwF (FG (fun q => X q ∨ q = ab) gh vo) wr fun w' => Nds w' (.slice uA' un' uc') cur') (hw0 : w.heap.size ≤ o0) :
    GvM X w o0 gh n ch m c2 x0 tB ab bL bG bN cn A2 An out L0 L nl num p1 p2 p3 p4 hs cur' og uA' un' uc' vs vo (wr.setCell ⟨ab, 5, none⟩ (.slice uA' un' uc')) := by
  have hsz := h.sz
  have hlo := h.lo
  have fx : Fx (fun q => q = ab) wr (wr.setCell ⟨ab, 5, none⟩ (.slice uA' un' uc')) := (Fx.refl _ _).set1 ⟨ab, 5, none⟩ _ (.inl rfl)
  have S := h.ba.set (j := 5) (by simp) (.slice uA' un' uc')
  simp only [List.set_cons_zero, List.set_cons_succ] at S
  refine ⟨S, hc.fx (fx.mono fun q _ hq => .inl (.inr hq)), h.hw.fx (fx.mono fun q _ hq => .inl hq), fun x hx => (h.nds x hx).fx (fx.mono fun q _ hq => .inl (.inr hq)), h.row.fx fx (fun q hq e => by simp [Value.ownBlock] at hq; have e : q = ab := e; omega), h.ow.fx fx (fun q hq e => h.ne.2 (by rw [hq]; congr 1)), h.ne,
    h.lst.fx fx (fun q hq e => (h.ap q hq).2.2 e), h.ap, h.nw.fx fx (fun q hq e => (h.an q hq).2.2 e), h.an, h.bx.fx fx (by omega) (fun e => by omega), h.bt.fx fx (by omega) (fun e => by omega), ⟨Nat.le_trans hsz.1 fx.size, Nat.lt_of_lt_of_le hsz.2.1 fx.size, Nat.lt_of_lt_of_le hsz.2.2.1 fx.size, hsz.2.2.2⟩, h.lo, ((h.kp.fx _).trans fx).kp (fun q hq e => by have e : q = ab := e; omega)⟩
end
theorem keeps_bt {o : Option (Pr × List Nd)} {x : Rt} {p : Pr} : keeps o x p = if (match o with | none => false | some q => lessB q.1 p) = true then amt (lstO o) x else 0 := by
  cases o with
  | none => rfl
  | some q =>
    obtain ⟨q, l⟩ := q
    rfl
theorem GvW.pick {X : Nat → Prop} {b : Bk} {has : List Nd} {w : World} {o0 gh n ch m c2 x0 tB bO bL bG : Nat} {A2 : Option Addr} {out : List Nat} {L0 : List Value} {k : Nat} {hs : List Nd} {H : Int → Option Ak} {gs : List Gr} {L : List AV} {vs vo : Value} {wr : World}
    (G : GvW X b has w o0 gh n ch m c2 x0 tB bO bL bG A2 out L0 k hs H gs L vs vo wr) (ok : OkB b) (hOr : OrI b b.n.toNat out) (hnn : b.n.toNat = n) (hk : k < out.length) :
    ∃ (r : Nat) (a : Ak) (y : AV) (g2 o2 : Nat), A2 = some ⟨g2, o2, none⟩ ∧ wr.cell? ⟨g2, o2 + k, none⟩ = some (.int .i64 (r : Int)) ∧ r < n ∧ (reqL b)[k]? = some a ∧ a.pri.2.2.1 = (r : Int) ∧ H (r : Int) = some a ∧ y.a = a ∧ L[r]? = some y ∧ a.needs.length ≠ 0 ∧ validL a.needs = true ∧
      wr.cell? ⟨gh, r * 6, none⟩ = some (.int .i64 a.num) ∧ wr.cell? ⟨gh, r * 6 + 1, none⟩ = some (.int .i64 a.pri.1) ∧ wr.cell? ⟨gh, r * 6 + 2, none⟩ = some (.int .i64 a.pri.2.1) ∧ wr.cell? ⟨gh, r * 6 + 3, none⟩ = some (.int .i64 a.pri.2.2.1) ∧
      wr.cell? ⟨gh, r * 6 + 4, none⟩ = some (.int .i64 a.pri.2.2.2) ∧ wr.cell? ⟨gh, r * 6 + 5, none⟩ = some y.v ∧ (OwF (FG X gh vo) wr fun w' => Nds w' y.v a.needs) := by
  have hrq := hOr.done ok
  have hrk : k < (reqL b).length := by rw [← hrq, List.length_map]; exact hk
  obtain ⟨g2, o2, rfl, hg2, c0⟩ := int_intCell (G.lst.sl encInt_len) (k := k) (by rw [natI_len]; exact hk)
  rw [natI_at hk] at c0
  obtain ⟨a, ha⟩ : ∃ a, a = (reqL b)[k] := ⟨_, rfl⟩
  have hab : a = hd b.heard out[k] := by
    rw [ha]
    have h1 : (reqL b)[k] = (out.map (hd b.heard))[k]'(by rw [List.length_map]; exact hk) := by congr 1; exact hrq.symm
    rw [h1, List.getElem_map]
  have hrn : out[k] < n := by rw [← hnn]; exact ((hOr.mem _).1 (List.getElem_mem hk)).1
  have hna : a.needs.length ≠ 0 := by rw [hab]; exact ((hOr.mem _).1 (List.getElem_mem hk)).2
  have hpr : a.pri.2.2.1 = ((out[k] : Nat) : Int) := by rw [hab]; exact hd_pri ok (by rw [← hab]; exact hna)
  have hHa : H (((out[k] : Nat) : Int)) = some a := by
    have h1 := G.gv.hd k hrk (Nat.le_refl _)
    rw [← ha, hpr] at h1
    exact h1
  have hva : validL a.needs = true := by
    have h1 := hd_some (b := b) (x := out[k]) (by rw [← hab]; exact hna)
    rw [← hab] at h1
    have h2 := (ok.key _ _ h1).2.2.2
    unfold validA at h2
    simp only [Bool.and_eq_true] at h2
    exact h2.1.2
  obtain ⟨hLr, hLa⟩ := map_a_at G.mp hrn
  have hda : hd H out[k] = a := by unfold hd; rw [hHa]; rfl
  rw [hda] at hLa
  obtain ⟨g, o, hA', hg, i0, i1, i2, i3, i4, i5⟩ := av_cells (G.row.sl encAV_len) hLr
  injection hA' with hA'
  injection hA' with eg eo
  subst eg eo
  rw [hLa] at i0 i1 i2 i3 i4
  rw [Nat.zero_add] at i0 i1 i2 i3 i4 i5
  have hnd := G.nds _ (List.getElem_mem hLr)
  rw [hLa] at hnd
  exact ⟨out[k], a, L[out[k]], g2, o2, rfl, c0, hrn, by rw [List.getElem?_eq_getElem hrk, ha], hpr, hHa, hLa, List.getElem?_eq_getElem hLr, hna, hva, i0, i1, i2, i3, i4, i5, hnd⟩
/-- a request is answered: what it is in memory -/
theorem GvM.back {X : Nat → Prop} {b : Bk} {has : List Nd} {w w9 w15 : World} {o0 gh n ch m c2 x0 tB ab bO bL bG bN cn : Nat} {A2 An : Option Addr} {out : List Nat} {L0 : List Value} {L : List AV} {nl : List Nd} {num p1 p2 p3 p4 : Int} {hs cur : List Nd} {gs g2s : List Gr} {uA : Option Addr} {un uc : Nat} {vs vo : Value} {hs0 : List Nd} {H : Int → Option Ak} {a : Ak} {r k : Nat} {y' : AV}
    (h : GvM X w o0 gh n ch m c2 x0 tB ab bL bG bN cn A2 An out L0 L nl num p1 p2 p3 p4 hs cur (gs ++ g2s) uA un uc vs vo w9) (hf : Fx (fun q => q = gh) w9 w15) (hro : Own encAV 29 6 bG w15 (.slice (some ⟨gh, 0, none⟩) n ch) (L.set r y')) (hy : y' = ⟨{ a with needs := cur }, uA, un, uc⟩)
    (gv : GvO b has k hs0 H gs) (mp : L.map (·.a) = hdL H n) (ok : OkB b) (ha : (reqL b)[k]? = some a) (hpr : a.pri.2.2.1 = (r : Int)) (hr : r < n) (GI : GvI (fun x => keeps b.own x a.pri) a.pri.2.2.1 a.needs (amt hs0) a.needs.length hs cur g2s) (hbo : bO ≤ w9.heap.size) (hw0 : w.heap.size ≤ o0) (hgl : gs.length + g2s.length ≤ (k + 1) * 2048) :
    GvW X b has w o0 gh n ch m c2 x0 tB bO bL bG A2 out L0 (k + 1) hs (setH H (r : Int) { a with needs := cur }) (gs ++ g2s) (L.set r y') vs vo w15 := by
  obtain ⟨hi, hia⟩ := List.getElem?_eq_some_iff.1 ha
  have hsz := h.sz
  have hlo := h.lo
  have hF : ∀ Z : Nat → Prop, Fx (FG Z gh vo) w9 w15 := fun Z => hf.mono fun q _ hq => .inr (.inl hq)
  have hgv := GvO.step ok gv hi (by rw [hia]; exact GI)
  rw [hia, hpr] at hgv
  have hne : ∀ q, vo.ownBlock = some q → ¬ q = gh := fun q hq e => h.ne.1 (by rw [hq, e])
  refine ⟨hgv, ?_, hro, fun x hx => ?_, (h.hw.fx (hF _)).mono (fun q hq => ?_), h.ow.fx hf hne, h.ne.1, h.lst.fx hf (fun q hq => (h.ap q hq).2.1), fun q hq => ⟨(h.ap q hq).1, (h.ap q hq).2.1⟩, h.bx.fx hf (by omega) (fun e => by omega), h.bt.fx hf (by omega) (fun e => by omega), Nat.le_trans hbo hf.size,
    ((h.kp.fx _).trans hf).kp (fun q hq e => by have e : q = gh := e; omega), by rw [List.length_append]; exact hgl⟩
  · rw [List.map_set, mp, hdL_set _ _ hr, hy]
  · rcases List.mem_or_eq_of_mem_set hx with hx | rfl
    · refine ((h.nds x hx).fx (hF _)).mono (fun q hq => ?_)
      rcases hq with h1 | h1
      · exact .inl (.inl h1)
      · exact .inr h1
    · rw [hy]
      refine (h.cw.fx (hF _)).mono (fun q hq => ?_)
      rcases hq with h1 | h1
      · exact .inl (.inl h1)
      · exact .inr h1
  · rcases hq with h1 | h1
    · exact h1.elim
    · exact .inr h1
theorem okB_step {b : Bk} {H : Int → Option Ak} {a : Ak} {k r : Nat} {hs0 hs cur : List Nd} {g2s : List Gr} (ok : OkB b) (hH : OkB { b with heard := H }) (ha : (reqL b)[k]? = some a) (hpr : a.pri.2.2.1 = (r : Int)) (GI : GvI (fun x => keeps b.own x a.pri) a.pri.2.2.1 a.needs (amt hs0) a.needs.length hs cur g2s) :
    OkB { b with heard := setH H (r : Int) { a with needs := cur } } := by
  obtain ⟨hi, hia⟩ := List.getElem?_eq_some_iff.1 ha
  have hm : a ∈ reqL b := by rw [← hia]; exact List.getElem_mem hi
  have h1 := okB_give (kp := fun x => keeps b.own x a.pri) (tg := a.pri.2.2.1) (f := amt hs0) hH ok hm
  rw [GI.done.2.1, hpr] at h1
  exact h1
set_option maxRecDepth 8000 in
set_option maxHeartbeats 8000000 in
theorem rGrants41_any (X : Nat → Prop) (b : Bk) (has : List Nd) (va vh vs : Value) (w : World) (hR : RefX X w b va vh) (hX : ∀ q, X q → q < w.heap.size) (hv : Nds w vs has) :
    Calls Try.prog 25 #[.agg (refL b va vh).toArray, vs] w fun e w' => Kp w w' ∧ ∃ vh' vg, e = .returned (.tuple #[.agg (refL (grants b has).1 va vh').toArray, vg]) ∧ (OwF X w' fun w2 => Grs w2 vg (grants b has).2) ∧ RefX X w' (grants b has).1 va vh' := by
  have hok := hid hR.ok
  have hn1 := hR.ok.n1
  obtain ⟨A, c, A', c', e1, e2⟩ := hR.form
  subst e1 e2
  obtain ⟨As, cs, rfl, hsc, hss⟩ := hv.form
  obtain ⟨R, hRR⟩ : ∃ R, R = grants b has := ⟨_, rfl⟩
  rw [← hRR]
  replace hRR := hid hRR
  have HV := hid hv
  have k1 := (Kp.refl w).alloc (.cells ((refL b (.slice A (lstO b.own).length c) (.slice A' b.n.toNat c'))).toArray 58)
  have B1 := Bx.new w ((refL b (.slice A (lstO b.own).length c) (.slice A' b.n.toNat c'))).toArray 58
  have z1 := World.size_alloc w (.cells ((refL b (.slice A (lstO b.own).length c) (.slice A' b.n.toNat c'))).toArray 58)
  clear hv
  go_enter Try.func25, Try.ntmps25
  go_upto_region 1 with (fail)
  generalize w.alloc (.cells ((refL b (.slice A (lstO b.own).length c) (.slice A' b.n.toNat c'))).toArray 58) = wa at *
  have k2 := (Kp.refl wa).alloc (.cells ([.int .i64 0, .int .i64 0, .int .i64 0, .bool false, .int .i64 0, .int .i64 0, .int .i64 0, .int .i64 0, .slice none 0 0, .slice none 0 0]).toArray 58)
  have B2 := Bx.new wa ([.int .i64 0, .int .i64 0, .int .i64 0, .bool false, .int .i64 0, .int .i64 0, .int .i64 0, .int .i64 0, .slice none 0 0, .slice none 0 0]).toArray 58
  have z2 := World.size_alloc wa (.cells ([.int .i64 0, .int .i64 0, .int .i64 0, .bool false, .int .i64 0, .int .i64 0, .int .i64 0, .int .i64 0, .slice none 0 0, .slice none 0 0]).toArray 58)
  generalize wa.alloc (.cells ([.int .i64 0, .int .i64 0, .int .i64 0, .bool false, .int .i64 0, .int .i64 0, .int .i64 0, .int .i64 0, .slice none 0 0, .slice none 0 0]).toArray 58) = wb at *
  have hEo := Own.lit (base := wb.heap.size) (e := 46) (size := 5) encGr wb #[] [] (Nat.le_refl _) (by simp) rfl rfl
  have k3 := (Kp.refl wb).alloc (.cells #[] 46)
  have z3 := World.size_alloc wb (.cells #[] 46)
  obtain ⟨x0, hx0⟩ : ∃ x0, x0 = w.heap.size := ⟨_, rfl⟩
  obtain ⟨tB, htB⟩ : ∃ tB, tB = x0 + 1 := ⟨_, rfl⟩
  obtain ⟨o0, ho0⟩ : ∃ o0, o0 = tB + 1 := ⟨_, rfl⟩
  rw [← hx0, ← htB] at z1
  rw [z1, ← ho0] at z2
  rw [← hx0] at B1 ⊢
  rw [z1] at B2
  rw [z2] at hEo
  rw [← htB]
  try simp only [List.toList_toArray] at B1 B2
  have hl1 := B1.lt (by simp)
  have hl2 := B2.lt (by simp)
  have B1b := B1.kp k2 hl1
  have hl1b := B1b.lt (by simp)
  have B1c := B1b.kp k3 hl1b
  have B2c := B2.kp k3 hl2
  have eo0 := hid (show w.heap.size + 1 + 1 = o0 by omega)
  have hne0 : x0 < tB ∧ tB < o0 ∧ w.heap.size ≤ x0 := by omega
  have z3' := hid (show (wb.alloc (.cells #[] 46)).heap.size = o0 + 1 by rw [z3, z2])
  replace hx0 := hid hx0
  replace htB := hid htB
  replace ho0 := hid ho0
  go_upto_region 2 with (fail)
  generalize wb.alloc (.cells #[] 46) = wc at *
  have k03 := k1.trans (k2.trans k3)
  have hne : x0 < tB ∧ tB < o0 ∧ w.heap.size ≤ x0 ∧ o0 < wc.heap.size := by have := z3'.out; omega
  replace z1 := hid z1
  replace z2 := hid z2
  replace z3 := hid z3
  clear B1 B2 k1 k2 k3 hl1 hl2 B1b hl1b
  have hl1 := B1c.lt (by simp)
  have hl2 := B2c.lt (by simp)
  go_wp2_with fail
  refine (rValid_any _ has wc (HV.out.keep (pl_stable _) k03)).mono ?_
  rintro e w2 ⟨rfl, k2⟩
  have B1d := B1c.kp k2 hl1
  have B2d := B2c.kp k2 hl2
  have hE2 := hEo.kp k2
  have k02 := k03.trans k2
  clear B1c B2c hEo
  by_cases hvl : validL has = true
  · rw [hvl]
    have HF : Hid (R = ({ b with heard := (giveA b.own (amt has) b.heard (reqL b)).1 }, (giveA b.own (amt has) b.heard (reqL b)).2)) := hid (by rw [hRR.out]; unfold grants; rw [hvl]; rfl)
    obtain ⟨LV, hLm, hLs, hLn⟩ := hR.heard
    obtain ⟨n, hnn⟩ : ∃ n : Nat, b.n.toNat = n := ⟨_, rfl⟩
    rw [hnn] at hLm
    have hn5 : n ≤ 5 := by omega
    have hn1' : 1 ≤ n := by omega
    have hLl : LV.length = n := by have := congrArg List.length hLm; rwa [List.length_map, hdL_len] at this
    have src7 := hLs.here.keep (pl_stable _) (k02.alloc (.cells #[] 29))
    have hE7 := Own.lit (base := w2.heap.size) (e := 29) (size := 6) encAV w2 #[] [] (Nat.le_refl _) (by simp) rfl rfl
    have kE7 := (Kp.refl w2).alloc (.cells #[] 29)
    have B1e := B1d.kp kE7 (B1d.lt (by simp))
    have y9 := B1e.cell (j := 9) rfl
    have r1 := hid (show LV.length ≤ 1000000000 by omega)
    have r2 := hid (show LV.length * 64 ≤ 140737488355328 by omega)
    replace hLl := hid hLl
    replace hnn := hid hnn
    replace hvl := hid hvl
    clear k2
    go_upto_region 5 with (at_builtin; (refine wpl_append_zero rfl (.tmp 20) (.tmp 22) rfl stask encAV_len encAV_one rfl hE7 rfl src7 r1.out r2.out kE7.size ?_; intro v7 w10 own7 k10; have B1f := B1e.kp k10 (B1e.lt (by simp)); have f9 := B1f.free (j := 9) (by simp); have y9f := B1f.cell (j := 9) rfl; obtain ⟨gh, ch, rfl, hch1, hch2, hgh1, hgh2⟩ := own7.row (by rw [hLl.out]; omega)))
    have S1 := B1f.set (j := 9) (by simp) (.slice (some ⟨gh, 0, none⟩) LV.length ch)
    simp only [List.set_cons_zero, List.set_cons_succ] at S1
    have fx11 : Fx (fun q => q = x0) w10 (w10.setCell ⟨x0, 9, none⟩ (.slice (some ⟨gh, 0, none⟩) LV.length ch)) := (Fx.refl _ _).set1 ⟨x0, 9, none⟩ _ (.inl rfl)
    generalize w10.setCell ⟨x0, 9, none⟩ (.slice (some ⟨gh, 0, none⟩) LV.length ch) = w11 at *
    have k210 := kE7.trans k10
    have k0a : Kp w w11 := ((((k02.trans k210).fx _).trans fx11)).kp (fun q hq e => by have e : q = x0 := e; omega)
    have hz02 := k02.size
    have hzo := hE2.blk_lt o0 (by simp [Value.ownBlock])
    have hxg : x0 < gh ∧ tB < gh ∧ o0 < gh := by omega
    have own7 := own7.fx fx11 (fun q hq e => by simp [Value.ownBlock] at hq; omega)
    have hE11 := (hE2.kp k210).fx fx11 (fun q hq e => by simp [Value.ownBlock] at hq; have e : q = x0 := e; omega)
    have B2w := (B2d.kp k210 (B2d.lt (by simp))).fx fx11 (by have := (B2d.kp k210 (B2d.lt (by simp))).lt (by simp); exact this) (fun e => by omega)
    have hgh3 : gh < w11.heap.size := Nat.lt_of_lt_of_le hgh2 fx11.size
    have hz11 : w2.heap.size ≤ w11.heap.size := Nat.le_trans k210.size fx11.size
    rw [hLl.out] at S1 own7
    clear B1d B2d B1e B1f y9 y9f f9 hE7 src7 fx11 kE7 k10 hE2 k210
    obtain ⟨LB, hLB⟩ : ∃ LB : List Value, Hid (LB = (refL b (.slice A (lstO b.own).length c) (.slice (some ⟨gh, 0, none⟩) n ch))) := ⟨_, hid rfl⟩
    have S1' : Bx w11 x0 LB := by rw [hLB.out]; exact S1
    have rL := S1'.range
    have lL : LB.length = 10 := by rw [hLB.out]; rfl
    have iL : (Try.prog.info? 58).map (·.size) = some LB.length := by rw [lL]; kernel_rfl
    have HO := rOrder_any (fun _ => False) b (.slice A (lstO b.own).length c) (.slice (some ⟨gh, 0, none⟩) n ch) w11 ⟨(hR.all.kp k0a).mono (fun q h => h.elim), ⟨LV, by rw [hnn.out]; exact hLm, (own7.owF (fun q h => h.elim)).imp fun _ h => h.sl encAV_len, fun x hx => ((hLn x hx).kp k0a).mono (fun q h => h.elim)⟩, hok.out⟩
    rw [← hLB.out] at HO
    replace HO := hid HO
    go_wp2_with (first | (refine wpList_load_mid rfl 58 (.tmp 2) rfl x0 0 rfl LB _ rL Try.underlying58 rfl iL ?_) | fail)
    refine HO.out.mono ?_
    rintro e w3 ⟨v3, out, rfl, ownO, hOr, k3⟩
    have hOr2 := hid hOr
    have hol : out.length ≤ 5 := by
      have h1 := congrArg List.length (hOr.done hok.out)
      rw [List.length_map] at h1
      have := reqL_len hok.out
      omega
    have hon := hid (fun x (hx : x ∈ out) => show x < n by rw [← hnn.out]; exact ((hOr.mem x).1 hx).1)
    have hrq := hid (hOr.done hok.out)
    clear hOr
    obtain ⟨A2, c2, rfl, -, hc2⟩ := ownO.form
    obtain ⟨m, hm⟩ : ∃ m, m = out.length := ⟨_, rfl⟩
    rw [natI_len, ← hm] at ownO ⊢
    rw [← hm] at hol
    replace hm := hid hm
    have B1g := S1'.kp k3 (S1'.lt (by omega))
    have B2g := B2w.kp k3 (B2w.lt (by simp))
    have hE3 := hE11.kp k3
    have own3 := own7.kp k3
    have k0b := k0a.trans k3
    obtain ⟨X', hXX⟩ : ∃ X' : Nat → Prop, X' = fun q => X q ∨ q = tB := ⟨_, rfl⟩
    have hX' : ∀ q, X' q → q < o0 := fun q hq => by
      rw [hXX] at hq
      rcases hq with hq | hq
      · have := hX q hq
        omega
      · omega
    have hXl : ∀ q, X' q → q < w.heap.size → X q := fun q hq hl => by
      rw [hXX] at hq
      rcases hq with hq | hq
      · exact hq
      · omega
    have hXt : ∀ q, X q ∨ q = tB → X' q := fun q hq => by rw [hXX]; exact hq
    clear hXX
    have HG0 : GvW X' b has w o0 gh n ch m c2 x0 tB w11.heap.size w11.heap.size w2.heap.size A2 out LB 0 has b.heard [] LV (.slice As has.length cs) (.slice (some ⟨o0, 0, none⟩) 0 0) w3 := by
      refine ⟨GvO.start hok.out (validL_has hvl.out), hLm, own3, fun x hx => ?_, ?_, hE3.less (by have := k02.size; omega), by simp [Value.ownBlock]; omega, ownO, fun q hq => ?_, B1g, B2g, k3.size, k0b, Nat.zero_le _⟩
      · have h1 := fun w' (k : Kp w w') => ((hLn x hx).kp k).here
        refine OwF.turn (F := X) (hLn x hx) (k0b.fx X) (fun q hq hl => ?_)
        rcases hq with h | h | h
        · exact hXl q h hl
        · omega
        · simp [Value.ownBlock] at h; omega
      · refine kp_owF (w := w) (fun w' k => HV.out.keep (pl_stable _) k) k0b (fun q hq => ?_)
        rcases hq with h | h | h
        · exact h.elim
        · omega
        · simp [Value.ownBlock] at h; omega
      · have h1 := ownO.ge q hq
        refine ⟨fun e => ?_, fun e => ?_⟩
        · simp [Value.ownBlock] at e; omega
        · omega
    clear rL S1 S1' B2w hE11 own7 hE3 own3 k0a B1g B2g ownO k3 k0b
    go_wp2_with fail
    go_loopw [1, 6, 8] (fun vs' vo i wr => ∃ (k : Nat) (hs : List Nd) (H : Int → Option Ak) (gs : List Gr) (L : List AV), k ≤ m ∧ i = .int .i64 (k : Int) ∧ hs.length ≤ 2048 ∧ OkB { b with heard := H } ∧ GvW X' b has w o0 gh n ch m c2 x0 tB w11.heap.size w11.heap.size w2.heap.size A2 out LB k hs H gs L vs' vo wr) (fun _ _ i _ => m - (intOf i).toNat)
    case atStart => exact ⟨0, _, _, _, _, Nat.zero_le _, rfl, by have := ((validL_iff _).1 hvl.out).2.2; omega, hok.out, HG0⟩
    case round =>
      obtain ⟨k, hs, H, gs, L, hk, rfl, hhl, hokH, G⟩ := hrel
      replace hokH := hid hokH
      obtain ⟨wo, rfl⟩ : ∃ wo : World, wo = wr := ⟨_, rfl⟩
      obtain ⟨Ah, chh, rfl, -, -⟩ := G.hsw.here.form
      obtain ⟨Ao, no, co, rfl⟩ := G.ow.isSl
      have y9 := G.bx.cell (j := 9) (u := .slice (some ⟨gh, 0, none⟩) n ch) (by rw [hLB.out]; rfl)
      by_cases hlt : k < m
      · have hkl : (k : Int) < (m : Int) := by omega
        have hk0 : (0 : Int) ≤ (k : Int) := by omega
        have hko : k < out.length := by rw [← hm.out]; exact hlt
        obtain ⟨r, a, y, g2, o2, rfl, c0, hrn, ha, hpr, hHa, hya, hLy, hna, hva, i0, i1, i2, i3, i4, i5, hnd⟩ := G.pick hok.out hOr2.out hnn.out hko
        have hnl : a.needs.length ≤ 2048 := by have := ((validL_iff _).1 hva).2.2; omega
        have hrnI : (r : Int) < (n : Int) := by omega
        have hr0I : (0 : Int) ≤ (r : Int) := by omega
        replace ha := hid ha
        replace hHa := hid hHa
        replace hya := hid hya
        replace hLy := hid hLy
        replace hna := hid hna
        replace hva := hid hva
        replace hpr := hid hpr
        obtain ⟨Yl, Yn, Yc, hyv⟩ : ∃ Yl Yn Yc, y.v = .slice Yl Yn Yc := ⟨_, _, _, rfl⟩
        rw [hyv] at i5 hnd
        replace hyv := hid hyv
        obtain ⟨⟨p1, p2, p3, p4⟩, hp⟩ : ∃ p : Pr, p = a.pri := ⟨_, rfl⟩
        rw [← hp] at i1 i2 i3 i4
        replace hp := hid hp
        dsimp only at i1 i2 i3 i4
        obtain ⟨num, hnum⟩ : ∃ num, num = a.num := ⟨_, rfl⟩
        rw [← hnum] at i0
        replace hnum := hid hnum
        go_upto_region 9 with (fail)
        refine G2.wp_region_growT Kp [] 9 114 (G2.pvL [G2.eqv (.pointer (some ⟨x0, 9, none⟩)), G2.eqv (.slice (some ⟨gh, 0, none⟩) n ch), G2.eqv (.slice (some ⟨g2, o2, none⟩) m c2), G2.eqv (.int .i64 (k : Int)), G2.eqv (.pointer (some ⟨g2, o2 + k, none⟩)), G2.eqv (.int .i64 (r : Int)), G2.eqv (.pointer (some ⟨gh, r * 6, none⟩)), G2.eqv (.agg #[.int .i64 num, .int .i64 p1, .int .i64 p2, .int .i64 p3, .int .i64 p4, .slice Yl Yn Yc]), (boxA wo.heap.size)]) (by kernel_rfl) (by kernel_rfl) rfl (fun x => Kp.refl x) (fun _ _ _ h k => h.trans k) (Kp.refl _).drew (by intro _ _ _ _ _ h; exact h) (G2.pvL_keep (G2.stabL_cons (G2.stab_eq _) (G2.stabL_cons (G2.stab_eq _) (G2.stabL_cons (G2.stab_eq _) (G2.stabL_cons (G2.stab_eq _) (G2.stabL_cons (G2.stab_eq _) (G2.stabL_cons (G2.stab_eq _) (G2.stabL_cons (G2.stab_eq _) (G2.stabL_cons (G2.stab_eq _) (G2.stabL_cons (stab_boxA _) (G2.stabL_nil))))))))))) (G2.stepsT_cons 0 ?_ (G2.stepsT_cons 1 ?_ (G2.stepsT_cons 2 ?_ (G2.stepsT_cons 3 ?_ (G2.stepsT_cons 4 ?_ (G2.stepsT_cons 5 ?_ (G2.stepsT_cons 6 ?_ (G2.stepsT_cons 7 ?_ (G2.stepsT_cons 8 ?_ (G2.stepsT_nil _ _ _)))))))))) ?_ ?_
        · intro a w' hk hF hD K hK
          have h2 : a.tmps[2]?.getD undef = .pointer (some ⟨x0, 0, none⟩) := hF 2 (by kernel_rfl)
          clear hF hD
          go_simp
          exact hK.out _ _ (Kp.refl _) rfl
        · intro a w' hk hF hD K hK
          have h33 : a.tmps[33]?.getD undef = .pointer (some ⟨x0, 9, none⟩) := hD 0 (by kernel_rfl)
          clear hF hD
          have z0 := hk.cellS y9
          go_simp
          exact hK.out _ _ (Kp.refl _) rfl
        · intro a w' hk hF hD K hK
          have h7 : a.tmps[7]?.getD undef = .slice (some ⟨g2, o2, none⟩) m c2 := hF 7 (by kernel_rfl)
          clear hF hD
          go_simp
          exact hK.out _ _ (Kp.refl _) rfl
        · intro a w' hk hF hD K hK
          have h8 : a.tmps[8]?.getD undef = .int .i64 (k : Int) := hF 8 (by kernel_rfl)
          clear hF hD
          go_simp
          exact hK.out _ _ (Kp.refl _) rfl
        · intro a w' hk hF hD K hK
          have h35 : a.tmps[35]?.getD undef = .slice (some ⟨g2, o2, none⟩) m c2 := hD 2 (by kernel_rfl)
          have h36 : a.tmps[36]?.getD undef = .int .i64 (k : Int) := hD 3 (by kernel_rfl)
          clear hF hD
          go_simp
          exact hK.out _ _ (Kp.refl _) rfl
        · intro a w' hk hF hD K hK
          have h37 : a.tmps[37]?.getD undef = .pointer (some ⟨g2, o2 + k, none⟩) := hD 4 (by kernel_rfl)
          clear hF hD
          have z0 := hk.cellS c0
          go_simp
          exact hK.out _ _ (Kp.refl _) rfl
        · intro a w' hk hF hD K hK
          have h34 : a.tmps[34]?.getD undef = .slice (some ⟨gh, 0, none⟩) n ch := hD 1 (by kernel_rfl)
          have h38 : a.tmps[38]?.getD undef = .int .i64 (r : Int) := hD 5 (by kernel_rfl)
          clear hF hD
          go_simp
          exact hK.out _ _ (Kp.refl _) rfl
        · intro a w' hk hF hD K hK
          have h39 : a.tmps[39]?.getD undef = .pointer (some ⟨gh, r * 6, none⟩) := hD 6 (by kernel_rfl)
          clear hF hD
          have z0 := hk.cellS i0
          have z1 := hk.cellS i1
          have z2 := hk.cellS i2
          have z3 := hk.cellS i3
          have z4 := hk.cellS i4
          have z5 := hk.cellS i5
          go_simp
          exact hK.out _ _ (Kp.refl _) rfl
        · intro a w' hk hF hD K hK
          clear hF hD
          go_simp
          exact hK.out _ _ ((Kp.refl _).alloc _) ⟨_, rfl, hk.size, Bx.new _ [.int .i64 0, .int .i64 0, .int .i64 0, .int .i64 0, .int .i64 0, .slice none 0 0].toArray _⟩
        · exact fun i0 hi0 => by simp at hi0
        intro v w9 k9 hv
        have v8 : (boxA wo.heap.size) (v 8) w9 := hv 8 (by omega)
        have v7 : v 7 = .agg #[.int .i64 num, .int .i64 p1, .int .i64 p2, .int .i64 p3, .int .i64 p4, .slice Yl Yn Yc] := hv 7 (by omega)
        clear hv
        obtain ⟨ab, e8, hab1, hab2⟩ := v8
        simp only [G2.growPut, G2.gSlot, List.getElem?_toArray, List.getElem?_cons_zero, List.getElem?_cons_succ, Option.bind_some, List.setIfInBounds_toArray, List.set_cons_zero, List.set_cons_succ, List.drop_succ_cons, List.drop_zero, v7, e8]
        have hor : Hid (∀ (h : k < (natI out).length), (natI out)[k] = (r : Int)) := hid (fun h => by
          obtain ⟨g', o', e', -, c0'⟩ := int_intCell (G.lst.sl encInt_len) (k := k) h
          injection e' with e'
          injection e' with e1 e2
          subst e1 e2
          rw [c0'] at c0
          injection c0 with c0
          injection c0)
        clear i0 i1 i2 i3 i4 i5 c0 y9
        have z0 := (hab2).cell (j := 0) rfl
        have z1 := (hab2).cell (j := 1) rfl
        have z2 := (hab2).cell (j := 2) rfl
        have z3 := (hab2).cell (j := 3) rfl
        have z4 := (hab2).cell (j := 4) rfl
        have z5 := (hab2).cell (j := 5) rfl
        have f0 := (hab2).free (j := 0) (by simp)
        have f1 := (hab2).free (j := 1) (by simp)
        have f2 := (hab2).free (j := 2) (by simp)
        have f3 := (hab2).free (j := 3) (by simp)
        have f4 := (hab2).free (j := 4) (by simp)
        have f5 := (hab2).free (j := 5) (by simp)
        have SB := hab2.all (cs := [.int .i64 num, .int .i64 p1, .int .i64 p2, .int .i64 p3, .int .i64 p4, .slice Yl Yn Yc]) rfl
        have kS : Kp wo (w9.setCells ab 0 [.int .i64 num, .int .i64 p1, .int .i64 p2, .int .i64 p3, .int .i64 p4, .slice Yl Yn Yc]) := Kp.setCells hab1 _ 0 _ k9
        have hlab := hab2.lt (by simp)
        go_upto_region 10 with (fail)
        change Code.wp _ _ _ _ (w9.setCells ab 0 [.int .i64 num, .int .i64 p1, .int .i64 p2, .int .i64 p3, .int .i64 p4, .slice Yl Yn Yc])
        generalize w9.setCells ab 0 [.int .i64 num, .int .i64 p1, .int .i64 p2, .int .i64 p3, .int .i64 p4, .slice Yl Yn Yc] = wA at *
        clear z0 z1 z2 z3 z4 z5 f0 f1 f2 f3 f4 f5 hab2 hlab k9
        have hE10 := Own.lit (base := wA.heap.size) (e := 41) (size := 4) encNd wA #[] [] (Nat.le_refl _) (by simp) rfl rfl
        have kE10 := (Kp.refl wA).alloc (.cells #[] 41)
        have src10 := hnd _ ((kS.trans kE10).fx _)
        have BAe := SB.kp kE10 (SB.lt (by simp))
        have a5 := BAe.cell (j := 5) rfl
        have r3 := hid (show a.needs.length ≤ 1000000000 by omega)
        have r4 := hid (show a.needs.length * 32 ≤ 140737488355328 by omega)
        go_upto_region 11 with (at_builtin; (refine wpl_append_zero rfl (.tmp 41) (.tmp 43) rfl slnd encNd_len encNd_one rfl hE10 rfl src10 r3.out r4.out kE10.size ?_; intro v10 wB own10 kB; obtain ⟨An, cn, rfl, _, _⟩ := own10.form))
        have k9B := kS.trans (kE10.trans kB)
        have hBs := k9B.size
        have hAs2 := kS.size
        have hGs := G.sz
        have habA := SB.lt (by simp)
        have GM0 : GvM X' w o0 gh n ch m c2 x0 tB ab w11.heap.size w2.heap.size wA.heap.size cn (some ⟨g2, o2, none⟩) An out LB L a.needs num p1 p2 p3 p4 hs a.needs gs Yl Yn Yc (.slice Ah hs.length chh) (.slice Ao no co) wB := by
          refine ⟨(SB.kp kE10 habA).kp kB (BAe.lt (by simp)), hnd.turn (k9B.fx _) (fun q hq hl => ?_), G.hsw.turn (k9B.fx _) (fun q hq hl => ?_), fun x hx => (G.nds x hx).turn (k9B.fx _) (fun q hq hl => ?_), G.row.kp k9B, G.ow.kp k9B, ⟨G.ne, fun e => ?_⟩, G.lst.kp k9B, fun q hq => ⟨(G.ap q hq).1, (G.ap q hq).2, ?_⟩, own10, fun q hq => ⟨fun e => ?_, ?_, ?_⟩,
            G.bx.kp k9B (G.bx.lt (by omega)), G.bt.kp k9B (G.bt.lt (by simp)), ⟨by omega, by omega, by have := kE10.size; have := kB.size; omega, by omega, by omega, by omega⟩, ⟨by omega, by omega⟩, G.kp.trans k9B⟩
          · rcases hq with (h | h) | h | h
            · exact .inl h
            · omega
            · exact .inr (.inl h)
            · exact .inr (.inr h)
          · rcases hq with h | h | h
            · omega
            · exact .inr (.inl h)
            · exact .inr (.inr h)
          · rcases hq with (h | h) | h | h
            · exact .inl h
            · omega
            · exact .inr (.inl h)
            · exact .inr (.inr h)
          · have := G.ow.blk_lt _ e
            omega
          · have := G.lst.blk_lt _ hq
            omega
          · have h1 := own10.ge q hq
            have h2 := G.ow.blk_lt _ e
            omega
          · have h1 := own10.ge q hq
            omega
          · have h1 := own10.ge q hq
            omega
        have GI0 := GvI.start (kp := fun x => keeps b.own x a.pri) (tg := a.pri.2.2.1) (needs := a.needs) G.gv.ok
        have hlen0 := hid G.len
        have hzB := hid (show w11.heap.size ≤ wB.heap.size by omega)
        have hgv := hid G.gv
        have hmp := hid G.mp
        clear a5 BAe hE10 src10 kE10 SB kS own10 kB k9B hBs hAs2 hGs habA hnd
        go_wp2_with fail
        go_loopw [1, 6, 11] (fun vs' vo' kk wi => ∃ (j : Nat) (hs' cur : List Nd) (g2s : List Gr) (uA : Option Addr) (un uc : Nat), j ≤ a.needs.length ∧ kk = .int .i64 (j : Int) ∧ g2s.length ≤ j ∧ hs'.length ≤ 2048 ∧ cur.length ≤ 2048 ∧ (∀ z ∈ cur, 1 ≤ z.2 ∧ z.2 ≤ 1000000) ∧ GvI (fun x => keeps b.own x a.pri) a.pri.2.2.1 a.needs (amt hs) j hs' cur g2s ∧ GvM X' w o0 gh n ch m c2 x0 tB ab w11.heap.size w2.heap.size wA.heap.size cn (some ⟨g2, o2, none⟩) An out LB L a.needs num p1 p2 p3 p4 hs' cur (gs ++ g2s) uA un uc vs' vo' wi ∧ wB.heap.size ≤ wi.heap.size) (fun _ _ kk _ => a.needs.length - (intOf kk).toNat)
        case atStart => exact ⟨0, hs, a.needs, [], Yl, Yn, Yc, Nat.zero_le _, rfl, Nat.zero_le _, hhl, hnl, fun z hz => okNd_amt (((validL_iff _).1 hva.out).1 z hz), GI0, by rw [List.append_nil]; exact GM0, Nat.le_refl _⟩
        case round =>
          clear GM0 GI0
          obtain ⟨j, hs', cur, g2s, uA, un, uc, hj, rfl, hgl, hhl', hcl', hcb', GI, GM, hzi⟩ := hrel
          obtain ⟨wi, rfl⟩ : ∃ wi' : World, wi' = wr := ⟨_, rfl⟩
          obtain ⟨Ai, chi, rfl, -, -⟩ := GM.hw.here.form
          obtain ⟨Ap, np, cp, rfl⟩ := GM.ow.isSl
          by_cases hjl : j < a.needs.length
          · have hjlI : (j : Int) < (a.needs.length : Int) := by omega
            have hj0 : (0 : Int) ≤ (j : Int) := by omega
            obtain ⟨gn, on, rfl, hgn, d0, d1, d2, d3⟩ := (GM.nw.sl encNd_len).nd hjl
            obtain ⟨yy, hyy⟩ : ∃ yy, yy = a.needs[j] := ⟨_, rfl⟩
            rw [← hyy] at d0 d1 d2 d3
            have hyb : 1 ≤ yy.2 ∧ yy.2 ≤ 1000000 := by
              have h1 := ((validL_iff _).1 hva.out).1 yy (by rw [hyy]; exact List.getElem_mem _)
              exact okNd_amt h1
            replace hyy := hid hyy
            obtain ⟨⟨y1, y2, y3⟩, y4⟩ := yy
            dsimp only at d0 d1 d2 d3 hyb
            have kx := (Kp.refl wi).alloc (.cells #[.int .i64 y1, .int .i64 y2, .int .i64 y3] 39)
            have BX := Bx.new wi #[.int .i64 y1, .int .i64 y2, .int .i64 y3] 39
            have GM1 := GM.kp' kx
            have hGM := hid GM
            clear GM
            go_upto_region 15 with (fail)
            obtain ⟨xb, hxb⟩ : ∃ xb, xb = wi.heap.size := ⟨_, rfl⟩
            rw [← hxb] at BX ⊢
            have hxi : wi.heap.size ≤ xb := by omega
            have hxab : ab < xb := by have := hGM.out.sz.2.2.1; omega
            replace hxb := hid hxb
            generalize wi.alloc (.cells #[.int .i64 y1, .int .i64 y2, .int .i64 y3] 39) = wi1 at *
            try simp only [List.toList_toArray] at BX
            have hxl := BX.lt (by simp)
            have X0 := BX.cell (j := 0) rfl
            have X1 := BX.cell (j := 1) rfl
            have X2 := BX.cell (j := 2) rfl
            go_wp2_with fail
            refine (rAmount_any (y1, y2, y3) hs' _ wi1 GM1.hw.here).mono ?_
            rintro e w4 ⟨rfl, k4⟩
            have hav := GI.ok.amt (y1, y2, y3)
            obtain ⟨av, hAV⟩ : ∃ av, av = amt hs' (y1, y2, y3) := ⟨_, rfl⟩
            rw [← hAV] at hav ⊢
            replace hAV := hid hAV
            have GM2 := GM1.kp' k4
            have BX2 := BX.kp k4 hxl
            have kx4 := kx.trans k4
            clear X0 X1 X2 BX hxl GM1
            obtain ⟨bt, hbt⟩ : ∃ bt : Bool, bt = (match b.own with | none => false | some q => lessB q.1 (p1, p2, p3, p4)) := ⟨_, rfl⟩
            have hkv : Hid (keeps b.own (y1, y2, y3) a.pri = if bt = true then amt (lstO b.own) (y1, y2, y3) else 0) := hid (by rw [keeps_bt, ← hp.out, ← hbt])
            replace hbt := hid hbt
            have q1 := GM2.ba.cell (j := 1) rfl
            have q2 := GM2.ba.cell (j := 2) rfl
            have q3 := GM2.ba.cell (j := 3) rfl
            have q4 := GM2.ba.cell (j := 4) rfl
            have l3 := GM2.bx.cell (j := 3) (u := .bool b.own.isSome) (by rw [hLB.out]; rfl)
            have l4 := GM2.bx.cell (j := 4) (u := .int .i64 (priO b.own).1) (by rw [hLB.out]; rfl)
            have l5 := GM2.bx.cell (j := 5) (u := .int .i64 (priO b.own).2.1) (by rw [hLB.out]; rfl)
            have l6 := GM2.bx.cell (j := 6) (u := .int .i64 (priO b.own).2.2.1) (by rw [hLB.out]; rfl)
            have l7 := GM2.bx.cell (j := 7) (u := .int .i64 (priO b.own).2.2.2) (by rw [hLB.out]; rfl)
            go_upto_region 16 with (fail)
            go_cut [67] from 59 to 67 (fun s67 wx => ∃ W, W = wx ∧ s67 = .bool bt ∧ Kp w4 W)
            case first =>
              obtain ⟨⟨v1, v2, v3, v4⟩, hpo⟩ : ∃ v : Pr, v = priO b.own := ⟨_, rfl⟩
              rw [← hpo] at l4 l5 l6 l7
              dsimp only at l4 l5 l6 l7
              cases hio : b.own.isSome with
              | false =>
                rw [hio] at l3
                have hbf : bt = false := by
                  rw [hbt.out]
                  cases ho : b.own with
                  | none => rfl
                  | some q => rw [ho] at hio; cases hio
                replace hbf := hid hbf.symm
                replace hpo := hid hpo
                replace hio := hid hio
                go_wp2
                go_meet
                case rel => exact ⟨_, rfl, by rw [hbf.out], Kp.refl _⟩
              | true =>
                rw [hio] at l3
                have hbf : lessB (v1, v2, v3, v4) (p1, p2, p3, p4) = bt := by
                  rw [hbt.out, hpo]
                  cases ho : b.own with
                  | none => rw [ho] at hio; cases hio
                  | some q => rfl
                replace hbf := hid hbf
                replace hpo := hid hpo
                replace hio := hid hio
                go_wp2_with fail
                refine (rLess_any (v1, v2, v3, v4) (p1, p2, p3, p4) w4).mono ?_
                rintro e w5 ⟨rfl, k5⟩
                rw [hbf.out]
                go_wp2
                go_meet
                case rel => exact ⟨_, rfl, rfl, k5⟩
            case rest =>
              obtain ⟨w5, rfl, rfl, k5⟩ := hcut
              have GM3 := GM2.kp' k5
              have BX3 := BX2.kp k5 (BX2.lt (by simp))
              have kx5 := kx4.trans k5
              clear q1 q2 q3 q4 l3 l4 l5 l6 l7 GM2 BX2
              have X0 := BX3.cell (j := 0) rfl
              have X1 := BX3.cell (j := 1) rfl
              have X2 := BX3.cell (j := 2) rfl
              have l8 := GM3.bx.cell (j := 8) (u := .slice A (lstO b.own).length c) (by rw [hLB.out]; rfl)
              go_upto_if 67 with (fail)
              go_cut [13] from 68 to 73 (fun s13 wx => ∃ W, W = wx ∧ s13 = .int .i64 (av - keeps b.own (y1, y2, y3) a.pri) ∧ Kp w5 W)
              case first =>
                have hal : 0 ≤ amt (lstO b.own) (y1, y2, y3) ∧ amt (lstO b.own) (y1, y2, y3) ≤ 1000000 := by
                  cases ho : b.own with
                  | none => exact ⟨Int.le_refl _, by show (0 : Int) ≤ 1000000; decide⟩
                  | some q =>
                    obtain ⟨q, lq⟩ := q
                    exact (validL_has (hok.out.own q lq ho).2).amt _
                have HAL := hid (rAmount_any (y1, y2, y3) (lstO b.own) _ w5 (hR.all.here.keep (pl_stable _) GM3.kp))
                obtain ⟨al, hAL⟩ : ∃ al, al = amt (lstO b.own) (y1, y2, y3) := ⟨_, rfl⟩
                rw [← hAL] at hal hkv HAL
                replace hAL := hid hAL
                cases bt with
                | true =>
                  have hd : Hid (keeps b.own (y1, y2, y3) a.pri = al) := hid (by rw [hkv.out, if_pos rfl])
                  go_wp2_with fail
                  refine HAL.out.mono ?_
                  rintro e w6 ⟨rfl, k6⟩
                  go_wp2
                  go_meet
                  case rel => exact ⟨_, rfl, by rw [hd.out], k6⟩
                | false =>
                  have hd : Hid (keeps b.own (y1, y2, y3) a.pri = 0) := hid (by rw [hkv.out]; rfl)
                  go_wp2
                  go_meet
                  case rel => exact ⟨_, rfl, by rw [hd.out, Int.sub_zero], Kp.refl _⟩
              case rest =>
                obtain ⟨w6, rfl, rfl, k6⟩ := hcut
                have hkb : 0 ≤ keeps b.own (y1, y2, y3) a.pri ∧ keeps b.own (y1, y2, y3) a.pri ≤ 1000000 := by
                  rw [hkv.out]
                  split
                  · cases ho : b.own with
                    | none => exact ⟨Int.le_refl _, by show (0 : Int) ≤ 1000000; decide⟩
                    | some q =>
                      obtain ⟨q, lq⟩ := q
                      exact (validL_has (hok.out.own q lq ho).2).amt _
                  · exact ⟨Int.le_refl _, by decide⟩
                obtain ⟨D, hD⟩ : ∃ D, D = av - keeps b.own (y1, y2, y3) a.pri := ⟨_, rfl⟩
                rw [← hD]
                obtain ⟨M, hM⟩ : ∃ M, min D y4 = M := ⟨_, rfl⟩
                have hMr := hid hM
                have hMb : M ≤ 1000000 ∧ -1000000 ≤ M := by omega
                have hkb2 := hid hkb
                have hDr := hid hD
                clear hkb hD
                have GM4 := GM3.kp' k6
                have BX4 := BX3.kp k6 (BX3.lt (by simp))
                have kx6 := kx5.trans k6
                clear X0 X1 X2 l8 GM3 BX3
                have e3 := kx6.cellS d3
                have HMn : Hid (min (amt hs' (a.needs[j]).1 - keeps b.own (a.needs[j]).1 a.pri) (a.needs[j]).2 = M) := hid (by rw [← hyy.out]; show min (amt hs' (y1, y2, y3) - keeps b.own (y1, y2, y3) a.pri) y4 = M; rw [← hAV.out, ← hDr.out]; exact hMr.out)
                have hpos := hid (show posN a.needs from fun z hz => (okNd_amt (((validL_iff _).1 hva.out).1 z hz)).1)
                have hz6 := hid (show wB.heap.size ≤ w6.heap.size from Nat.le_trans hzi kx6.size)
                have hGI := hid GI
                have hcb := hid hcb'
                clear d0 d1 d2 d3 GI hcb'
                go_upto_region 19 with (fail)
                clear hM e3
                by_cases hMp : 0 < M
                · have hMd : decide (0 < M) = true := decide_eq_true hMp
                  have e6 := hor.out
                  obtain ⟨g', o', e', -, c0⟩ := int_intCell (GM4.lst.sl encInt_len) (k := k) (by rw [natI_len]; exact hko)
                  rw [hor.out] at c0
                  injection e' with e'
                  injection e' with e1 e2
                  subst e1 e2
                  have X0 := BX4.cell (j := 0) rfl
                  have X1 := BX4.cell (j := 1) rfl
                  have X2 := BX4.cell (j := 2) rfl
                  have hG4 := hid GM4
                  clear GM4 e6
                  go_upto_region 20 with (fail)
                  refine G2.wp_region_growT Kp [] 10 114 (G2.pvL [G2.eqv (.slice Ap np cp), G2.eqv (.slice (some ⟨g2, o2, none⟩) m c2), G2.eqv (.int .i64 (k : Int)), G2.eqv (.pointer (some ⟨g2, o2 + k, none⟩)), G2.eqv (.int .i64 (r : Int)), G2.eqv (.agg #[.int .i64 y1, .int .i64 y2, .int .i64 y3]), G2.eqv (.int .i64 M), G2.eqv (.agg #[.int .i64 y1, .int .i64 y2, .int .i64 y3, .int .i64 M]), G2.eqv (.agg #[.int .i64 (r : Int), .int .i64 y1, .int .i64 y2, .int .i64 y3, .int .i64 M]), (oneGr ((r : Int), (y1, y2, y3), M))]) (by kernel_rfl) (by kernel_rfl) rfl (fun x => Kp.refl x) (fun _ _ _ h k => h.trans k) (Kp.refl _).drew (by intro _ _ _ _ _ h; exact h) (G2.pvL_keep (G2.stabL_cons (G2.stab_eq _) (G2.stabL_cons (G2.stab_eq _) (G2.stabL_cons (G2.stab_eq _) (G2.stabL_cons (G2.stab_eq _) (G2.stabL_cons (G2.stab_eq _) (G2.stabL_cons (G2.stab_eq _) (G2.stabL_cons (G2.stab_eq _) (G2.stabL_cons (G2.stab_eq _) (G2.stabL_cons (G2.stab_eq _) (G2.stabL_cons (stab_oneGr _) (G2.stabL_nil)))))))))))) (G2.stepsT_cons 0 ?_ (G2.stepsT_cons 1 ?_ (G2.stepsT_cons 2 ?_ (G2.stepsT_cons 3 ?_ (G2.stepsT_cons 4 ?_ (G2.stepsT_cons 5 ?_ (G2.stepsT_cons 6 ?_ (G2.stepsT_cons 7 ?_ (G2.stepsT_cons 8 ?_ (G2.stepsT_cons 9 ?_ (G2.stepsT_nil _ _ _))))))))))) ?_ ?_
                  · intro a w' hk hF hD K hK
                    have h6 : a.tmps[6]?.getD undef = .slice Ap np cp := hF 6 (by kernel_rfl)
                    clear hF hD
                    go_simp
                    exact hK.out _ _ (Kp.refl _) rfl
                  · intro a w' hk hF hD K hK
                    have h7 : a.tmps[7]?.getD undef = .slice (some ⟨g2, o2, none⟩) m c2 := hF 7 (by kernel_rfl)
                    clear hF hD
                    go_simp
                    exact hK.out _ _ (Kp.refl _) rfl
                  · intro a w' hk hF hD K hK
                    have h8 : a.tmps[8]?.getD undef = .int .i64 (k : Int) := hF 8 (by kernel_rfl)
                    clear hF hD
                    go_simp
                    exact hK.out _ _ (Kp.refl _) rfl
                  · intro a w' hk hF hD K hK
                    have h84 : a.tmps[84]?.getD undef = .slice (some ⟨g2, o2, none⟩) m c2 := hD 1 (by kernel_rfl)
                    have h85 : a.tmps[85]?.getD undef = .int .i64 (k : Int) := hD 2 (by kernel_rfl)
                    clear hF hD
                    go_simp
                    exact hK.out _ _ (Kp.refl _) rfl
                  · intro a w' hk hF hD K hK
                    have h86 : a.tmps[86]?.getD undef = .pointer (some ⟨g2, o2 + k, none⟩) := hD 3 (by kernel_rfl)
                    clear hF hD
                    have z0 := hk.cellS c0
                    go_simp
                    exact hK.out _ _ (Kp.refl _) rfl
                  · intro a w' hk hF hD K hK
                    have h12 : a.tmps[12]?.getD undef = .pointer (some ⟨xb, 0, none⟩) := hF 12 (by kernel_rfl)
                    clear hF hD
                    have z0 := hk.cellS X0
                    have z1 := hk.cellS X1
                    have z2 := hk.cellS X2
                    go_simp
                    exact hK.out _ _ (Kp.refl _) rfl
                  · intro a w' hk hF hD K hK
                    have h13 : a.tmps[13]?.getD undef = .int .i64 M := hF 13 (by kernel_rfl)
                    clear hF hD
                    go_simp
                    exact hK.out _ _ (Kp.refl _) rfl
                  · intro a w' hk hF hD K hK
                    have h88 : a.tmps[88]?.getD undef = .agg #[.int .i64 y1, .int .i64 y2, .int .i64 y3] := hD 5 (by kernel_rfl)
                    have h89 : a.tmps[89]?.getD undef = .int .i64 M := hD 6 (by kernel_rfl)
                    clear hF hD
                    go_simp
                    exact hK.out _ _ (Kp.refl _) rfl
                  · intro a w' hk hF hD K hK
                    have h87 : a.tmps[87]?.getD undef = .int .i64 (r : Int) := hD 4 (by kernel_rfl)
                    have h90 : a.tmps[90]?.getD undef = .agg #[.int .i64 y1, .int .i64 y2, .int .i64 y3, .int .i64 M] := hD 7 (by kernel_rfl)
                    clear hF hD
                    go_simp
                    exact hK.out _ _ (Kp.refl _) rfl
                  · intro a w' hk hF hD K hK
                    have h91 : a.tmps[91]?.getD undef = .agg #[.int .i64 (r : Int), .int .i64 y1, .int .i64 y2, .int .i64 y3, .int .i64 M] := hD 8 (by kernel_rfl)
                    clear hF hD
                    go_simp
                    exact hK.out _ _ ((Kp.refl _).alloc _) ⟨_, rfl, Sl.one (R := Pl encGr) w' [.int .i64 (r : Int), .int .i64 y1, .int .i64 y2, .int .i64 y3, .int .i64 M] 46 5 _ rfl rfl⟩
                  · exact fun i0 hi0 => by simp at hi0
                  intro v w9 k9 hv
                  have v0 : v 0 = .slice Ap np cp := hv 0 (by omega)
                  have v9 : (oneGr ((r : Int), (y1, y2, y3), M)) (v 9) w9 := hv 9 (by omega)
                  clear hv
                  obtain ⟨p9, e9, hs9⟩ := v9
                  simp only [G2.growPut, G2.gSlot, List.getElem?_toArray, List.getElem?_cons_zero, List.getElem?_cons_succ, Option.bind_some, List.setIfInBounds_toArray, List.set_cons_zero, List.set_cons_succ, List.drop_succ_cons, List.drop_zero, v0, e9]
                  have hG5 := hG4.out.kp' k9
                  have BX5 := BX4.kp k9 (BX4.lt (by simp))
                  have kx9 := kx6.trans k9
                  have hw0 : w.heap.size ≤ o0 := by omega
                  have rg1 : (gs ++ g2s).length + 1 ≤ 4611686018427387904 := by rw [List.length_append]; have := hlen0.out; omega
                  have rg2 : ((gs ++ g2s).length + 1) * 40 ≤ 140737488355328 := by rw [List.length_append]; have := hlen0.out; omega
                  have hxo := hid (show ∀ q, (Value.slice Ap np cp).ownBlock = some q → q < wi.heap.size from hGM.out.ow.blk_lt)
                  replace rg1 := hid rg1
                  replace rg2 := hid rg2
                  have hG5o := hid hG5.ow
                  have hG5s := hG5.sz.1
                  have hG5h := hid hG5
                  have hMM := hid hMp
                  have hbl5 := BX5.lt (by simp)
                  clear hMd X0 X1 X2 c0 hG5 BX4
                  go_upto_region 21 with (at_builtin; (refine wpl_append_flat rfl (.tmp 83) (.tmp 92) rfl stgr encGr_len encGr_one rfl hG5o.out rfl hs9 rg1.out rg2.out hG5s ?_; intro v12 w12 own12 hg12 hat12 hnil12; have hg12 : World.grownBy w9 w12 (Value.slice Ap np cp).ownBlock := hg12; have hat12 : v12.ownBlock = (Value.slice Ap np cp).ownBlock ∨ v12.ownBlock = some w9.heap.size := hat12; have hG6 := hid (hG5h.out.app own12 hg12 hat12 hw0); have BX6 := BX5.keep (hg12.block xb hbl5 (fun e => by have h9 := hxo.out xb e.symm; omega)); have hz12 := hg12.size; clear hnil12 hat12 hg12; obtain ⟨Aq, nq, cq, rfl⟩ := own12.isSl; clear own12))
                  have X0 := BX6.cell (j := 0) rfl
                  have X1 := BX6.cell (j := 1) rfl
                  have X2 := BX6.cell (j := 2) rfl
                  have a5 := hG6.out.ba.cell (j := 5) rfl
                  have hs6 := hid hG6.out.sz
                  have hq6 := hid hG6.out.ow.blk_lt
                  have hcw := hid (fun W (h : Kp w12 W) => (hG6.out.cw.kp h).here)
                  have hhw := hid (fun W (h : Kp w12 W) => (hG6.out.hw.kp h).here)
                  have hMr1 := hid (show 0 < M ∧ M ≤ 1000000 from ⟨hMM.out, hMb.1⟩)
                  have hhb := hid (show ∀ z ∈ hs', 1 ≤ z.2 ∧ z.2 ≤ 1000000 from fun z hz => ⟨hGI.out.ok.pos z hz, hGI.out.ok.le z hz⟩)
                  refine G2.wp_region_growT Kp [] 9 114 (G2.pvL [G2.eqv (.slice Ai hs'.length chi), G2.eqv (.agg #[.int .i64 y1, .int .i64 y2, .int .i64 y3]), G2.eqv (.int .i64 M), (G2.retOwn encNd 41 4 w12.heap.size (woN hs' (y1, y2, y3) M)), G2.eqv (.pointer (some ⟨ab, 5, none⟩)), G2.eqv (.slice uA un uc), G2.eqv (.agg #[.int .i64 y1, .int .i64 y2, .int .i64 y3]), G2.eqv (.int .i64 M), (G2.retOwn encNd 41 4 w12.heap.size (woN cur (y1, y2, y3) M))]) (by kernel_rfl) (by kernel_rfl) rfl (fun x => Kp.refl x) (fun _ _ _ h k => h.trans k) (Kp.refl _).drew (by intro _ _ _ _ _ h; exact h) (G2.pvL_keep (G2.stabL_cons (G2.stab_eq _) (G2.stabL_cons (G2.stab_eq _) (G2.stabL_cons (G2.stab_eq _) (G2.stabL_cons (G2.stab_own _ _ _ _ _) (G2.stabL_cons (G2.stab_eq _) (G2.stabL_cons (G2.stab_eq _) (G2.stabL_cons (G2.stab_eq _) (G2.stabL_cons (G2.stab_eq _) (G2.stabL_cons (G2.stab_own _ _ _ _ _) (G2.stabL_nil))))))))))) (G2.stepsT_cons 0 ?_ (G2.stepsT_cons 1 ?_ (G2.stepsT_cons 2 ?_ (G2.stepsT_cons 3 ?_ (G2.stepsT_cons 4 ?_ (G2.stepsT_cons 5 ?_ (G2.stepsT_cons 6 ?_ (G2.stepsT_cons 7 ?_ (G2.stepsT_cons 8 ?_ (G2.stepsT_nil _ _ _)))))))))) ?_ ?_
                  · intro a w' hk hF hD K hK
                    have h1 : a.tmps[1]?.getD undef = .slice Ai hs'.length chi := hF 1 (by kernel_rfl)
                    clear hF hD
                    go_simp
                    exact hK.out _ _ (Kp.refl _) rfl
                  · intro a w' hk hF hD K hK
                    have h12 : a.tmps[12]?.getD undef = .pointer (some ⟨xb, 0, none⟩) := hF 12 (by kernel_rfl)
                    clear hF hD
                    have z0 := hk.cellS X0
                    have z1 := hk.cellS X1
                    have z2 := hk.cellS X2
                    go_simp
                    exact hK.out _ _ (Kp.refl _) rfl
                  · intro a w' hk hF hD K hK
                    have h13 : a.tmps[13]?.getD undef = .int .i64 M := hF 13 (by kernel_rfl)
                    clear hF hD
                    go_simp
                    exact hK.out _ _ (Kp.refl _) rfl
                  · intro a w' hk hF hD K hK
                    have h94 : a.tmps[94]?.getD undef = .slice Ai hs'.length chi := hD 0 (by kernel_rfl)
                    have h95 : a.tmps[95]?.getD undef = .agg #[.int .i64 y1, .int .i64 y2, .int .i64 y3] := hD 1 (by kernel_rfl)
                    have h96 : a.tmps[96]?.getD undef = .int .i64 M := hD 2 (by kernel_rfl)
                    clear hF hD
                    go_simp
                    refine (rWithout_any (y1, y2, y3) M hs' _ _ (hhw.out _ hk) hhl' hhb.out hMr1.out).mono ?_
                    rintro e w9 ⟨v9, rfl, own9, hk9⟩
                    exact hK.out _ _ hk9 (own9.less hk.size)
                  · intro a w' hk hF hD K hK
                    have h9 : a.tmps[9]?.getD undef = .pointer (some ⟨ab, 0, none⟩) := hF 9 (by kernel_rfl)
                    clear hF hD
                    go_simp
                    exact hK.out _ _ (Kp.refl _) rfl
                  · intro a w' hk hF hD K hK
                    have h98 : a.tmps[98]?.getD undef = .pointer (some ⟨ab, 5, none⟩) := hD 4 (by kernel_rfl)
                    clear hF hD
                    have z0 := hk.cellS a5
                    go_simp
                    exact hK.out _ _ (Kp.refl _) rfl
                  · intro a w' hk hF hD K hK
                    have h12 : a.tmps[12]?.getD undef = .pointer (some ⟨xb, 0, none⟩) := hF 12 (by kernel_rfl)
                    clear hF hD
                    have z0 := hk.cellS X0
                    have z1 := hk.cellS X1
                    have z2 := hk.cellS X2
                    go_simp
                    exact hK.out _ _ (Kp.refl _) rfl
                  · intro a w' hk hF hD K hK
                    have h13 : a.tmps[13]?.getD undef = .int .i64 M := hF 13 (by kernel_rfl)
                    clear hF hD
                    go_simp
                    exact hK.out _ _ (Kp.refl _) rfl
                  · intro a w' hk hF hD K hK
                    have h99 : a.tmps[99]?.getD undef = .slice uA un uc := hD 5 (by kernel_rfl)
                    have h100 : a.tmps[100]?.getD undef = .agg #[.int .i64 y1, .int .i64 y2, .int .i64 y3] := hD 6 (by kernel_rfl)
                    have h101 : a.tmps[101]?.getD undef = .int .i64 M := hD 7 (by kernel_rfl)
                    clear hF hD
                    go_simp
                    refine (rWithout_any (y1, y2, y3) M cur _ _ (hcw.out _ hk) hcl' hcb.out hMr1.out).mono ?_
                    rintro e w9 ⟨v9, rfl, own9, hk9⟩
                    exact hK.out _ _ hk9 (own9.less hk.size)
                  · exact fun i0 hi0 => by simp at hi0
                  intro v w9 k9 hv
                  have v3 : (G2.retOwn encNd 41 4 w12.heap.size (woN hs' (y1, y2, y3) M)) (v 3) w9 := hv 3 (by omega)
                  have v8 : (G2.retOwn encNd 41 4 w12.heap.size (woN cur (y1, y2, y3) M)) (v 8) w9 := hv 8 (by omega)
                  clear hv
                  obtain ⟨Aw, cw, ew, -, -⟩ := Own.form v3
                  obtain ⟨Au, cu, eu, -, -⟩ := Own.form v8
                  simp only [G2.growPut, G2.gSlot, List.getElem?_toArray, List.getElem?_cons_zero, List.getElem?_cons_succ, Option.bind_some, List.setIfInBounds_toArray, List.set_cons_zero, List.set_cons_succ, List.drop_succ_cons, List.drop_zero, ew, eu]
                  have hG7 := hG6.out.kp' k9
                  have hh : OwF (FG (fun q => q = ab) gh (.slice Aq nq cq)) w9 fun w' => Nds w' (.slice Aw (woN hs' (y1, y2, y3) M).length cw) (woN hs' (y1, y2, y3) M) := by
                    rw [ew] at v3
                    refine (Own.owF v3 (fun q hq => ?_)).imp fun _ h => h.sl encNd_len
                    have h8 := hs6.out
                    rcases hq with h | h | h
                    · omega
                    · omega
                    · exact hq6.out q h
                  have hc : OwF (FG (fun q => X' q ∨ q = ab) gh (.slice Aq nq cq)) w9 fun w' => Nds w' (.slice Au (woN cur (y1, y2, y3) M).length cu) (woN cur (y1, y2, y3) M) := by
                    rw [eu] at v8
                    refine (Own.owF v8 (fun q hq => ?_)).imp fun _ h => h.sl encNd_len
                    have h8 := hs6.out
                    rcases hq with (h | h) | h | h
                    · have := hX' q h
                      omega
                    · omega
                    · omega
                    · exact hq6.out q h
                  have hG8 := hid ((hG7.has' hh).cur' hc hw0)
                  have HI := hid (hGI.out.give hjl hpos.out (((validL_iff _).1 hva.out).2.1) (by rw [← hyy.out]; exact hkb2.out.1) HMn.out hMM.out)
                  rw [← hyy.out, hpr.out] at HI
                  have hfa5 := hG7.ba.free (j := 5) (by simp)
                  have hya5 := hG7.ba.cell (j := 5) rfl
                  have hz9 := hid (show wB.heap.size ≤ (w9.setCell ⟨ab, 5, none⟩ (.slice Au (woN cur (y1, y2, y3) M).length cu)).heap.size by rw [set_size]; exact Nat.le_trans (Nat.le_trans (Nat.le_trans hzi (Nat.le_trans kx9.size hz12)) k9.size) (Nat.le_refl _))
                  have hl1' := hid (show (woN hs' (y1, y2, y3) M).length ≤ 2048 from Nat.le_trans (woN_len _ _ _) hhl')
                  have hl2' := hid (show (woN cur (y1, y2, y3) M).length ≤ 2048 from Nat.le_trans (woN_len _ _ _) hcl')
                  have hl3' := hid (show ∀ z ∈ woN cur (y1, y2, y3) M, 1 ≤ z.2 ∧ z.2 ≤ 1000000 from fun z hz => ⟨woN_pos cur z hz, woN_le hMM.out (fun z hz => (hcb.out z hz).2) z hz⟩)
                  have hbl9 := hG7.ba.lt (by simp)
                  clear X0 X1 X2 a5 hcw hhw hhb v3 v8 hh hc hG7
                  obtain ⟨l1, el1⟩ : ∃ l1, l1 = (woN hs' (y1, y2, y3) M).length := ⟨_, rfl⟩
                  obtain ⟨l2, el2⟩ : ∃ l2, l2 = (woN cur (y1, y2, y3) M).length := ⟨_, rfl⟩
                  rw [← el1] at hG8 hl1' ⊢
                  rw [← el2] at hG8 hl2' hz9 ⊢
                  replace el1 := hid el1
                  replace el2 := hid el2
                  go_wp2_with fail
                  go_roundw
                  case rel => exact ⟨j + 1, woN hs' (y1, y2, y3) M, woN cur (y1, y2, y3) M, g2s ++ [((r : Int), (y1, y2, y3), M)], Au, l2, cu, hjl, by go_num, by rw [List.length_append]; exact Nat.succ_le_succ hgl, by rw [← el1.out]; exact hl1'.out, by rw [← el2.out]; exact hl2'.out, hl3'.out, by rw [hpr.out]; exact HI.out, by rw [← List.append_assoc]; exact hG8.out, hz9.out⟩
                  case measure => exact br_meas hjl
                · have hMd : decide (0 < M) = false := decide_eq_false hMp
                  have HI := hid (hGI.out.keep hjl hpos.out (by rw [HMn.out]; omega))
                  go_wp2_with fail
                  go_roundw
                  case rel => exact ⟨j + 1, hs', cur, g2s, uA, un, uc, hjl, by go_num, Nat.le_succ_of_le hgl, hhl', hcl', hcb.out, HI.out, GM4, hz6.out⟩
                  case measure => exact br_meas hjl
          · have hjlI : ¬ (j : Int) < (a.needs.length : Int) := by omega
            obtain rfl : j = a.needs.length := by omega
            have hGI := hid GI
            have y9 := GM.bx.cell (j := 9) (u := .slice (some ⟨gh, 0, none⟩) n ch) (by rw [hLB.out]; rfl)
            obtain ⟨g', o', e', -, c0⟩ := int_intCell (GM.lst.sl encInt_len) (k := k) (by rw [natI_len]; exact hko)
            rw [hor.out] at c0
            injection e' with e'
            injection e' with e1 e2
            subst e1 e2
            have q0 := GM.ba.cell (j := 0) rfl
            have q1 := GM.ba.cell (j := 1) rfl
            have q2 := GM.ba.cell (j := 2) rfl
            have q3 := GM.ba.cell (j := 3) rfl
            have q4 := GM.ba.cell (j := 4) rfl
            have q5 := GM.ba.cell (j := 5) rfl
            have hGM := hid GM
            clear GI GM
            go_upto_region 22 with (fail)
            refine G2.wp_region_growT Kp [] 7 114 (G2.pvL [G2.eqv (.pointer (some ⟨x0, 9, none⟩)), G2.eqv (.slice (some ⟨gh, 0, none⟩) n ch), G2.eqv (.slice (some ⟨g2, o2, none⟩) m c2), G2.eqv (.int .i64 (k : Int)), G2.eqv (.pointer (some ⟨g2, o2 + k, none⟩)), G2.eqv (.int .i64 (r : Int)), G2.eqv (.agg #[.int .i64 num, .int .i64 p1, .int .i64 p2, .int .i64 p3, .int .i64 p4, .slice uA un uc])]) (by kernel_rfl) (by kernel_rfl) rfl (fun x => Kp.refl x) (fun _ _ _ h k => h.trans k) (Kp.refl _).drew (by intro _ _ _ _ _ h; exact h) (G2.pvL_keep (G2.stabL_cons (G2.stab_eq _) (G2.stabL_cons (G2.stab_eq _) (G2.stabL_cons (G2.stab_eq _) (G2.stabL_cons (G2.stab_eq _) (G2.stabL_cons (G2.stab_eq _) (G2.stabL_cons (G2.stab_eq _) (G2.stabL_cons (G2.stab_eq _) (G2.stabL_nil))))))))) (G2.stepsT_cons 0 ?_ (G2.stepsT_cons 1 ?_ (G2.stepsT_cons 2 ?_ (G2.stepsT_cons 3 ?_ (G2.stepsT_cons 4 ?_ (G2.stepsT_cons 5 ?_ (G2.stepsT_cons 6 ?_ (G2.stepsT_nil _ _ _)))))))) ?_ ?_
            · intro a w' hk hF hD K hK
              have h2 : a.tmps[2]?.getD undef = .pointer (some ⟨x0, 0, none⟩) := hF 2 (by kernel_rfl)
              clear hF hD
              go_simp
              exact hK.out _ _ (Kp.refl _) rfl
            · intro a w' hk hF hD K hK
              have h104 : a.tmps[104]?.getD undef = .pointer (some ⟨x0, 9, none⟩) := hD 0 (by kernel_rfl)
              clear hF hD
              have z0 := hk.cellS y9
              go_simp
              exact hK.out _ _ (Kp.refl _) rfl
            · intro a w' hk hF hD K hK
              have h7 : a.tmps[7]?.getD undef = .slice (some ⟨g2, o2, none⟩) m c2 := hF 7 (by kernel_rfl)
              clear hF hD
              go_simp
              exact hK.out _ _ (Kp.refl _) rfl
            · intro a w' hk hF hD K hK
              have h8 : a.tmps[8]?.getD undef = .int .i64 (k : Int) := hF 8 (by kernel_rfl)
              clear hF hD
              go_simp
              exact hK.out _ _ (Kp.refl _) rfl
            · intro a w' hk hF hD K hK
              have h106 : a.tmps[106]?.getD undef = .slice (some ⟨g2, o2, none⟩) m c2 := hD 2 (by kernel_rfl)
              have h107 : a.tmps[107]?.getD undef = .int .i64 (k : Int) := hD 3 (by kernel_rfl)
              clear hF hD
              go_simp
              exact hK.out _ _ (Kp.refl _) rfl
            · intro a w' hk hF hD K hK
              have h108 : a.tmps[108]?.getD undef = .pointer (some ⟨g2, o2 + k, none⟩) := hD 4 (by kernel_rfl)
              clear hF hD
              have z0 := hk.cellS c0
              go_simp
              exact hK.out _ _ (Kp.refl _) rfl
            · intro a w' hk hF hD K hK
              have h9 : a.tmps[9]?.getD undef = .pointer (some ⟨ab, 0, none⟩) := hF 9 (by kernel_rfl)
              clear hF hD
              have z0 := hk.cellS q0
              have z1 := hk.cellS q1
              have z2 := hk.cellS q2
              have z3 := hk.cellS q3
              have z4 := hk.cellS q4
              have z5 := hk.cellS q5
              go_simp
              exact hK.out _ _ (Kp.refl _) rfl
            · exact fun i0 hi0 => by simp at hi0
            intro v w9 k9 hv
            have v1 : v 1 = .slice (some ⟨gh, 0, none⟩) n ch := hv 1 (by omega)
            have v5 : v 5 = .int .i64 (r : Int) := hv 5 (by omega)
            have v6 : v 6 = .agg #[.int .i64 num, .int .i64 p1, .int .i64 p2, .int .i64 p3, .int .i64 p4, .slice uA un uc] := hv 6 (by omega)
            clear hv
            simp only [G2.growPut, G2.gSlot, List.getElem?_toArray, List.getElem?_cons_zero, List.getElem?_cons_succ, Option.bind_some, List.setIfInBounds_toArray, List.set_cons_zero, List.set_cons_succ, List.drop_succ_cons, List.drop_zero, v1, v5, v6]
            have hG7 := hGM.out.kp' k9
            clear y9 c0 q0 q1 q2 q3 q4 q5
            obtain ⟨y', hy'⟩ : ∃ y' : AV, y' = ⟨{ a with needs := cur }, uA, un, uc⟩ := ⟨_, rfl⟩
            have hye : (#[.int .i64 num, .int .i64 p1, .int .i64 p2, .int .i64 p3, .int .i64 p4, .slice uA un uc] : Array Value) = (encAV y').toArray := by
              rw [hy']
              unfold encAV askL
              dsimp only
              rw [← hp.out, ← hnum.out]
            have hLn' : L.length = n := by have := congrArg List.length hmp.out; rwa [List.length_map, hdL_len] at this
            have hrL : r < L.length := by omega
            have hth := hG7.row.thereRow encAV_len hLn'.symm hrL
            have own9 := hG7.row.setRow encAV_len hLn'.symm hrL y'
            have fx15 : Fx (fun q => q = gh) w9 (w9.setCells gh (r * 6) (encAV y')) := (Kg.setCells (.inl rfl) _ _ (Kg.refl w9 gh)).fx (.inl rfl)
            have hG7h := hid hG7
            replace hye := hid hye
            clear hG7
            go_wp2_with (first | (refine wpList_store_mid rfl 29 (.tmp 111) (.tmp 110) rfl gh (r * 6) (encAV y').toArray rfl (congrArg Value.agg hye.out) (by simpa [encAV_len] using hth) (by kernel_rfl) (all_oneCell_toArray (encAV_one y')) ?_; rw [List.toList_toArray]; generalize w9.setCells gh (r * 6) (encAV y') = w15 at *) | fail)
            go_roundw
            case rel =>
              have hk9z := k9.size
              exact ⟨k + 1, hs', setH H (r : Int) { a with needs := cur }, gs ++ g2s, L.set r y', hlt, by go_num, hhl', okB_step hok.out hokH.out ha.out hpr.out hGI.out, hG7h.out.back fx15 own9 hy' hgv.out hmp.out hok.out ha.out hpr.out hrn hGI.out (by have := hzB.out; omega) (by omega) (by have := hlen0.out; omega)⟩
            case measure => exact br_meas hlt
      · have hkl : ¬ (k : Int) < (m : Int) := by omega
        obtain rfl : k = m := by omega
        have hrl : (reqL b).length = k := by rw [← hrq.out, List.length_map, ← hm.out]
        have hgd := G.gv
        rw [← hrl] at hgd
        have HF2 : Hid (R = ({ b with heard := H }, gs)) := hid (by rw [hRR.out]; exact hgd.done hvl.out)
        obtain ⟨L2, hL2⟩ : ∃ L2 : List Value, Hid (L2 = LB) := ⟨_, hid rfl⟩
        have hG := hid G
        have B1x := G.bx
        have B2x := G.bt
        rw [← hL2.out] at B1x
        have rL := B1x.range
        have lL2 : L2.length = 10 := by rw [hL2.out]; exact lL
        have iL2 : (Try.prog.info? 58).map (·.size) = some L2.length := by rw [lL2]; kernel_rfl
        have oL : ∀ u ∈ L2, u.oneCell' = true := by rw [hL2.out, hLB.out]; simp [Value.oneCell']
        have tL : wo.there tB 0 L2.toArray.size := by simpa [lL2] using B2x.thereAt 0 10 (by simp)
        have iL3 : (Try.prog.info? 58).map (·.size) = some L2.toArray.size := by simpa using iL2
        have E1 := B2x.all (cs := L2) (by rw [lL2]; rfl)
        have fxE : Fx (fun q => q = tB) wo (wo.setCells tB 0 L2) := (Kg.setCells (.inl rfl) _ _ (Kg.refl wo tB)).fx (.inl rfl)
        have kE : Kp w (wo.setCells tB 0 L2) := Kp.setCells (by omega) _ 0 _ G.kp
        clear G hgd
        go_wp2_with (first | (refine wpList_load_mid rfl 58 (.tmp 2) rfl x0 0 rfl L2 _ rL Try.underlying58 rfl iL2 ?_) | (refine wpList_store_mid rfl 58 (.tmp 4) (.tmp 112) rfl tB 0 L2.toArray rfl rfl tL iL3 (all_oneCell_toArray oL) ?_; rw [List.toList_toArray]; generalize wo.setCells tB 0 L2 = w1 at *) | fail)
        try simp only [Exit.inBlock, Exit.then]
        refine bodyPost_ret (results_cell_bx2 rfl _ _ tB L2 _ rfl E1.range Try.underlying58 rfl iL2) rfl ?_
        rw [HF2.out]
        refine ⟨kE, .slice (some ⟨gh, 0, none⟩) n ch, .slice Ao no co, by rw [hL2.out, hLB.out]; rfl, ?_, ?_⟩
        · exact ((hG.out.ow.fx fxE (fun q hq e => by have h9 := hG.out.ow.ge q hq; have e : q = tB := e; omega)).owF (fun q hq => by have := hX q hq; omega)).imp fun _ h => h.sl encGr_len
        · have hrow := hG.out.row.fx fxE (fun q hq e => by simp [Value.ownBlock] at hq; have e : q = tB := e; omega)
          refine ⟨hR.all.kp kE, ⟨L, by rw [hnn.out]; exact hG.out.mp, (hrow.owF (fun q hq => by have := hX q hq; omega)).imp fun _ h => h.sl encAV_len, fun x hx => ?_⟩, hokH.out⟩
          have h1 := (hG.out.nds x hx).mono (F' := X') (fun q hq => .inl hq)
          exact (h1.fx (fxE.mono fun q _ hq => hXt q (.inr hq))).mono (fun q hq => hXt q (.inl hq))
  · replace hvl := eq_false_of_ne_true hvl
    rw [hvl]
    have HF : Hid (R = (b, [])) := hid (by rw [hRR.out]; unfold grants; rw [hvl]; rfl)
    obtain ⟨L, hL⟩ : ∃ L : List Value, Hid (L = (refL b (.slice A (lstO b.own).length c) (.slice A' b.n.toNat c'))) := ⟨_, hid rfl⟩
    rw [← hL.out] at B1d
    have rL := B1d.range
    have lL : L.length = 10 := by rw [hL.out]; rfl
    have iL : (Try.prog.info? 58).map (·.size) = some L.length := by rw [lL]; kernel_rfl
    have oL : ∀ u ∈ L, u.oneCell' = true := by rw [hL.out]; simp [Value.oneCell']
    have tL : w2.there tB 0 L.toArray.size := by simpa [lL] using B2d.thereAt 0 10 (by simp)
    have iL2 : (Try.prog.info? 58).map (·.size) = some L.toArray.size := by simpa using iL
    have E1 := B2d.all (cs := L) (by rw [lL]; rfl)
    have kE : Kp w (w2.setCells tB 0 L) := Kp.setCells (by omega) _ 0 _ k02
    go_wp2_with (first | (refine wpList_load_mid rfl 58 (.tmp 2) rfl x0 0 rfl L _ rL Try.underlying58 rfl iL ?_) | (refine wpList_store_mid rfl 58 (.tmp 4) (.tmp 18) rfl tB 0 L.toArray rfl rfl tL iL2 (all_oneCell_toArray oL) ?_; rw [List.toList_toArray]; generalize w2.setCells tB 0 L = w1 at *) | fail)
    try simp only [Exit.inBlock, Exit.then]
    refine bodyPost_ret (results_cell_bx2 rfl _ _ tB L _ rfl E1.range Try.underlying58 rfl iL) rfl ?_
    rw [HF.out]
    refine ⟨kE, .slice A' b.n.toNat c', .slice (some ⟨o0, 0, none⟩) 0 0, by rw [hL.out]; rfl, ?_, hR.kp kE⟩
    exact fun w2 _ => ⟨_, 0, rfl, Nat.le_refl _, by omega, fun k hk => absurd hk (by simp)⟩
end Go.Proofs.Ytbcekihjcgnhkaa
