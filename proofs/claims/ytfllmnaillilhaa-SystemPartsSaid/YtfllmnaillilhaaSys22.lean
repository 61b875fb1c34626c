
/-
A copied system whose rows are changed one by one: what is known of it.
-/
import Derived.Test.YtfllmnaillilhaaSys21
namespace Go.Proofs.Ytfllmnaillilhaa
set_option linter.unusedSimpArgs false
set_option linter.unusedVariables false
open Go.RowKit

def tg (j : Nat) : Nat := if j = 0 then 2 else 4 + j
/-- the rows and the cases of a system as one list of lists -/
structure SubI (B : Nat) (τ : Nat → Nat) (w : World) (vb vg vc : Value) (VV : List Value) (box : List Rng) (graphs : List Gr) (LL : List (List Row)) : Prop where
  tags : Tags B w τ
  box : Own encRng 59 2 0 w vb box
  boxT : ∀ q, vb.ownBlock = some q → τ q = 1
  gr : OwS (fun q => τ q = 3) w fun w' => GrsL w' vg graphs
  ca : ∃ vs : List (Elm 1), Own encC 23 1 0 w vc vs ∧ (∀ q, vc.ownBlock = some q → τ q = 4) ∧ vs.length + 1 = VV.length ∧ ∀ j (h1 : j < vs.length) (h2 : j + 1 < VV.length), vs[j].val = [VV[j + 1]]
  len : VV.length = LL.length
  els : ∀ j (h1 : j < VV.length) (h2 : j < LL.length), ∃ css, NL rdRow 30 2 (fun q => τ q = tg j) w VV[j] css LL[j]
def val1 (e : Elm 1) : Value := e.val.headD undef
theorem val1_eq (e : Elm 1) : e.val = [val1 e] := by
  obtain ⟨cs, hl, ho⟩ := e
  match cs, hl with
  | [v], _ => rfl
theorem Own.set' {α : Type} {enc : α → List Value} {e size base g n c k j : Nat} {w : World} {u : Value} {l : List α} {x : α} (he : ∀ x, (enc x).length = size) (h : Own enc e size base w (.slice (some ⟨g, 0, none⟩) n c) l) (hn : n = l.length) (hk : k < l.length) (hj : j < size)
    (hx : ∀ hk : k < l.length, (enc l[k]).set j u = enc x) : Own enc e size base (w.setCell ⟨g, k * size + j, none⟩ u) (.slice (some ⟨g, 0, none⟩) n c) (l.set k x) := by
  subst hn
  exact Own.set he h hk hj hx
theorem SubI.of {B : Nat} {τ : Nat → Nat} {w : World} {vb vr vg vc : Value} {s : Sys} (ht : Tags B w τ) (h : SysO τ w vb vr vg vc s) : ∃ VV, VV.length = s.cases.length + 1 ∧ VV[0]? = some vr ∧ SubI B τ w vb vg vc VV s.box s.graphs (s.rows :: s.cases) := by
  obtain ⟨css, hr⟩ := h.rows
  obtain ⟨vs, o4, l4, t4, n4⟩ := h.cases
  refine ⟨vr :: vs.map val1, by simp [l4], rfl, ht, h.box, h.boxT, h.graphs, ⟨vs, o4, t4, by simp, fun j h1 h2 => ?_⟩, by simp [l4], fun j h1 h2 => ?_⟩
  · rw [List.getElem_cons_succ, List.getElem_map]
    exact val1_eq _
  · cases j with
    | zero => exact ⟨css, hr⟩
    | succ j =>
      simp only [List.getElem_cons_succ, List.getElem_map]
      have hj : j < vs.length := by simpa using h1
      obtain ⟨v, c, e, hn⟩ := n4 j hj (by simpa using h2)
      have e2 : val1 vs[j] = v := by unfold val1; rw [e]; rfl
      rw [e2]
      refine ⟨c, hn.mono fun q hq => ?_⟩
      show τ q = tg (j + 1)
      unfold tg
      rw [if_neg (by omega), hq]
      omega
theorem SubI.sysv {B : Nat} {τ : Nat → Nat} {w : World} {vb vg vc vr : Value} {VV : List Value} {box : List Rng} {graphs : List Gr} {L0 : List Row} {LL : List (List Row)} (h : SubI B τ w vb vg vc VV box graphs (L0 :: LL)) (hr : VV[0]? = some vr) : SysV w (.agg #[vb, vr, vg, vc]) ⟨box, L0, graphs, LL⟩ := by
  have hlen := h.len
  have h1 := h.box.sl encRng_len
  have h3 := h.gr.here
  obtain ⟨vs, o4, -, l4, n4⟩ := h.ca
  have h0 : 0 < VV.length := by rw [hlen]; simp
  obtain ⟨css, hn⟩ := h.els 0 h0 (by simp)
  have e0 : VV[0] = vr := by
    rw [List.getElem?_eq_getElem h0] at hr
    exact Option.some.inj hr
  rw [e0] at hn
  have h2 : RowsL w vr L0 := hn.sl
  have h7 : CasesL w vc LL := sl_of (o4.sl encC_len) (by simp at hlen; omega) fun k k1 k2 => by
    obtain ⟨c, hk⟩ := h.els (k + 1) (by omega) (by simp; omega)
    exact ⟨VV[k + 1], n4 k k1 (by omega), hk.sl⟩
  obtain ⟨A1, c1, rfl, -, -⟩ := h1.form
  obtain ⟨A2, c2, rfl, -, -⟩ := h2.form
  obtain ⟨A3, c3, rfl, -, -⟩ := h3.form
  obtain ⟨A4, c4, rfl, -, -⟩ := h7.form
  exact ⟨A1, c1, A2, c2, A3, c3, A4, c4, rfl, h1, h2, h3, h7⟩
section
variable {B : Nat} {τ : Nat → Nat} {w w1 w2 : World} {vb vg vc : Value} {VV : List Value} {box : List Rng} {graphs : List Gr} {LL : List (List Row)}
/-- memory is added: it gets the tag t -/
theorem SubI.next (h : SubI B τ w vb vg vc VV box graphs LL) (hk : Kp w w1) (t : Nat) (hB : B ≤ w.heap.size) : SubI B (tagN τ w.heap.size t w1.heap.size) w1 vb vg vc VV box graphs LL := by
  have keep : ∀ q u, u ≠ 0 → τ q = u → tagN τ w.heap.size t w1.heap.size q = u := fun q u hu hq => tagN_old h.tags t _ hu hq
  obtain ⟨vs, o4, t4, l4, n4⟩ := h.ca
  refine ⟨h.tags.ext t hk.size hB, h.box.kp hk, fun q hq => keep q 1 (by omega) (h.boxT q hq), (h.gr.kp hk).mono fun q hq => keep q 3 (by omega) hq, ⟨vs, o4.kp hk, fun q hq => keep q 4 (by omega) (t4 q hq), l4, n4⟩, h.len, fun j h1 h2 => ?_⟩
  obtain ⟨css, hn⟩ := h.els j h1 h2
  exact ⟨css, (hn.kp hk).mono fun q hq => keep q (tg j) (by unfold tg; split <;> omega) hq⟩
theorem tg_inj {i j : Nat} (h : tg i = tg j) : i = j := by
  unfold tg at h
  split at h <;> split at h <;> omega
theorem tg_ne {j : Nat} : tg j ≠ 0 ∧ tg j ≠ 1 ∧ tg j ≠ 3 ∧ tg j ≠ 4 := by
  unfold tg
  split <;> omega
/-- a block without a tag, or of no part, may change -/
theorem SubI.kg {g : Nat} (h : SubI B τ w vb vg vc VV box graphs LL) (hk : Kg w w1 g) (hg : τ g = 0) : SubI B τ w1 vb vg vc VV box graphs LL := by
  obtain ⟨vs, o4, t4, l4, n4⟩ := h.ca
  refine ⟨h.tags.grow hk.size, h.box.owS _ hk.size fun q hq hlt => hk.block q hlt (fun e => by have := h.boxT q hq; rw [Option.some.inj e, hg] at this; omega), h.boxT, h.gr.kg hk (fun e => by rw [hg] at e; omega), ⟨vs, o4.owS _ hk.size fun q hq hlt => hk.block q hlt (fun e => by have := t4 q hq; rw [Option.some.inj e, hg] at this; omega), t4, l4, n4⟩, h.len, fun j h1 h2 => ?_⟩
  obtain ⟨css, hn⟩ := h.els j h1 h2
  exact ⟨css, hn.kg hk (fun e => tg_ne.1 (by rw [← e, hg]))⟩
/-- the cells of the box's ranges may change -/
theorem SubI.setBox {g n c k : Nat} {lo hi : Int} (h : SubI B τ w (.slice (some ⟨g, 0, none⟩) n c) vg vc VV box graphs LL) (hn : n = box.length) (hk : k < box.length) :
    SubI B τ ((w.setCell ⟨g, k * 2, none⟩ (.int .i64 lo)).setCell ⟨g, k * 2 + 1, none⟩ (.int .i64 hi)) (.slice (some ⟨g, 0, none⟩) n c) vg vc VV (box.set k ⟨lo, hi⟩) graphs LL := by
  have hg := h.boxT g rfl
  have hkg : Kg w ((w.setCell ⟨g, k * 2, none⟩ (.int .i64 lo)).setCell ⟨g, k * 2 + 1, none⟩ (.int .i64 hi)) g := ((Kg.refl w g).set (p := ⟨g, k * 2, none⟩) (.inl rfl) _).set (p := ⟨g, k * 2 + 1, none⟩) (.inl rfl) _
  obtain ⟨vs, o4, t4, l4, n4⟩ := h.ca
  subst hn
  have b1 := h.box.set' (k := k) (j := 0) (u := .int .i64 lo) (x := ⟨lo, box[k].hi⟩) encRng_len rfl hk (by omega) (fun _ => rfl)
  have b2 := b1.set' (k := k) (j := 1) (u := .int .i64 hi) (x := ⟨lo, hi⟩) encRng_len (by simp) (by simpa using hk) (by omega) (fun _ => by simp [encRng])
  rw [List.set_set, Nat.add_zero] at b2
  refine ⟨h.tags.grow hkg.size, b2, h.boxT, h.gr.kg hkg (fun e => by omega), ⟨vs, o4.owS _ hkg.size fun q hq hlt => hkg.block q hlt (fun e => by have := t4 q hq; rw [Option.some.inj e] at this; omega), t4, l4, n4⟩, h.len, fun j h1 h2 => ?_⟩
  obtain ⟨css, hn⟩ := h.els j h1 h2
  exact ⟨css, hn.kg hkg (fun e => tg_ne.2.1 (by rw [← e, hg]))⟩
/-- a row is stored -/
theorem SubI.put {g n c j i : Nat} {vx : Value} {ts : List Term} {bd : Int} (h : SubI B τ w vb vg vc VV box graphs LL) (hB : B ≤ w.heap.size) (hj : j < LL.length) (hi : i < LL[j].length) (hv : VV[j]? = some (.slice (some ⟨g, 0, none⟩) n c)) (hn : n = LL[j].length)
    (k1 : Kp w w1) (ox : Own encTerm 49 2 w.heap.size w1 vx ts) (k2 : Kp w1 w2) :
    SubI B (tagN τ w.heap.size (tg j) w2.heap.size) ((w2.setCell ⟨g, i * 2, none⟩ vx).setCell ⟨g, i * 2 + 1, none⟩ (.int .i64 bd)) vb vg vc VV box graphs (LL.set j (LL[j].set i ⟨ts, bd⟩)) ∧ Kg w2 ((w2.setCell ⟨g, i * 2, none⟩ vx).setCell ⟨g, i * 2 + 1, none⟩ (.int .i64 bd)) g ∧ τ g = tg j ∧ g < w.heap.size := by
  have hlen := h.len
  have hjv : j < VV.length := by omega
  have hvj : VV[j] = .slice (some ⟨g, 0, none⟩) n c := by
    rw [List.getElem?_eq_getElem hjv] at hv
    exact Option.some.inj hv
  obtain ⟨css0, hN0⟩ := h.els j hjv hj
  rw [hvj] at hN0
  have hg0 : τ g = tg j := hN0.blk g rfl
  have hglt := (h.tags g (by rw [hg0]; exact tg_ne.1)).2
  have H := h.next (k1.trans k2) (tg j) hB
  have hgn : tagN τ w.heap.size (tg j) w2.heap.size g = tg j := tagN_old h.tags _ _ tg_ne.1 hg0
  have hkg : Kg w2 ((w2.setCell ⟨g, i * 2, none⟩ vx).setCell ⟨g, i * 2 + 1, none⟩ (.int .i64 bd)) g := ((Kg.refl w2 g).set (p := ⟨g, i * 2, none⟩) (.inl rfl) _).set (p := ⟨g, i * 2 + 1, none⟩) (.inl rfl) _
  obtain ⟨vs, o4, t4, l4, n4⟩ := H.ca
  have hone : vx.oneCell' = true := by
    obtain ⟨A, c', rfl, -, -⟩ := ox.form
    rfl
  refine ⟨⟨H.tags.grow hkg.size, H.box.owS _ hkg.size fun q hq hlt => hkg.block q hlt (fun e => by have := H.boxT q hq; rw [Option.some.inj e, hgn] at this; exact tg_ne.2.1 this), H.boxT, H.gr.kg hkg (fun e => tg_ne.2.2.1 (by rw [← hgn]; exact e)),
    ⟨vs, o4.owS _ hkg.size fun q hq hlt => hkg.block q hlt (fun e => by have := t4 q hq; rw [Option.some.inj e, hgn] at this; exact tg_ne.2.2.2 this), t4, l4, n4⟩, by rw [List.length_set]; exact H.len, fun m h1 h2 => ?_⟩, hkg, hg0, hglt⟩
  rw [List.length_set] at h2
  obtain ⟨css, hN⟩ := H.els m h1 h2
  by_cases hm : j = m
  · subst hm
    rw [List.getElem_set_self]
    rw [hvj] at hN ⊢
    have hcl := hN.len
    have o1 := hN.own.setE (k := i) (j := 0) (u := vx) (by omega) (by omega) (by omega) hone
    rw [Nat.add_zero] at o1
    have o2 := o1.setE (k := i) (j := 1) (u := .int .i64 bd) (by simp; omega) (by simp; omega) (by omega) rfl
    simp only [List.getElem_set_self, List.set_set] at o2
    refine ⟨_, hN.put (k := i) rfl o2 hkg (fun q => w.heap.size ≤ q ∧ q < w1.heap.size) (fun q hq => ⟨tagN_new hq.1 (Nat.lt_of_lt_of_le hq.2 k2.size), fun e => by
      have e' : g = q := Option.some.inj e
      omega, Nat.lt_of_lt_of_le (Nat.lt_of_lt_of_le hq.2 k2.size) hkg.size⟩) ?_⟩
    have oS := (ox.owS.mono (T := fun q => w.heap.size ≤ q ∧ q < w1.heap.size) (fun q hq => ⟨ox.ge q hq, ox.blk_lt q hq⟩)).kp k2
    refine (oS.kg hkg (fun e => by omega)).imp fun w' ho => ⟨vx, ?_, ho.sl encTerm_len⟩
    show ((css[i]'(by omega)).val.set 0 vx).set 1 (.int .i64 bd) = [vx, .int .i64 bd]
    obtain ⟨T, hT, hoT⟩ := hN.els i (by omega) (by omega)
    obtain ⟨v', hcs, -⟩ := hoT.here
    rw [hcs]
    rfl
  · rw [List.getElem_set_ne hm]
    exact ⟨css, hN.kg hkg (fun e => hm (tg_inj (by rw [← hgn]; exact e)))⟩
end
end Go.Proofs.Ytfllmnaillilhaa
