
/-
Brokers side by side in memory, and the rows of the law.
-/
import Derived.Test.YtbcekihjcgnhkaaBkFp
import Derived.Test.YtbcekihjcgnhkaaGrowD
namespace Go.Proofs.Ytbcekihjcgnhkaa
set_option linter.unusedSimpArgs false
set_option linter.unusedVariables false
open Go.RowKit

def encB (x : Nat × Nat) : List Value := [.pointer (some ⟨x.1, 0, none⟩)]
theorem encB_len (x : Nat × Nat) : (encB x).length = 1 := rfl
theorem encB_one (x : Nat × Nat) : ∀ u ∈ encB x, u.oneCell' = true := by simp [encB, Value.oneCell']
theorem stB : SliceT Try.prog 48 32 1 8 := SliceT.mk' Try.underlying48 (z := .pointer none) (by kernel_rfl) rfl (by omega)
theorem stI : SliceT Try.prog 50 3 1 8 := SliceT.mk' Try.underlying50 (z := .int .i64 0) (by kernel_rfl) rfl (by omega)
theorem Fx.cellF {X : Nat → Prop} {w w' : World} (h : Fx X w w') {p : Addr} {v : Value} (hp : w.cell? p = some v) (hx : ¬ X p.block) : w'.cell? p = some v := (World.cell?_of_block (h.block p.block (block_lt_of_cell hp) hx)).trans hp
theorem own_bptr {base : Nat} {w : World} {A : Option Addr} {n c : Nat} {l : List (Nat × Nat)} (h : Own encB 32 1 base w (.slice A n c) l) {k : Nat} (hk : k < l.length) :
    ∃ g, A = some ⟨g, 0, none⟩ ∧ g < w.heap.size ∧ w.cell? ⟨g, k, none⟩ = some (.pointer (some ⟨l[k].1, 0, none⟩)) := by
  obtain ⟨g, rfl, h1, h2⟩ := h.at_ (by omega)
  obtain ⟨A', c', e, -, -⟩ := h.form
  injection e with e1 e2 e3
  have h3 := h.cellAt encB_len e2 hk (j := 0) (by omega)
  exact ⟨g, rfl, h2, by simpa [encB] using h3⟩
structure FB (w wr : World) (S : Nat → Prop) (Bs : List (Nat × Nat)) (ss : List Bk) (aks : List AV) : Prop where
  len : ss.length = Bs.length
  br : ∀ k (h1 : k < Bs.length) (h2 : k < ss.length), BrW S wr Bs[k].1 Bs[k].2 ss[k]
  apart : Bs.Pairwise fun x y => x.1 ≠ y.1 ∧ x.1 ≠ y.2 ∧ x.2 ≠ y.1 ∧ x.2 ≠ y.2
  lo : ∀ x ∈ Bs, w.heap.size ≤ x.1 ∧ w.heap.size ≤ x.2
  hi : ∀ x ∈ Bs, x.1 < wr.heap.size ∧ x.2 < wr.heap.size
  nds : ∀ x ∈ aks, Sx S wr x.v x.a.needs
  new : ∀ q, wr.heap.size ≤ q → S q
  kp : Kp w wr
def Rw (vb vh va : Value) (q : Nat) : Prop := vb.ownBlock = some q ∨ vh.ownBlock = some q ∨ va.ownBlock = some q
structure FR (w wr : World) (S : Nat → Prop) (vb vh va : Value) (Bs : List (Nat × Nat)) (hs : List Int) (aks : List AV) : Prop where
  ob : Own encB 32 1 w.heap.size wr vb Bs
  oh : Own encInt 3 1 w.heap.size wr vh hs
  oa : Own encAV 29 6 w.heap.size wr va aks
  nr : ∀ q, Rw vb vh va q → ¬ S q ∧ ∀ x ∈ Bs, q ≠ x.1 ∧ q ≠ x.2
/-- what may change beside the brokers -/
def Off (w wr : World) (S : Nat → Prop) (Bs : List (Nat × Nat)) (X : Nat → Prop) : Prop := ∀ q, X q → q < wr.heap.size → ¬ S q ∧ (∀ x ∈ Bs, q ≠ x.1 ∧ q ≠ x.2) ∧ w.heap.size ≤ q
def Snext (wr w' : World) (S : Nat → Prop) (q : Nat) : Prop := (q < wr.heap.size ∧ S q) ∨ w'.heap.size ≤ q
section
variable {w wr w' : World} {S X : Nat → Prop} {vb vh va : Value} {Bs : List (Nat × Nat)} {ss : List Bk} {hs : List Int} {aks : List AV}
theorem FB.off_kp {k : Nat} (h : FB w wr S Bs ss aks) (fx : Fx X wr w') (hX : Off w wr S Bs X) : Kp w w' := ((h.kp.fx X).trans (fx.mono fun q hq hx => hx)).kp fun q hq hx => by
  have := (hX q hx (Nat.lt_of_lt_of_le hq h.kp.size)).2.2
  omega
theorem FB.fwd (h : FB w wr S Bs ss aks) (fx : Fx X wr w') (hX : Off w wr S Bs X) : FB w w' (Snext wr w' S) Bs ss aks := by
  refine ⟨h.len, fun k h1 h2 => ?_, h.apart, h.lo, fun x hx => ?_, fun x hx => ?_, fun q hq => .inr hq, h.off_kp (k := 0) fx hX⟩
  · have hb := h.br k h1 h2
    have hm := h.hi _ (List.getElem_mem h1)
    have hz := fx.size
    refine ((hb.to (T := fun q => q < wr.heap.size ∧ S q) (fun q hlt hs => ⟨hlt, hs⟩) (fun e => hb.sb e.2) (fun e => hb.sm e.2)).step fx.size (fun q hq hlt => fx.block q hlt fun hx => (hX q hx hlt).1 hq.2) (fx.block _ hm.1 fun hx => ((hX _ hx hm.1).2.1 _ (List.getElem_mem h1)).1 rfl) (fx.block _ hm.2 fun hx => ((hX _ hx hm.2).2.1 _ (List.getElem_mem h1)).2 rfl)).to (fun q _ hq => .inl hq) (fun e => ?_) (fun e => ?_)
    · rcases e with e | e
      · exact hb.sb e.2
      · omega
    · rcases e with e | e
      · exact hb.sm e.2
      · omega
  · have := h.hi x hx
    have := fx.size
    omega
  · exact OwS.mono (((h.nds x hx).to (T := fun q => q < wr.heap.size ∧ S q) (fun q hlt hs => ⟨hlt, hs⟩)).step fx.size (fun q hq hlt => fx.block q hlt fun hx => (hX q hx hlt).1 hq.2)) fun q hq => .inl hq
/-- the same blocks -/
theorem FB.same (h : FB w wr S Bs ss aks) (fx : Fx X wr w') (hX : Off w wr S Bs X) : FB w w' S Bs ss aks := by
  refine ⟨h.len, fun k h1 h2 => ?_, h.apart, h.lo, fun x hx => ?_, fun x hx => ?_, fun q hq => h.new q (Nat.le_trans fx.size hq), h.off_kp (k := 0) fx hX⟩
  · have hb := h.br k h1 h2
    have hm := h.hi _ (List.getElem_mem h1)
    exact hb.step fx.size (fun q hq hlt => fx.block q hlt fun hx => (hX q hx hlt).1 hq) (fx.block _ hm.1 fun hx => ((hX _ hx hm.1).2.1 _ (List.getElem_mem h1)).1 rfl) (fx.block _ hm.2 fun hx => ((hX _ hx hm.2).2.1 _ (List.getElem_mem h1)).2 rfl)
  · have := h.hi x hx
    have := fx.size
    omega
  · exact (h.nds x hx).step fx.size (fun q hq hlt => fx.block q hlt fun hx => (hX q hx hlt).1 hq)
theorem off_none : Off w wr S Bs (fun _ => False) := fun _ h => h.elim
theorem FB.kp' (h : FB w wr S Bs ss aks) (k : Kp wr w') : FB w w' S Bs ss aks := h.same (k.fx fun _ => False) off_none
theorem FR.blk (h : FR w wr S vb vh va Bs hs aks) {q : Nat} (hq : Rw vb vh va q) : w.heap.size ≤ q ∧ q < wr.heap.size := by
  rcases hq with hq | hq | hq
  · exact ⟨h.ob.ge q hq, h.ob.blk_lt q hq⟩
  · exact ⟨h.oh.ge q hq, h.oh.blk_lt q hq⟩
  · exact ⟨h.oa.ge q hq, h.oa.blk_lt q hq⟩
theorem FR.keep (h : FR w wr S vb vh va Bs hs aks) (fx : Fx X wr w') (hX : ∀ q, Rw vb vh va q → ¬ X q) : FR w w' S vb vh va Bs hs aks :=
  ⟨h.ob.owS w' fx.size fun q hq hlt => fx.block q hlt (hX q (.inl hq)), h.oh.owS w' fx.size fun q hq hlt => fx.block q hlt (hX q (.inr (.inl hq))), h.oa.owS w' fx.size fun q hq hlt => fx.block q hlt (hX q (.inr (.inr hq))), h.nr⟩
theorem FR.fwd (h : FR w wr S vb vh va Bs hs aks) (fx : Fx X wr w') (hX : ∀ q, Rw vb vh va q → ¬ X q) : FR w w' (Snext wr w' S) vb vh va Bs hs aks := by
  have h1 := h.keep fx hX
  refine ⟨h1.ob, h1.oh, h1.oa, fun q hq => ⟨fun e => ?_, (h.nr q hq).2⟩⟩
  have h2 := h.blk hq
  have := fx.size
  rcases e with e | e
  · exact (h.nr q hq).1 e.2
  · omega
theorem FR.kp' (h : FR w wr S vb vh va Bs hs aks) (k : Kp wr w') : FR w w' S vb vh va Bs hs aks := h.keep (k.fx fun _ => False) fun _ _ e => e
/-- the rows may change -/
theorem FR.off (h : FR w wr S vb vh va Bs hs aks) : Off w wr S Bs (Rw vb vh va) := fun q hq _ => ⟨(h.nr q hq).1, (h.nr q hq).2, (h.blk hq).1⟩
/-- broker k has changed -/
theorem FB.upd {k : Nat} (h : FB w wr S Bs ss aks) (hk : k < Bs.length) {s' : Bk} (fx : Fx (B2 Bs[k].1 Bs[k].2) wr w') (hb : BrW S w' Bs[k].1 Bs[k].2 s') : FB w w' S Bs (ss.set k s') aks := by
  have hlen := h.len
  have hkm := List.getElem_mem hk
  have hlo := h.lo _ hkm
  refine ⟨by rw [List.length_set]; exact h.len, fun j h1 h2 => ?_, h.apart, h.lo, fun x hx => ?_, fun x hx => ?_, fun q hq => h.new q (Nat.le_trans fx.size hq), ?_⟩
  · by_cases e : j = k
    · subst e
      rw [List.getElem_set_self]
      exact hb
    · rw [List.getElem_set_ne (Ne.symm e)]
      have hap : Bs[j].1 ≠ Bs[k].1 ∧ Bs[j].1 ≠ Bs[k].2 ∧ Bs[j].2 ≠ Bs[k].1 ∧ Bs[j].2 ≠ Bs[k].2 := by
        rcases Nat.lt_or_gt_of_ne e with hlt | hlt
        · exact List.pairwise_iff_getElem.1 h.apart j k h1 hk hlt
        · have := List.pairwise_iff_getElem.1 h.apart k j hk h1 hlt
          exact ⟨this.1.symm, this.2.2.1.symm, this.2.1.symm, this.2.2.2.symm⟩
      have hbj := h.br j h1 (by omega)
      exact hbj.fx fx (fun q hq hx => by
        rcases hx with rfl | rfl
        · exact hb.sb hq
        · exact hb.sm hq) (fun hx => by rcases hx with hx | hx; exact hap.1 hx; exact hap.2.1 hx) (fun hx => by rcases hx with hx | hx; exact hap.2.2.1 hx; exact hap.2.2.2 hx)
  · have := h.hi x hx
    have := fx.size
    omega
  · exact (h.nds x hx).step fx.size (fun q hq hlt => fx.block q hlt fun hx => by
      rcases hx with rfl | rfl
      · exact hb.sb hq
      · exact hb.sm hq)
  · exact ((h.kp.fx _).trans fx).kp fun q hq hx => by rcases hx with hx | hx <;> omega
theorem FR.upd {k : Nat} (h : FR w wr S vb vh va Bs hs aks) (hk : k < Bs.length) (fx : Fx (B2 Bs[k].1 Bs[k].2) wr w') : FR w w' S vb vh va Bs hs aks :=
  h.keep fx fun q hq hx => by
    have := (h.nr q hq).2 _ (List.getElem_mem hk)
    rcases hx with hx | hx
    · exact this.1 hx
    · exact this.2 hx
/-- a further broker, of new blocks -/
theorem FB.more {b mb : Nat} {s : Bk} (h : FB w wr S Bs ss aks) (k : Kp wr w') (hb : wr.heap.size ≤ b) (hm : wr.heap.size ≤ mb) (hbr : ∀ T : Nat → Prop, ¬ T b → ¬ T mb → BrW T w' b mb s) : FB w w' (Snext wr w' S) (Bs ++ [(b, mb)]) (ss ++ [s]) aks := by
  have h1 := h.fwd (k.fx fun _ => False) off_none
  have hnew := hbr (Snext wr w' S) (fun e => by
    have hlt := (hbr (fun _ => False) (fun e => e) (fun e => e)).lt
    rcases e with e | e <;> omega) (fun e => by
    have hlt := (hbr (fun _ => False) (fun e => e) (fun e => e)).mlt
    rcases e with e | e <;> omega)
  have hlen := h.len
  refine ⟨by simp [hlen], fun j h2 h3 => ?_, ?_, fun x hx => ?_, fun x hx => ?_, h1.nds, h1.new, h1.kp⟩
  · by_cases e : j < Bs.length
    · rw [List.getElem_append_left e, List.getElem_append_left (by omega)]
      exact h1.br j e (by omega)
    · have e1 : j = Bs.length := by simp at h2; omega
      subst e1
      rw [List.getElem_append_right (by omega), List.getElem_append_right (by omega)]
      simpa using hnew
  · refine List.pairwise_append.2 ⟨h.apart, by simp, fun x hx y hy => ?_⟩
    simp only [List.mem_singleton] at hy
    subst hy
    have := h.hi x hx
    dsimp only
    omega
  · rcases List.mem_append.1 hx with hx | hx
    · exact h.lo x hx
    · simp only [List.mem_singleton] at hx
      subst hx
      have := h.kp.size
      dsimp only
      omega
  · rcases List.mem_append.1 hx with hx | hx
    · exact h1.hi x hx
    · simp only [List.mem_singleton] at hx
      subst hx
      exact ⟨hnew.lt, hnew.mlt⟩
/-- the last broker has changed -/
theorem FB.updLast {b mb : Nat} {s s' : Bk} (h : FB w wr S (Bs ++ [(b, mb)]) (ss ++ [s]) aks) (fx : Fx (B2 b mb) wr w') (hb : BrW S w' b mb s') : FB w w' S (Bs ++ [(b, mb)]) (ss ++ [s']) aks := by
  have hl : ss.length = Bs.length := by have := h.len; simpa using this
  have hk : Bs.length < (Bs ++ [(b, mb)]).length := by simp
  have he : (Bs ++ [(b, mb)])[Bs.length] = (b, mb) := by simp
  have h1 := h.upd (k := Bs.length) hk (s' := s') (by rw [he]; exact fx) (by rw [he]; exact hb)
  rwa [← hl, List.set_append_right _ _ (Nat.le_refl _), Nat.sub_self] at h1
theorem FR.updLast {b mb : Nat} (h : FR w wr S vb vh va (Bs ++ [(b, mb)]) hs aks) (fx : Fx (B2 b mb) wr w') : FR w w' S vb vh va (Bs ++ [(b, mb)]) hs aks := by
  have hk : Bs.length < (Bs ++ [(b, mb)]).length := by simp
  have he : (Bs ++ [(b, mb)])[Bs.length] = (b, mb) := by simp
  exact h.upd (k := Bs.length) hk (by rw [he]; exact fx)
theorem FB.last {b mb : Nat} {s : Bk} (h : FB w wr S (Bs ++ [(b, mb)]) (ss ++ [s]) aks) : BrW S wr b mb s := by
  have hl : ss.length = Bs.length := by have := h.len; simpa using this
  have h1 := h.br Bs.length (by simp) (by simp [hl])
  simpa [← hl] using h1
/-- one block beside -/
theorem FB.one {g : Nat} (h : FB w wr S Bs ss aks) (fx : Fx (fun q => q = g) wr w') (h1 : ¬ S g) (h2 : ∀ x ∈ Bs, g ≠ x.1 ∧ g ≠ x.2) (h3 : w.heap.size ≤ g) : FB w w' S Bs ss aks := h.same fx fun q hq _ => by subst hq; exact ⟨h1, h2, h3⟩
/-- a further request -/
theorem FB.ask {x : AV} (h : FB w wr S Bs ss aks) (hx : Sx S wr x.v x.a.needs) : FB w wr S Bs ss (aks ++ [x]) :=
  ⟨h.len, h.br, h.apart, h.lo, h.hi, fun y hy => by
    rcases List.mem_append.1 hy with hy | hy
    · exact h.nds y hy
    · simp only [List.mem_singleton] at hy
      rw [hy]; exact hx, h.new, h.kp⟩
end
/-- rows of different types lie apart -/
theorem own_ne {α β : Type} {enc : α → List Value} {enc' : β → List Value} {e e' size size' base base' : Nat} {w : World} {v v' : Value} {l : List α} {l' : List β} (h : Own enc e size base w v l) (k : Own enc' e' size' base' w v' l') (hne : e ≠ e') {q : Nat} (hq : v.ownBlock = some q) : v'.ownBlock ≠ some q := fun hq' => by
  rcases h.2 with ⟨rfl, -⟩ | ⟨g, cap, cur, rfl, -, hg, -⟩
  · simp [Value.ownBlock] at hq
  · rcases k.2 with ⟨rfl, -⟩ | ⟨g', cap', cur', rfl, -, hg', -⟩
    · simp [Value.ownBlock] at hq'
    · have e1 : g = q := by simpa [Value.ownBlock] using hq
      have e2 : g' = q := by simpa [Value.ownBlock] using hq'
      subst e1 e2
      rw [hg] at hg'
      injection hg' with hg'
      injection hg' with _ hg'
      exact hne hg'
/-- two rows have grown -/
theorem grown_two {w w1 w9 : World} {S : Nat → Prop} {vb vh va vb9 vh9 : Value} {Bs Bs9 : List (Nat × Nat)} {ss : List Bk} {hs hs9 : List Int} {aks : List AV} (hF : FB w w1 S Bs9 ss aks) (hR : FR w w1 S vb vh va Bs hs aks) (hbn : ∀ q, Rw vb vh va q → ∀ x ∈ Bs9, q ≠ x.1 ∧ q ≠ x.2)
    (own3 : Own encB 32 1 w.heap.size w9 vb9 Bs9) (at3 : vb9.ownBlock = vb.ownBlock ∨ ∃ g, vb9.ownBlock = some g ∧ w1.heap.size ≤ g)
    (own12 : Own encInt 3 1 w.heap.size w9 vh9 hs9) (at12 : vh9.ownBlock = vh.ownBlock ∨ ∃ g, vh9.ownBlock = some g ∧ w1.heap.size ≤ g)
    (k9 : Fx (fun q => vb.ownBlock = some q ∨ vh.ownBlock = some q) w1 w9) : FB w w9 (Snext w1 w9 S) Bs9 ss aks ∧ FR w w9 (Snext w1 w9 S) vb9 vh9 va Bs9 hs9 aks := by
  have hrw : ∀ q, (vb.ownBlock = some q ∨ vh.ownBlock = some q) → Rw vb vh va q := fun q hq => by
    rcases hq with hq | hq
    · exact .inl hq
    · exact .inr (.inl hq)
  have hoff : Off w w1 S Bs9 (fun q => vb.ownBlock = some q ∨ vh.ownBlock = some q) := fun q hq _ => ⟨(hR.nr q (hrw q hq)).1, hbn q (hrw q hq), (hR.blk (hrw q hq)).1⟩
  refine ⟨hF.fwd k9 hoff, own3, own12, hR.oa.owS w9 k9.size fun q hq hlt => k9.block q hlt fun hx => ?_, fun q hq => ?_⟩
  · rcases hx with hx | hx
    · exact own_ne hR.ob hR.oa (by decide) hx hq
    · exact own_ne hR.oh hR.oa (by decide) hx hq
  · have old : Rw vb vh va q → ¬ Snext w1 w9 S q ∧ ∀ x ∈ Bs9, q ≠ x.1 ∧ q ≠ x.2 := fun hq => ⟨fun e => by
      have := hR.blk hq
      have := k9.size
      rcases e with e | e
      · exact (hR.nr q hq).1 e.2
      · omega, hbn q hq⟩
    have new : w1.heap.size ≤ q → q < w9.heap.size → ¬ Snext w1 w9 S q ∧ ∀ x ∈ Bs9, q ≠ x.1 ∧ q ≠ x.2 := fun h1 h2 => ⟨fun e => by
      rcases e with e | e
      · omega
      · omega, fun x hx => by have := hF.hi x hx; omega⟩
    rcases hq with hq | hq | hq
    · rcases at3 with h1 | ⟨g, h1, h2⟩
      · exact old (.inl (by rw [← h1]; exact hq))
      · rw [hq] at h1
        injection h1 with h1
        subst h1
        exact new h2 (own3.blk_lt _ hq)
    · rcases at12 with h1 | ⟨g, h1, h2⟩
      · exact old (.inr (.inl (by rw [← h1]; exact hq)))
      · rw [hq] at h1
        injection h1 with h1
        subst h1
        exact new h2 (own12.blk_lt _ hq)
    · exact old (.inr (.inr hq))
/-- the row of requests has grown -/
theorem grown_ask {w w1 w9 : World} {S : Nat → Prop} {vb vh va va9 : Value} {Bs : List (Nat × Nat)} {ss : List Bk} {hs : List Int} {aks : List AV} {x : AV} (hF : FB w w1 S Bs ss aks) (hR : FR w w1 S vb vh va Bs hs aks) (hx : Sx S w1 x.v x.a.needs)
    (own9 : Own encAV 29 6 w.heap.size w9 va9 (aks ++ [x])) (at9 : va9.ownBlock = va.ownBlock ∨ ∃ g, va9.ownBlock = some g ∧ w1.heap.size ≤ g)
    (k9 : Fx (fun q => va.ownBlock = some q) w1 w9) : FB w w9 (Snext w1 w9 S) Bs ss (aks ++ [x]) ∧ FR w w9 (Snext w1 w9 S) vb vh va9 Bs hs (aks ++ [x]) := by
  have hoff : Off w w1 S Bs (fun q => va.ownBlock = some q) := fun q hq _ => ⟨(hR.nr q (.inr (.inr hq))).1, (hR.nr q (.inr (.inr hq))).2, (hR.blk (.inr (.inr hq))).1⟩
  refine ⟨(hF.ask hx).fwd k9 hoff, hR.ob.owS w9 k9.size fun q hq hlt => k9.block q hlt fun hx => own_ne hR.ob hR.oa (by decide) hq hx, hR.oh.owS w9 k9.size fun q hq hlt => k9.block q hlt fun hx => own_ne hR.oh hR.oa (by decide) hq hx, own9, fun q hq => ?_⟩
  have old : Rw vb vh va q → ¬ Snext w1 w9 S q ∧ ∀ x ∈ Bs, q ≠ x.1 ∧ q ≠ x.2 := fun hq => ⟨fun e => by
    have := hR.blk hq
    have := k9.size
    rcases e with e | e
    · exact (hR.nr q hq).1 e.2
    · omega, (hR.nr q hq).2⟩
  rcases hq with hq | hq | hq
  · exact old (.inl hq)
  · exact old (.inr (.inl hq))
  · rcases at9 with h1 | ⟨g, h1, h2⟩
    · exact old (.inr (.inr (by rw [← h1]; exact hq)))
    · rw [hq] at h1
      injection h1 with h1
      subst h1
      have h3 := own9.blk_lt _ hq
      refine ⟨fun e => ?_, fun x hx => by have := hF.hi x hx; omega⟩
      rcases e with e | e <;> omega
end Go.Proofs.Ytbcekihjcgnhkaa
