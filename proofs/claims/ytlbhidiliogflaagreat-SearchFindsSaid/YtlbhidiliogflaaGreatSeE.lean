
/-
Search: propagate: the walk.
-/
import Derived.Test.YtlbhidiliogflaaGreatSeD
namespace Go.Proofs.YtlbhidiliogflaaGreat
set_option linter.unusedSimpArgs false
set_option linter.unusedVariables false
open Go.RowKit

theorem Fx.thru {X Z : Nat → Prop} {w w1 w' : World} (h : Fx X w w1) (k : Fx Z w1 w') (hs : ∀ q, q < w.heap.size → Z q → X q) : Fx X w w' :=
  ⟨k.os.trans h.os, k.tape.trans h.tape, k.output.trans h.output, Nat.le_trans h.size k.size, fun i hi hx => (k.block i (Nat.lt_of_lt_of_le hi h.size) (fun e => hx (hs i hi e))).trans (h.block i hi hx)⟩
def lenV : Value → Nat
  | .slice _ n _ => n
  | _ => 0
theorem Own.lenV {α : Type} {enc : α → List Value} {e size base : Nat} {w : World} {v : Value} {l : List α} (h : Own enc e size base w v l) : Go.Proofs.YtlbhidiliogflaaGreat.lenV v = l.length := by
  obtain ⟨A, c, rfl, -⟩ := h.form
  rfl
/-- what a propagation may change -/
def PW (bw : Nat) (vb : Value) (q : Nat) : Prop := q = bw ∨ vb.ownBlock = some q
structure PrEnd (w w' : World) (n b c : Nat) (vb : Value) (bw : Nat) (x0 x1 x2 x3 x4 : Value) (F : PX) (vs : Value) (box : List Rng) : Prop where
  wk : Bx w' bw [x0, x1, x2, x3, x4, .int .i64 (b : Int), .int .i64 ((c + F.steps.length : Nat) : Int)]
  own : Own encRng 57 2 0 w' vb box
  len : box.length = n
  opn : F.opn = true → box = F.box ∧ fineBox n box
  stp : Own encStp 54 3 0 w' vs F.steps
  cb : c + F.steps.length ≤ b
  fx : Fx (PW bw vb) w w'
  blk : ∀ q, vs.ownBlock = some q → w.heap.size ≤ q
def PropG (w : World) (n b c : Nat) (vb : Value) (bw : Nat) (x0 x1 x2 x3 x4 : Value) (F : PX) (e : Ending) (w' : World) : Prop :=
  (F.fine = false ∧ e = .panicked Pn ∧ Fx (PW bw vb) w w') ∨ (F.fine = true ∧ ∃ vs box, e = .returned (.tuple #[vs, .bool (!F.opn)]) ∧ PrEnd w w' n b c vb bw x0 x1 x2 x3 x4 F vs box)
/-- between two passes -/
structure PrI (w0 : World) (X : Nat → Prop) (R : World → Prop) (n B b : Nat) (vb : Value) (bw : Nat) (x0 x1 x2 x3 x4 : Value) (wr : World) (box : List Rng) (ss : List Stp) (vs : Value) (c : Nat) : Prop where
  wk : Bx wr bw [x0, x1, x2, x3, x4, .int .i64 (b : Int), .int .i64 (c : Int)]
  own : Own encRng 57 2 0 wr vb box
  stp : Own encStp 54 3 0 wr vs ss
  rd : OwF (fun q => X q ∨ w0.heap.size ≤ q) wr R
  fx : Fx (PW bw vb) w0 wr
  cb : c ≤ b
  bc : B + c = b + ss.length
  fb : fineBox n box
  blk : ∀ q, vs.ownBlock = some q → w0.heap.size ≤ q
set_option maxRecDepth 8000 in
set_option maxHeartbeats 8000000 in
theorem propagate_any (bw : Nat) (x0 x1 x3 : Value) (Ag Ar : Option Addr) (cg cr : Nat) (rows : List Row) (grs : List Gr) (n b c : Nat) (vb : Value) (box : List Rng) (X : Nat → Prop) (css : List (Elm 2)) (csg : List (Elm 3)) (w : World)
    (hW : Bx w bw [x0, x1, .slice Ag grs.length cg, x3, .slice Ar rows.length cr, .int .i64 (b : Int), .int .i64 (c : Int)]) (hO : Own encRng 57 2 0 w vb box)
    (hne : ∀ q, vb.ownBlock = some q → q ≠ bw) (hXw : X bw) (hXb : ∀ q, vb.ownBlock = some q → X q)
    (hD : OwF X w (PData css csg (.slice Ar rows.length cr) (.slice Ag grs.length cg) rows grs))
    (hc : c ≤ b) (hb : b ≤ 65536) (hf : fineBox n box) (hn : n ≤ 128) (hr : ∀ r ∈ rows, fitsB n r = true) (hg : ∀ g ∈ grs, grOk n g = true) :
    Calls Tryz.prog 30 #[.pointer (some ⟨bw, 0, none⟩), vb] w (PropG w n b c vb bw x0 x1 (.slice Ag grs.length cg) x3 (.slice Ar rows.length cr) (runB (b - c) rows grs box)) := by
  have hwl := hW.lt (by simp)
  have hbl := hO.blk_lt
  obtain ⟨B, hB⟩ : ∃ B, B = b - c := ⟨_, rfl⟩
  have hI : PrI w X (PData css csg (.slice Ar rows.length cr) (.slice Ag grs.length cg) rows grs) n B b vb bw x0 x1 (.slice Ag grs.length cg) x3 (.slice Ar rows.length cr) w box [] (.slice none 0 0) c :=
    ⟨hW, hO, Own.nil _ _ _ _ _, hD.more (Fx.refl _ _), Fx.refl _ _, hc, by simp; omega, hf, fun q hq => by simp [Value.ownBlock] at hq⟩
  have HF0 : Hid (runB (b - c) rows grs box = runX B rows grs (B + 1) ⟨[], box, true, true⟩) := hid (by rw [hB]; rfl)
  generalize runB (b - c) rows grs box = F at *
  have hBb : B ≤ 65536 ∧ B = b - c := ⟨by omega, hB⟩
  replace hBb := hid hBb
  clear hW hO hD hf hB
  go_enter Tryz.func30, Tryz.ntmps30
  go_wp2_with fail
  go_loopw [6] (fun v wr => ∃ (N : Nat) (bx : List Rng) (ss : List Stp) (c2 : Nat), PrI w X (PData css csg (.slice Ar rows.length cr) (.slice Ag grs.length cg) rows grs) n B b vb bw x0 x1 (.slice Ag grs.length cg) x3 (.slice Ar rows.length cr) wr bx ss v c2 ∧ Hid (F = runX B rows grs N ⟨ss, bx, true, true⟩) ∧ B + 1 ≤ N + ss.length) (fun v _ => B + 1 - lenV v)
  case atStart => exact ⟨B + 1, _, _, _, hI, HF0, by omega⟩
  case round =>
    clear hI HF0
    obtain ⟨N, bx, ss, c2, hI, HF, hN⟩ := hrel
    have hss : ss.length ≤ B := by
      have h1 := hI.bc
      have h2 := hI.cb
      omega
    obtain ⟨M, rfl⟩ : ∃ M, N = M + 1 := ⟨N - 1, by omega⟩
    have hlenV := hid hI.stp.lenV
    have hPA := pass_any bw x0 x1 x3 Ag Ar cg cr rows grs n B b c2 vb bx u6 ss (fun q => X q ∨ w.heap.size ≤ q) css csg wr hI.wk hI.own hI.stp hne (fun q hq => ⟨fun e => by have := hI.blk q hq; omega, fun e => by have := hI.blk q hq; have := hbl q e; omega⟩) (.inl hXw) (fun q hq => .inl (hXb q hq)) (fun q hq => .inr (hI.blk q hq)) hI.rd hI.cb hb hI.bc hBb.out.1 hI.fb hn hr hg
    obtain ⟨F1, hF1⟩ : ∃ F1, Hid (runT B ⟨ss, bx, true, true⟩ (tasks rows grs) = F1) := ⟨_, hid rfl⟩
    rw [hF1.out] at hPA
    replace hPA := hid hPA
    go_wp2_with fail
    refine hPA.out.mono ?_
    rintro e w5 (⟨h1, rfl, k5⟩ | ⟨h1, vs2, ch, bx2, c3, rfl, hE⟩)
    · have hL := runT_len B (tasks rows grs) ⟨ss, bx, true, true⟩
      rw [hF1.out] at hL
      have HFF : F.fine = false := by rw [HF.out, runX_stop hF1.out (.inl (hL.2 h1 rfl))]; exact h1
      have kk : Fx (PW bw vb) w w5 := hI.fx.thru k5 fun q hq hz => by
        rcases hz with e | e | e
        · exact .inl e
        · exact .inr e
        · exact absurd (hI.blk q e) (by omega)
      have HE : Hid (PropG w n b c vb bw x0 x1 (.slice Ag grs.length cg) x3 (.slice Ar rows.length cr) F (.panicked Pn) w5) := hid (.inl ⟨HFF, rfl, kk⟩)
      go_wp2
      exact ⟨rfl, HE.out⟩
    · obtain ⟨Av, nv, cv, rfl⟩ := hE.stp.isSl
      have kk : Fx (PW bw vb) w w5 := hI.fx.thru hE.fx fun q hq hz => by
        rcases hz with e | e | e
        · exact .inl e
        · exact .inr e
        · exact absurd (hI.blk q e) (by omega)
      have hblk : ∀ q, (Value.slice Av nv cv).ownBlock = some q → w.heap.size ≤ q := fun q hq => by
        rcases hE.blk with e | e
        · exact hI.blk q (e ▸ hq)
        · exact Nat.le_trans hI.fx.size (e q hq)
      have hbc := hE.bc
      have hcb := hE.cb
      have hc3 : c3 = c + F1.steps.length := by have := hBb.out.2; omega
      cases ho : F1.opn with
      | false =>
        have HFF : F = F1 := by rw [HF.out]; exact runX_stop hF1.out (.inl ho)
        have HE : Hid (PropG w n b c vb bw x0 x1 (.slice Ag grs.length cg) x3 (.slice Ar rows.length cr) F (.returned (.tuple #[.slice Av nv cv, .bool true])) w5) := hid (.inr ⟨by rw [HFF]; exact h1, _, _, by rw [HFF, ho]; rfl, by
          rw [HFF]
          exact ⟨by rw [← hc3]; exact hE.wk, hE.own, hE.len, (fun e => by rw [ho] at e; cases e), hE.stp, by omega, kk, hblk⟩⟩)
        go_wp2
        go_ret2
        exact HE.out
      | true =>
        obtain ⟨hb1, hb2, hb3⟩ := hE.opn ho
        by_cases hq : F1.steps.length = ss.length
        · have hch : ch = false := by rw [hb3, decide_eq_true hq]; rfl
          subst hch
          have HFF : F = F1 := by rw [HF.out]; exact runX_stop hF1.out (.inr hq)
          have HE : Hid (PropG w n b c vb bw x0 x1 (.slice Ag grs.length cg) x3 (.slice Ar rows.length cr) F (.returned (.tuple #[.slice Av nv cv, .bool false])) w5) := hid (.inr ⟨by rw [HFF]; exact h1, _, _, by rw [HFF, ho]; rfl, by
            rw [HFF]
            exact ⟨by rw [← hc3]; exact hE.wk, hE.own, hE.len, fun _ => ⟨hb1, hb2⟩, hE.stp, by omega, kk, hblk⟩⟩)
          clear hq hbc hcb hc3 hN hss hb3 hb1 hb2
          go_wp2
          go_ret2
          exact HE.out
        · have hch : ch = true := by rw [hb3, decide_eq_false hq]; rfl
          subst hch
          have hL := (runT_len B (tasks rows grs) ⟨ss, bx, true, true⟩).1
          rw [hF1.out] at hL
          dsimp only at hL
          have HF2 : Hid (F = runX B rows grs M ⟨F1.steps, bx2, true, true⟩) := hid (by
            rw [HF.out, runX_go hF1.out ho hq, hb1]
            obtain ⟨s1, b1, o1, f1⟩ := F1
            dsimp only at ho h1 ⊢
            rw [ho, h1])
          have hI5 : PrI w X (PData css csg (.slice Ar rows.length cr) (.slice Ag grs.length cg) rows grs) n B b vb bw x0 x1 (.slice Ag grs.length cg) x3 (.slice Ar rows.length cr) w5 bx2 F1.steps (.slice Av nv cv) c3 :=
            ⟨hE.wk, hE.own, hE.stp, hI.rd.fx (hE.fx.mono fun q _ hz => by
              rcases hz with e | e | e
              · exact .inl (e ▸ hXw)
              · exact .inl (hXb q e)
              · exact .inr (hI.blk q e)), kk, hE.cb, hE.bc, hb2, hblk⟩
          have hlenV2 := hid hE.stp.lenV
          have hN2 : B + 1 ≤ M + F1.steps.length := by omega
          have hme : B + 1 - lenV (.slice Av nv cv) < B + 1 - lenV u6 := by rw [hlenV2.out, hlenV.out]; omega
          replace hq := hid hq
          clear hbc hcb hc3 hL hb1 hb3
          replace hN2 := hid hN2
          replace hme := hid hme
          clear hN hss
          go_wp2_with fail
          go_roundw
          case rel => exact ⟨M, _, _, _, hI5, HF2, hN2.out⟩
          case measure => exact hme.out
end Go.Proofs.YtlbhidiliogflaaGreat
