
/-
Search: the kids of a node: what holds between them.
-/
import Derived.Test.YtlbhidiliogflaaGreatSeJ
namespace Go.Proofs.YtlbhidiliogflaaGreat
set_option linter.unusedSimpArgs false
set_option linter.unusedVariables false
open Go.RowKit

theorem rdTr_form {n : Nat} {w : World} {q0 q1 q2 q3 q4 : Value} {t : Tr} (h : rdTr n w [q0, q1, q2, q3, q4] t) : ∃ (k c a : Int) (A1 A2 : Option Addr) (n1 c1 n2 c2 : Nat), q0 = .int .i64 k ∧ q1 = .slice A1 n1 c1 ∧ q2 = .int .i64 c ∧ q3 = .int .i64 a ∧ q4 = .slice A2 n2 c2 := by
  cases n with
  | zero => exact absurd h (by intro h; exact h)
  | succ n =>
    obtain ⟨k, ss, c, a, ks⟩ := t
    obtain ⟨vs, vk, e, h1, h2⟩ := h
    obtain ⟨A1, c1, rfl, -⟩ := h1.form
    obtain ⟨A2, c2, rfl, -⟩ := h2.form
    simp only [List.cons.injEq] at e
    exact ⟨k, c, a, A1, A2, _, c1, _, c2, e.1, e.2.1, e.2.2.1, e.2.2.2.1, e.2.2.2.2.1⟩
/-- between two kids: zp: the variables lie below, the kids' row behind -/
structure NI (w : World) (PD OT : World → Prop) (X : Nat → Prop) (zp n b c : Nat) (vb : Value) (bw z6 t9 : Nat) (x0 x1 x2 x3 x4 y0 y1 y2 y3 : Value) (vss : Value) (ss : List Stp) (box : List Rng) (wr : World) (vk : Value) (css : List (Elm 5)) (ts : List Tr) (cst : Nat) : Prop where
  ki : KI zp n wr vk css ts
  tr : Bx wr t9 [y0, y1, y2, y3, vk]
  fo : Bx wr z6 [.slice none 0 0, .int .i64 0, .int .i64 0, .slice none 0 0, .int .i64 0, .int .i64 0, .slice none 0 0]
  wk : Bx wr bw [x0, x1, x2, x3, x4, .int .i64 (b : Int), .int .i64 ((c + cst : Nat) : Int)]
  cb : c + cst ≤ b
  own : Own encRng 57 2 0 wr vb box
  stp : Own encStp 54 3 0 wr vss ss
  oth : OwF (fun q => q = bw ∨ q = t9 ∨ zp ≤ q) wr OT
  fx : Fx (PW bw vb) w wr
  rd : OwF (fun q => X q ∨ w.heap.size ≤ q) wr PD
  vkz : ∀ q, vk.ownBlock = some q → zp ≤ q
  zw : zp ≤ wr.heap.size
/-- the variables' blocks -/
structure NB (w : World) (X : Nat → Prop) (zp : Nat) (vb : Value) (bw z6 t9 : Nat) (vss : Value) : Prop where
  xw : X bw
  bz : bw < w.heap.size
  wz : w.heap.size ≤ zp
  z6w : w.heap.size ≤ z6
  t9w : w.heap.size ≤ t9
  z6z : z6 < zp
  t9z : t9 < zp
  ne : z6 ≠ t9
  vbz : ∀ q, vb.ownBlock = some q → q < w.heap.size ∧ q ≠ bw
  vsz : ∀ q, vss.ownBlock = some q → w.heap.size ≤ q ∧ q < zp ∧ q ≠ z6 ∧ q ≠ t9
section
variable {w : World} {PD OT : World → Prop} {X : Nat → Prop} {zp n b c : Nat} {vb : Value} {bw z6 t9 : Nat} {x0 x1 x2 x3 x4 y0 y1 y2 y3 : Value} {vss : Value} {ss : List Stp} {box : List Rng} {wr w2 : World} {vk : Value} {css : List (Elm 5)} {ts : List Tr} {cst : Nat}
theorem NI.kp (h : NI w PD OT X zp n b c vb bw z6 t9 x0 x1 x2 x3 x4 y0 y1 y2 y3 vss ss box wr vk css ts cst) (k : Kp wr w2) : NI w PD OT X zp n b c vb bw z6 t9 x0 x1 x2 x3 x4 y0 y1 y2 y3 vss ss box w2 vk css ts cst :=
  ⟨h.ki.fx (k.fx _), h.tr.kp k (h.tr.lt (by simp)), h.fo.kp k (h.fo.lt (by simp)), h.wk.kp k (h.wk.lt (by simp)), h.cb, h.own.kp k, h.stp.kp k, h.oth.fx (k.fx _), h.fx.trans (k.fx _), h.rd.fx (k.fx _), h.vkz, Nat.le_trans h.zw k.size⟩
/-- a kid has been searched -/
theorem NI.child (hb : NB w X zp vb bw z6 t9 vss) (h : NI w PD OT X zp n b c vb bw z6 t9 x0 x1 x2 x3 x4 y0 y1 y2 y3 vss ss box wr vk css ts cst) {wa : World} (ka : Kp wr wa) {vh : Value} (hv : ∀ q, vh.ownBlock = some q → wr.heap.size ≤ q) (k : Fx (PW bw vh) wa w2) {x4' : Value} {d : Nat}
    (hW : Bx w2 bw [x0, x1, x2, x3, x4', .int .i64 (b : Int), .int .i64 ((c + (cst + d) : Nat) : Int)]) (hc : c + (cst + d) ≤ b) : NI w PD OT X zp n b c vb bw z6 t9 x0 x1 x2 x3 x4' y0 y1 y2 y3 vss ss box w2 vk css ts (cst + d) := by
  have kk : Fx (fun q => q = bw) wr w2 := (ka.fx (fun q => q = bw)).thru k fun q hq e => by
    rcases e with e | e
    · exact e
    · have := hv q e
      omega
  have hbz := hb.bz
  have hwz := hb.wz
  have h6 := hb.z6w
  have h9 := hb.t9w
  exact ⟨h.ki.fx (kk.mono fun q _ e => by subst e; exact ⟨by omega, fun e2 => by have := h.vkz q e2; omega⟩), h.tr.fx kk (h.tr.lt (by simp)) (by omega), h.fo.fx kk (h.fo.lt (by simp)) (by omega), hW, hc,
    h.own.fx kk (fun q hq e => (hb.vbz q hq).2 e), h.stp.fx kk (fun q hq e => by have := (hb.vsz q hq).1; omega), h.oth.fx (kk.mono fun q _ e => .inl e), h.fx.trans (kk.mono fun q _ e => .inl e),
    h.rd.fx (kk.mono fun q _ e => .inl (e ▸ hb.xw)), h.vkz, Nat.le_trans h.zw kk.size⟩
/-- .. and laid with the others -/
theorem NI.kid (hb : NB w X zp vb bw z6 t9 vss) (h : NI w PD OT X zp n b c vb bw z6 t9 x0 x1 x2 x3 x4 y0 y1 y2 y3 vss ss box wr vk css ts cst) {vk' : Value} {tc : Elm 5} {t : Tr} {z : Nat} (hz : zp ≤ z) (hvz : ∀ q, vk.ownBlock = some q → q < z)
    (ht : OwF (fun q => q < z) wr fun w' => rdTr n w' tc.val t) (hT : Bx w2 t9 [y0, y1, y2, y3, vk']) (hO : Own encC 34 5 0 w2 vk' (css ++ [tc])) (k : Fx (fun q => q = t9 ∨ vk.ownBlock = some q) wr w2)
    (hat : vk'.ownBlock = vk.ownBlock ∨ ∀ q, vk'.ownBlock = some q → wr.heap.size ≤ q) : NI w PD OT X zp n b c vb bw z6 t9 x0 x1 x2 x3 x4 y0 y1 y2 y3 vss ss box w2 vk' (css ++ [tc]) (ts ++ [t]) cst := by
  have hbz := hb.bz
  have hwz := hb.wz
  have h6 := hb.z6w
  have h9 := hb.t9w
  have h6z := hb.z6z
  have h9z := hb.t9z
  have hne := hb.ne
  have hvk : ∀ q, q < zp → ¬ (vk.ownBlock = some q) := fun q hq e => by have := h.vkz q e; omega
  refine ⟨h.ki.snoc hz hvz ht hO (k.mono fun q _ e => ?_) hat, hT, h.fo.fx k (h.fo.lt (by simp)) (fun e => ?_), h.wk.fx k (h.wk.lt (by simp)) (fun e => ?_), h.cb, h.own.fx k (fun q hq e => ?_), h.stp.fx k (fun q hq e => ?_), h.oth.fx (k.mono fun q _ e => ?_), h.fx.thru k (fun q hq e => ?_),
    h.rd.fx (k.mono fun q _ e => ?_), fun q hq => ?_, Nat.le_trans h.zw k.size⟩
  · rcases e with e | e
    · exact .inl (e ▸ h9z)
    · exact .inr e
  · rcases e with e | e
    · exact hne e
    · exact hvk _ h6z e
  · rcases e with e | e
    · omega
    · exact hvk _ (by omega) e
  · have := hb.vbz q hq
    rcases e with e | e
    · omega
    · exact hvk q (by omega) e
  · have := hb.vsz q hq
    rcases e with e | e
    · omega
    · exact hvk q (by omega) e
  · rcases e with e | e
    · exact .inr (.inl e)
    · exact .inr (.inr (h.vkz q e))
  · rcases e with e | e
    · omega
    · have := h.vkz q e
      omega
  · rcases e with e | e
    · exact .inr (by omega)
    · exact .inr (by have := h.vkz q e; omega)
  · rcases hat with e | e
    · exact h.vkz q (e ▸ hq)
    · exact Nat.le_trans h.zw (e q hq)
end
/-- the middle of a wide range -/
theorem mid_bounds {r : Rng} (hb : ¬ bad r) (h : wideR r = true) : r.lo ≤ middle r ∧ middle r < r.hi := by
  have h1 : r.lo < r.hi := by unfold wideR at h; simpa using h
  have hbx : boxB [r] = true := by
    unfold boxB boxL
    rw [if_neg hb]
    rfl
  unfold middle
  rw [hbx, if_pos rfl]
  omega
theorem half_fine {n : Nat} {box : List Rng} (hf : fineBox n box) {j : Nat} (hj : j < box.length) (hw : wideR box[j] = true) (k : Nat) : fineBox n (box.set j (halfR box (j : Int) (middle (pick box (j : Int))) k)) := by
  have hp := pick_at box j hj
  have hm := mid_bounds (hf.2.1 box[j] (List.getElem_mem hj)) hw
  have hlh := hf.2.2 box[j] (List.getElem_mem hj)
  unfold halfR
  rw [hp]
  split
  · exact fineBox_set hf (by rw [← hf.1]; exact hj) (by rw [hp]; exact Int.le_refl _) hm.1 (by rw [hp]; dsimp only; omega)
  · exact fineBox_set hf (by rw [← hf.1]; exact hj) (by rw [hp]; dsimp only; omega) (by dsimp only; omega) (by rw [hp]; exact Int.le_refl _)
end Go.Proofs.YtlbhidiliogflaaGreat
