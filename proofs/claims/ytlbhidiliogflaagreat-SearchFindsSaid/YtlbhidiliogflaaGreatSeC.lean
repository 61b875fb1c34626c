
/-
Search: a pass: its invariant, and the walk.
-/
import Derived.Test.YtlbhidiliogflaaGreatSeB
import Derived.Test.YtlbhidiliogflaaGreatSeQ
namespace Go.Proofs.YtlbhidiliogflaaGreat
set_option linter.unusedSimpArgs false
set_option linter.unusedVariables false
open Go.RowKit

/-- a list whose elements' cells are known -/
def RawL {α : Type} (R : Rd α) (size : Nat) (css : List (Elm size)) (w : World) (v : Value) (l : List α) : Prop := Sl (Pl encC) size w v css ∧ css.length = l.length ∧ ∀ k (h1 : k < css.length) (h2 : k < l.length), R w css[k].val l[k]
theorem RawL.sl {α : Type} {R : Rd α} {size : Nat} {css : List (Elm size)} {w : World} {v : Value} {l : List α} (h : RawL R size css w v l) : Sl R size w v l := sl_of h.1 h.2.1 h.2.2
theorem RawL.of {α : Type} {R : Rd α} {size : Nat} {w : World} {v : Value} {l : List α} (h : Sl R size w v l) (hR : Stable R) (hone : ∀ cs x, R w cs x → ∀ u ∈ cs, u.oneCell' = true) : ∃ css : List (Elm size), ∀ w', Kp w w' → RawL R size css w' v l := by
  obtain ⟨css, h1, h2, h3⟩ := sl_raw h hone
  exact ⟨css, fun w' k => ⟨h1.keep (pl_stable _) k, h2, fun i h4 h5 => hR _ _ _ _ k (h3 i h4 h5)⟩⟩
theorem RawL.row {css : List (Elm 2)} {A : Option Addr} {n c : Nat} {l : List Row} {w : World} (h : RawL rdRow 2 css w (.slice A n c) l) {k : Nat} (hk : k < l.length) :
    ∃ b o A' c', A = some ⟨b, o, none⟩ ∧ b < w.heap.size ∧ w.cell? ⟨b, o + k * 2, none⟩ = some (.slice A' l[k].terms.length c') ∧ w.cell? ⟨b, o + k * 2 + 1, none⟩ = some (.int .i64 l[k].bound) ∧ ∀ (w' : World) (v' : Value), RawL rdRow 2 css w' v' l → Terms w' (.slice A' l[k].terms.length c') l[k].terms := by
  have hk' : k < css.length := by rw [h.2.1]; exact hk
  obtain ⟨b, o, cs, hA, hb, hcs, hc, hr⟩ := h.1.at_ hk'
  unfold Pl encC at hr
  subst hr
  obtain ⟨v, e, ht⟩ := h.2.2 k hk' hk
  obtain ⟨A', c', rfl, -, -⟩ := ht.form
  rw [e] at hc
  refine ⟨b, o, A', c', hA, hb, hc 0 _ rfl, hc 1 _ rfl, fun w' v' h' => ?_⟩
  obtain ⟨v2, e2, ht2⟩ := h'.2.2 k hk' hk
  rw [e] at e2
  injection e2 with e2 _
  rw [e2]
  exact ht2
theorem RawL.gr {css : List (Elm 3)} {A : Option Addr} {n c : Nat} {l : List Gr} {w : World} (h : RawL rdGr 3 css w (.slice A n c) l) {k : Nat} (hk : k < l.length) :
    ∃ b o A' c', A = some ⟨b, o, none⟩ ∧ b < w.heap.size ∧ w.cell? ⟨b, o + k * 3, none⟩ = some (.int .i64 l[k].first) ∧ w.cell? ⟨b, o + k * 3 + 1, none⟩ = some (.int .i64 l[k].size) ∧ w.cell? ⟨b, o + k * 3 + 2, none⟩ = some (.slice A' l[k].least.length c') ∧
      ∀ (w' : World) (v' : Value), RawL rdGr 3 css w' v' l → Ints w' (.slice A' l[k].least.length c') l[k].least := by
  have hk' : k < css.length := by rw [h.2.1]; exact hk
  obtain ⟨b, o, cs, hA, hb, hcs, hc, hr⟩ := h.1.at_ hk'
  unfold Pl encC at hr
  subst hr
  obtain ⟨v, e, ht⟩ := h.2.2 k hk' hk
  obtain ⟨A', c', rfl, -, -⟩ := ht.form
  rw [e] at hc
  refine ⟨b, o, A', c', hA, hb, hc 0 _ rfl, hc 1 _ rfl, hc 2 _ rfl, fun w' v' h' => ?_⟩
  obtain ⟨v2, e2, ht2⟩ := h'.2.2 k hk' hk
  rw [e] at e2
  injection e2 with _ e2
  injection e2 with _ e2
  injection e2 with e2 _
  rw [e2]
  exact ht2
/-- the data of a pass -/
def PData (css : List (Elm 2)) (csg : List (Elm 3)) (vr vg : Value) (rows : List Row) (grs : List Gr) (w : World) : Prop := RawL rdRow 2 css w vr rows ∧ RawL rdGr 3 csg w vg grs
/-- what a pass may change, new blocks from z on -/
def PY (z bw : Nat) (vb vs0 : Value) (q : Nat) : Prop := q = bw ∨ vb.ownBlock = some q ∨ vs0.ownBlock = some q ∨ z ≤ q
/-- .. of what was there -/
def PZ (bw : Nat) (vb vs0 : Value) (q : Nat) : Prop := q = bw ∨ vb.ownBlock = some q ∨ vs0.ownBlock = some q
theorem Fx.below {X Y : Nat → Prop} {w w1 w' : World} (k : Kp w w1) (h : Fx Y w1 w') (hs : ∀ q, q < w.heap.size → Y q → X q) : Fx X w w' :=
  ⟨h.os.trans k.os, h.tape.trans k.tape, h.output.trans k.output, Nat.le_trans k.size h.size, fun i hi hx => (h.block i (Nat.lt_of_lt_of_le hi k.size) (fun e => hx (hs i hi e))).trans (k.block hi)⟩
structure PIn (z : Nat) (X : Nat → Prop) (R : World → Prop) (n B b : Nat) (vb vs0 : Value) (ss0 : List Stp) (bw b3 b4 b5 b9 : Nat) (x0 x1 x2 x3 x4 : Value) (F : PX) (w1 : World) (REST : List Tsk) (wr : World) (box : List Rng) (ss : List Stp) (vs : Value) (c : Nat) (ch : Bool) : Prop where
  ps : PSt wr bw b3 b4 b5 b9 x0 x1 x2 x3 x4 b c vb box vs ss ch
  rd : OwF (fun q => X q ∨ z ≤ q) wr R
  fx : Fx (PY z bw vb vs0) w1 wr
  cb : c ≤ b
  bc : B + c = b + ss.length
  fb : fineBox n box
  run : runT B ⟨ss, box, true, true⟩ REST = F
  chg : ch = !decide (ss.length = ss0.length)
  mon : ss0.length ≤ ss.length
  own : vs.ownBlock = vs0.ownBlock ∨ ∀ q, vs.ownBlock = some q → z ≤ q
/-- the sets fit -/
structure PFit (z : Nat) (X : Nat → Prop) (vb vs0 : Value) (bw b3 b4 b5 b9 : Nat) (w1 : World) : Prop where
  xw : X bw
  xb : ∀ q, vb.ownBlock = some q → X q
  xs : ∀ q, vs0.ownBlock = some q → X q
  z3 : z ≤ b3
  z4 : z ≤ b4
  z5 : z ≤ b5
  z9 : z ≤ b9
  zw : z ≤ w1.heap.size
section
variable {z : Nat} {X : Nat → Prop} {R : World → Prop} {n B b : Nat} {vb vs0 : Value} {ss0 : List Stp} {bw b3 b4 b5 b9 : Nat} {x0 x1 x2 x3 x4 : Value} {F : PX} {w1 : World} {REST : List Tsk} {wr w2 : World} {box : List Rng} {ss : List Stp} {vs : Value} {c : Nat} {ch : Bool}
theorem PIn.kp (h : PIn z X R n B b vb vs0 ss0 bw b3 b4 b5 b9 x0 x1 x2 x3 x4 F w1 REST wr box ss vs c ch) (k : Kp wr w2) : PIn z X R n B b vb vs0 ss0 bw b3 b4 b5 b9 x0 x1 x2 x3 x4 F w1 REST w2 box ss vs c ch :=
  ⟨h.ps.kp k, h.rd.fx (k.fx _), h.fx.trans (k.fx _), h.cb, h.bc, h.fb, h.run, h.chg, h.mon, h.own⟩
theorem PIn.rest (h : PIn z X R n B b vb vs0 ss0 bw b3 b4 b5 b9 x0 x1 x2 x3 x4 F w1 REST wr box ss vs c ch) {REST' : List Tsk} (e : runT B ⟨ss, box, true, true⟩ REST' = F) : PIn z X R n B b vb vs0 ss0 bw b3 b4 b5 b9 x0 x1 x2 x3 x4 F w1 REST' wr box ss vs c ch :=
  ⟨h.ps, h.rd, h.fx, h.cb, h.bc, h.fb, e, h.chg, h.mon, h.own⟩
theorem PIn.len (h : PIn z X R n B b vb vs0 ss0 bw b3 b4 b5 b9 x0 x1 x2 x3 x4 F w1 REST wr box ss vs c ch) : ss.length ≤ B ∧ box.length = n ∧ (B ≤ ss.length ↔ c = b) := by
  have h1 := h.cb
  have h2 := h.bc
  exact ⟨by omega, h.fb.1, by omega⟩
theorem PSt.old (h : PSt wr bw b3 b4 b5 b9 x0 x1 x2 x3 x4 b c vb box vs ss ch) (q : Nat) (hq : q ∈ [bw, b3, b4, b5, b9] ∨ vb.ownBlock = some q ∨ vs.ownBlock = some q) : q < wr.heap.size := by
  simp only [List.mem_cons, List.not_mem_nil, or_false] at hq
  rcases hq with (rfl | rfl | rfl | rfl | rfl) | hq | hq
  · exact h.wk.lt (by simp)
  · exact h.w3.lt (by simp)
  · exact h.w4.lt (by simp)
  · exact h.w5.lt (by simp)
  · exact h.w9.lt (by simp)
  · exact h.own.blk_lt q hq
  · exact h.stp.blk_lt q hq
theorem stX_old (h : PSt wr bw b3 b4 b5 b9 x0 x1 x2 x3 x4 b c vb box vs ss ch) {q : Nat} (hq : wr.heap.size ≤ q) : ¬ StX bw b5 b9 vb vs q := fun e => by
  have : q < wr.heap.size := h.old q (by
    rcases e with e | e | e | e | e
    · exact .inl (by simp [e])
    · exact .inl (by simp [e])
    · exact .inl (by simp [e])
    · exact .inr (.inl e)
    · exact .inr (.inr e))
  omega
theorem PIn.stX (hf : PFit z X vb vs0 bw b3 b4 b5 b9 w1) (h : PIn z X R n B b vb vs0 ss0 bw b3 b4 b5 b9 x0 x1 x2 x3 x4 F w1 REST wr box ss vs c ch) (k : Fx (StX bw b5 b9 vb vs) wr w2) : OwF (fun q => X q ∨ z ≤ q) w2 R ∧ Fx (PY z bw vb vs0) w1 w2 := by
  refine ⟨h.rd.fx (k.mono fun q _ hq => ?_), h.fx.trans (k.mono fun q _ hq => ?_)⟩
  · rcases hq with e | e | e | e | e
    · exact .inl (e ▸ hf.xw)
    · exact .inr (e ▸ hf.z5)
    · exact .inr (e ▸ hf.z9)
    · exact .inl (hf.xb q e)
    · rcases h.own with h1 | h1
      · exact .inl (hf.xs q (h1 ▸ e))
      · exact .inr (h1 q e)
  · rcases hq with e | e | e | e | e
    · exact .inl e
    · exact .inr (.inr (.inr (e ▸ hf.z5)))
    · exact .inr (.inr (.inr (e ▸ hf.z9)))
    · exact .inr (.inl e)
    · rcases h.own with h1 | h1
      · exact .inr (.inr (.inl (h1 ▸ e)))
      · exact .inr (.inr (.inr (h1 q e)))
theorem PIn.fx1 (h : PIn z X R n B b vb vs0 ss0 bw b3 b4 b5 b9 x0 x1 x2 x3 x4 F w1 REST wr box ss vs c ch) {r : Nat} (k : Fx (fun q => q = r) wr w2) (hr : z ≤ r) (hn : ∀ q, q ∈ [bw, b3, b4, b5, b9] ∨ vb.ownBlock = some q ∨ vs.ownBlock = some q → q ≠ r) : PIn z X R n B b vb vs0 ss0 bw b3 b4 b5 b9 x0 x1 x2 x3 x4 F w1 REST w2 box ss vs c ch :=
  ⟨h.ps.fx k hn, h.rd.fx (k.mono fun q _ e => .inr (e ▸ hr)), h.fx.trans (k.mono fun q _ e => .inr (.inr (.inr (e ▸ hr)))), h.cb, h.bc, h.fb, h.run, h.chg, h.mon, h.own⟩
theorem PIn.next (hf : PFit z X vb vs0 bw b3 b4 b5 b9 w1) (h : PIn z X R n B b vb vs0 ss0 bw b3 b4 b5 b9 x0 x1 x2 x3 x4 F w1 REST wr box ss vs c ch) {vs' : Value} {box' : List Rng} {s : Stp} {REST' : List Tsk}
    (hP : PSt w2 bw b3 b4 b5 b9 x0 x1 x2 x3 x4 b (c + 1) vb box' vs' (ss ++ [s]) true) (k : Fx (StX bw b5 b9 vb vs) wr w2) (ho : vs'.ownBlock = vs.ownBlock ∨ ∀ q, vs'.ownBlock = some q → wr.heap.size ≤ q) (hc : c < b)
    (hfb : fineBox n box') (e : runT B ⟨ss ++ [s], box', true, true⟩ REST' = F) : PIn z X R n B b vb vs0 ss0 bw b3 b4 b5 b9 x0 x1 x2 x3 x4 F w1 REST' w2 box' (ss ++ [s]) vs' (c + 1) true := by
  obtain ⟨h1, h2⟩ := h.stX hf k
  have hm := h.mon
  have hb := h.bc
  refine ⟨hP, h1, h2, hc, by simp; omega, hfb, e, ?_, by simp; omega, ?_⟩
  · rw [decide_eq_false (by simp; omega)]
    rfl
  · rcases ho with e1 | e1
    · rw [e1]
      exact h.own
    · exact .inr fun q hq => Nat.le_trans (Nat.le_trans hf.zw h.fx.size) (e1 q hq)
end
theorem PSt.new {w : World} {bw : Nat} {x0 x1 x2 x3 x4 : Value} {b c : Nat} {vb vs : Value} {box : List Rng} {ss : List Stp} (hW : Bx w bw [x0, x1, x2, x3, x4, .int .i64 (b : Int), .int .i64 (c : Int)]) (hO : Own encRng 57 2 0 w vb box) (hS : Own encStp 54 3 0 w vs ss)
    (hne : ∀ q, vb.ownBlock = some q → q ≠ bw) (hns : ∀ q, vs.ownBlock = some q → q ≠ bw ∧ vb.ownBlock ≠ some q) :
    Kp w ((((w.alloc (.cells #[.pointer (some ⟨bw, 0, none⟩)] 60)).alloc (.cells #[vb] 22)).alloc (.cells #[vs] 31)).alloc (.cells #[.bool false] 4)) ∧ PSt ((((w.alloc (.cells #[.pointer (some ⟨bw, 0, none⟩)] 60)).alloc (.cells #[vb] 22)).alloc (.cells #[vs] 31)).alloc (.cells #[.bool false] 4)) bw w.heap.size (w.heap.size + 1) (w.heap.size + 1 + 1) (w.heap.size + 1 + 1 + 1) x0 x1 x2 x3 x4 b c vb box vs ss false := by
  have hl := hW.lt (by simp)
  have k1 := (Kp.refl w).alloc (.cells #[.pointer (some ⟨bw, 0, none⟩)] 60)
  have B1 := Bx.new w #[.pointer (some ⟨bw, 0, none⟩)] 60
  have s1 := World.size_alloc w (.cells #[.pointer (some ⟨bw, 0, none⟩)] 60)
  generalize w.alloc (.cells #[.pointer (some ⟨bw, 0, none⟩)] 60) = w1 at *
  have k2 := (Kp.refl w1).alloc (.cells #[vb] 22)
  have B2 := Bx.new w1 #[vb] 22
  have s2 := World.size_alloc w1 (.cells #[vb] 22)
  generalize w1.alloc (.cells #[vb] 22) = w2 at *
  have k3 := (Kp.refl w2).alloc (.cells #[vs] 31)
  have B3 := Bx.new w2 #[vs] 31
  have s3 := World.size_alloc w2 (.cells #[vs] 31)
  generalize w2.alloc (.cells #[vs] 31) = w3 at *
  have k4 := (Kp.refl w3).alloc (.cells #[.bool false] 4)
  have B4 := Bx.new w3 #[.bool false] 4
  generalize w3.alloc (.cells #[.bool false] 4) = w4 at *
  have hb := hO.blk_lt
  have hs := hS.blk_lt
  rw [s1] at B2
  rw [s2, s1] at B3
  rw [s3, s2, s1] at B4
  refine ⟨((k1.trans k2).trans k3).trans k4, ⟨((B1.kp k2 (by omega)).kp k3 (by omega)).kp k4 (by omega), (B2.kp k3 (by omega)).kp k4 (by omega), B3.kp k4 (by omega), B4, (((hW.kp k1 hl).kp k2 (by omega)).kp k3 (by omega)).kp k4 (by omega),
    (((hO.kp k1).kp k2).kp k3).kp k4, (((hS.kp k1).kp k2).kp k3).kp k4, ?_, ?_, ?_⟩⟩
  · simp only [List.nodup_cons, List.mem_cons, List.not_mem_nil, or_false, not_or, List.nodup_nil, not_false_eq_true, and_true]
    omega
  · intro q hq
    have h1 := hb q hq
    have h2 := hne q hq
    simp only [List.mem_cons, List.not_mem_nil, or_false, not_or]
    omega
  · intro q hq
    have h1 := hs q hq
    have h2 := hns q hq
    refine ⟨?_, h2.2⟩
    simp only [List.mem_cons, List.not_mem_nil, or_false, not_or]
    omega
/-- how a pass ends -/
structure PEnd (w w' : World) (n B b : Nat) (vb vs0 : Value) (ss0 : List Stp) (bw : Nat) (x0 x1 x2 x3 x4 : Value) (F : PX) (vs : Value) (ch : Bool) (box : List Rng) (c : Nat) : Prop where
  wk : Bx w' bw [x0, x1, x2, x3, x4, .int .i64 (b : Int), .int .i64 (c : Int)]
  own : Own encRng 57 2 0 w' vb box
  len : box.length = n
  opn : F.opn = true → box = F.box ∧ fineBox n box ∧ ch = !decide (F.steps.length = ss0.length)
  stp : Own encStp 54 3 0 w' vs F.steps
  cb : c ≤ b
  bc : B + c = b + F.steps.length
  fx : Fx (PZ bw vb vs0) w w'
  blk : vs.ownBlock = vs0.ownBlock ∨ ∀ q, vs.ownBlock = some q → w.heap.size ≤ q
def PassR (w : World) (n B b : Nat) (vb vs0 : Value) (ss0 : List Stp) (bw : Nat) (x0 x1 x2 x3 x4 : Value) (F : PX) (e : Ending) (w' : World) : Prop :=
  (F.fine = false ∧ e = .panicked Pn ∧ Fx (PZ bw vb vs0) w w') ∨
  (F.fine = true ∧ ∃ vs ch box c, e = .returned (.tuple #[vs, .bool ch, .bool (!F.opn)]) ∧ PEnd w w' n B b vb vs0 ss0 bw x0 x1 x2 x3 x4 F vs ch box c)
theorem py_pz {w : World} {z bw : Nat} {vb vs0 : Value} (hz : w.heap.size = z) : ∀ q, q < w.heap.size → PY z bw vb vs0 q → PZ bw vb vs0 q := fun q hq h => by
  rcases h with e | e | e | e
  · exact .inl e
  · exact .inr (.inl e)
  · exact .inr (.inr e)
  · omega
section
variable {w w1 w2 : World} {z : Nat} {X : Nat → Prop} {R : World → Prop} {n B b : Nat} {vb vs0 : Value} {ss0 : List Stp} {bw b3 b4 b5 b9 : Nat} {x0 x1 x2 x3 x4 : Value} {F : PX} {REST : List Tsk} {wr : World} {box : List Rng} {ss : List Stp} {vs : Value} {c : Nat} {ch : Bool}
theorem PIn.stop (k1 : Kp w w1) (hz : w.heap.size = z) (h : PIn z X R n B b vb vs0 ss0 bw b3 b4 b5 b9 x0 x1 x2 x3 x4 F w1 REST wr box ss vs c ch) (hs : F.steps = ss) (ch' : Bool) (ho : F.opn = true → box = F.box ∧ ch' = ch) : PEnd w wr n B b vb vs0 ss0 bw x0 x1 x2 x3 x4 F vs ch' box c :=
  ⟨h.ps.wk, h.ps.own, h.fb.1, fun e => ⟨(ho e).1, h.fb, by rw [(ho e).2, hs]; exact h.chg⟩, by rw [hs]; exact h.ps.stp, h.cb, by rw [hs]; exact h.bc, h.fx.below k1 (py_pz hz), by rw [hz]; exact h.own⟩
/-- a pass that ends with a step that leaves nothing -/
theorem PIn.close (hf : PFit z X vb vs0 bw b3 b4 b5 b9 w1) (k1 : Kp w w1) (hz : w.heap.size = z) (h : PIn z X R n B b vb vs0 ss0 bw b3 b4 b5 b9 x0 x1 x2 x3 x4 F w1 REST wr box ss vs c ch) {vs' : Value} {box' : List Rng} {s : Stp} {ch1 : Bool}
    (hP : PSt w2 bw b3 b4 b5 b9 x0 x1 x2 x3 x4 b (c + 1) vb box' vs' (ss ++ [s]) ch1) (hb : box'.length = n) (k : Fx (StX bw b5 b9 vb vs) wr w2) (ho : vs'.ownBlock = vs.ownBlock ∨ ∀ q, vs'.ownBlock = some q → wr.heap.size ≤ q) (hc : c < b)
    (hs : F.steps = ss ++ [s]) (hop : F.opn = false) : PEnd w w2 n B b vb vs0 ss0 bw x0 x1 x2 x3 x4 F vs' true box' (c + 1) := by
  obtain ⟨h1, h2⟩ := h.stX hf k
  have hbc := h.bc
  refine ⟨hP.wk, hP.own, hb, (fun e => by rw [hop] at e; cases e), by rw [hs]; exact hP.stp, hc, by rw [hs]; simp; omega, h2.below k1 (py_pz hz), ?_⟩
  rw [hz]
  rcases ho with e1 | e1
  · rw [e1]
    exact h.own
  · exact .inr fun q hq => Nat.le_trans (Nat.le_trans hf.zw h.fx.size) (e1 q hq)
/-- .. which is not laid into the variable -/
theorem PIn.dead (hf : PFit z X vb vs0 bw b3 b4 b5 b9 w1) (k1 : Kp w w1) (hz : w.heap.size = z) (h : PIn z X R n B b vb vs0 ss0 bw b3 b4 b5 b9 x0 x1 x2 x3 x4 F w1 REST wr box ss vs c ch) {wa : World} (hB : Bx wa bw [x0, x1, x2, x3, x4, .int .i64 (b : Int), .int .i64 ((c + 1 : Nat) : Int)]) (ka : Fx (fun k => k = bw) wr wa) (o : Obj) {vs' : Value} {s : Stp}
    (hO : Own encStp 54 3 0 w2 vs' (ss ++ [s])) (hg : (wa.alloc o).grownBy w2 vs.ownBlock) (hat : vs'.ownBlock = vs.ownBlock ∨ vs'.ownBlock = some (wa.alloc o).heap.size) (hc : c < b) (hs : F.steps = ss ++ [s]) (hop : F.opn = false) :
    PEnd w w2 n B b vb vs0 ss0 bw x0 x1 x2 x3 x4 F vs' true box (c + 1) := by
  have hbc := h.bc
  have hP := h.ps.spent hB ka
  have k2 : Fx (fun q => vs.ownBlock = some q) wa w2 := (((Kp.refl wa).alloc o).fx _).grown hg (fun g hg => .inl hg)
  have kk : Fx (StX bw b5 b9 vb vs) wr w2 := (ka.mono fun q _ e => .inl e).trans (k2.mono fun q _ e => .inr (.inr (.inr (.inr e))))
  obtain ⟨h1, h2⟩ := h.stX hf kk
  have hwl := hP.wk.lt (by simp)
  refine ⟨hP.wk.fx k2 hwl (fun e => (ni5 (hP.ns _ e).1).1 rfl), hP.own.fx k2 (fun q hq e => (hP.ns q e).2 hq), h.fb.1, (fun e => by rw [hop] at e; cases e), by rw [hs]; exact hO, hc, by rw [hs]; simp; omega, h2.below k1 (py_pz hz), ?_⟩
  rw [hz]
  rcases hat with e1 | e1
  · rw [e1]
    exact h.own
  · refine .inr fun q hq => ?_
    rw [e1] at hq
    injection hq with hq
    have hzl := Nat.le_trans (Nat.le_trans hf.zw h.fx.size) ka.size
    rw [World.size_alloc] at hq
    omega
theorem PIn.panic (k1 : Kp w w1) (hz : w.heap.size = z) (h : PIn z X R n B b vb vs0 ss0 bw b3 b4 b5 b9 x0 x1 x2 x3 x4 F w1 REST wr box ss vs c ch) (k : Kp wr w2) (hF : F.fine = false) : PassR w n B b vb vs0 ss0 bw x0 x1 x2 x3 x4 F (.panicked Pn) w2 :=
  .inl ⟨hF, rfl, (h.fx.trans (k.fx _)).below k1 (py_pz hz)⟩
end
end Go.Proofs.YtlbhidiliogflaaGreat
