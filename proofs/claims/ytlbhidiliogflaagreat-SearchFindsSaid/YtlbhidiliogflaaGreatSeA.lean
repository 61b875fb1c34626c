
/-
Search: what has changed; spend; a step of a pass: the walks.
-/
import Derived.Test.YtlbhidiliogflaaGreatSeP
import Derived.Test.YtlbhidiliogflaaGreatFX
namespace Go.Proofs.YtlbhidiliogflaaGreat
set_option linter.unusedSimpArgs false
set_option linter.unusedVariables false
open Go.RowKit

/-- the panic of a search whose budget is used up -/
def Pn : List PanicEntry := [{ v := .iface 89 (.agg #[]), recovered := false }]
theorem Fx.set1 {X : Nat → Prop} {a w : World} (h : Fx X a w) (p : Addr) (v : Value) (hp : X p.block ∨ a.heap.size ≤ p.block) : Fx X a (w.setCell p v) :=
  ⟨h.os, h.tape, h.output, Nat.le_trans h.size (Nat.le_of_eq (set_size w p v).symm), fun i hi hx => (set_block w p v i (fun e => by
    rcases hp with hp | hp
    · exact hx (e ▸ hp)
    · omega)).trans (h.block i hi hx)⟩
theorem Bx.fx {X : Nat → Prop} {w w' : World} {b : Nat} {cs : List Value} (h : Bx w b cs) (k : Fx X w w') (hl : b < w.heap.size) (hx : ¬ X b) : Bx w' b cs := h.keep (k.block b hl hx)
theorem Own.fx {α : Type} {enc : α → List Value} {e size base : Nat} {w w' : World} {v : Value} {l : List α} {X : Nat → Prop} (h : Own enc e size base w v l) (k : Fx X w w') (hx : ∀ q, v.ownBlock = some q → ¬ X q) : Own enc e size base w' v l :=
  h.owS w' k.size fun q hq hl => k.block q hl (hx q hq)
theorem Own.isSl {α : Type} {enc : α → List Value} {e size base : Nat} {w : World} {v : Value} {l : List α} (h : Own enc e size base w v l) : ∃ A n c, v = .slice A n c := by
  obtain ⟨A, c, h, -⟩ := h.form
  exact ⟨A, _, c, h⟩
theorem Fx.kp_of {W0 w w' : World} {X : Nat → Prop} (h : Fx X w w') (h0 : Kp W0 w) (hx : ∀ k, X k → W0.heap.size ≤ k) : Kp W0 w' :=
  ⟨h.os.trans h0.os, h.tape.trans h0.tape, h.output.trans h0.output, Nat.le_trans h0.size h.size, fun i hi => (h.block i (Nat.lt_of_lt_of_le hi h0.size) (fun e => by have := hx i e; omega)).trans (h0.block hi)⟩
theorem kp_fx {W0 w w' : World} {X : Nat → Prop} (h0 : Kp W0 w) (h : Fx X w w') : Fx X W0 w' ∨ True := .inr trivial
/-- R in every later world in which at most X has changed -/
def OwF (X : Nat → Prop) (w : World) (R : World → Prop) : Prop := ∀ w', Fx X w w' → R w'
theorem OwF.here {X : Nat → Prop} {w : World} {R : World → Prop} (h : OwF X w R) : R w := h w (Fx.refl X w)
theorem OwF.fx {X : Nat → Prop} {w w' : World} {R : World → Prop} (h : OwF X w R) (k : Fx X w w') : OwF X w' R := fun w2 h2 => h w2 (k.trans h2)
theorem OwF.mono {X Y : Nat → Prop} {w : World} {R : World → Prop} (h : OwF X w R) (k : ∀ q, Y q → X q) : OwF Y w R := fun w2 h2 => h w2 (h2.mono fun q _ hq => k q hq)
/-- what is new may change -/
theorem OwF.more {X : Nat → Prop} {w w' : World} {R : World → Prop} (h : OwF X w R) (k : Fx X w w') : OwF (fun q => X q ∨ w.heap.size ≤ q) w' R := fun w2 h2 =>
  h w2 ⟨h2.os.trans k.os, h2.tape.trans k.tape, h2.output.trans k.output, Nat.le_trans k.size h2.size, fun i hi hx => (h2.block i (Nat.lt_of_lt_of_le hi k.size) (fun e => by
    rcases e with e | e
    · exact hx e
    · omega)).trans (k.block i hi hx)⟩
theorem OwF.of {W0 w : World} {R : World → Prop} (h : ∀ w', Kp W0 w' → R w') (k : Kp W0 w) : OwF (fun q => W0.heap.size ≤ q) w R := fun _ h2 => h _ (h2.kp_of k fun _ hq => hq)
theorem OwF.imp {X : Nat → Prop} {w : World} {R Q : World → Prop} (h : OwF X w R) (hi : ∀ w', R w' → Q w') : OwF X w Q := fun w' h1 => hi w' (h w' h1)

set_option maxHeartbeats 1000000 in
theorem spend_any (bw : Nat) (x0 x1 x2 x3 x4 : Value) (b c : Nat) (w : World) (hB : Bx w bw [x0, x1, x2, x3, x4, .int .i64 (b : Int), .int .i64 (c : Int)]) (hc : c ≤ b) (hb : b ≤ 65536) :
    Calls Tryz.prog 43 #[.pointer (some ⟨bw, 0, none⟩)] w fun e w' => (c = b ∧ e = .panicked Pn ∧ Kp w w') ∨ (c < b ∧ e = .returned (.tuple #[]) ∧ Bx w' bw [x0, x1, x2, x3, x4, .int .i64 (b : Int), .int .i64 ((c + 1 : Nat) : Int)] ∧ Fx (fun k => k = bw) w w') := by
  have c5 := hB.cell (j := 5) rfl
  have c6 := hB.cell (j := 6) rfl
  have hl := hB.lt (by simp)
  have f6 := hB.free (j := 6) (by simp)
  by_cases h : c = b
  · subst h
    clear f6
    have e1 : ((c : Int) == (c : Int)) = true := by simp
    go_enter Tryz.func43, Tryz.ntmps43
    go_wp2_with fail
    refine wp_region_kw (by kernel_rfl) (by kernel_rfl) ?_
    repeat (go_big_quiet_step ((fail)))
    refine wpQuiet_nil ?_
    intro _ hw'
    obtain ⟨u, hw''⟩ := hw'
    subst hw''
    go_wp2
    exact ⟨rfl, .inl ⟨trivial, rfl, kw_kp w u⟩⟩
  · have e1 : ((c : Int) == (b : Int)) = false := by simp; omega
    have hw1 : wrap64 ((c : Int) + 1) = ((c + 1 : Nat) : Int) := by rw [IntWalk.wrap64_in _ (by omega)]; omega
    have hlt : c < b := by omega
    have hB' := hB.set (j := 6) (by simp) (.int .i64 ((c + 1 : Nat) : Int))
    go_enter Tryz.func43, Tryz.ntmps43
    go_wp2_with fail
    refine wp_region_kw (by kernel_rfl) (by kernel_rfl) ?_
    repeat (go_big_quiet_step ((fail)))
    refine wpQuiet_nil ?_
    intro _ hw'
    obtain ⟨u, hw''⟩ := hw'
    subst hw''
    have hB1 := hB.kp (kw_kp w u) hl
    have ku := kw_kp w u
    generalize Kw w u = w1 at *
    have d6 := hB1.cell (j := 6) rfl
    have g6 := hB1.free (j := 6) (by simp)
    have hB2 := hB1.set (j := 6) (by simp) (.int .i64 ((c + 1 : Nat) : Int))
    have k2 := (ku.fx (fun k => k = bw)).set1 ⟨bw, 6, none⟩ (.int .i64 ((c + 1 : Nat) : Int)) (.inl rfl)
    clear c5 c6 f6 hB hB' hB1 ku
    go_wp2
    go_end0
    exact .inr ⟨hlt, rfl, hB2, k2⟩

set_option maxRecDepth 100000 in
theorem run_eql_rng (w : World) (a b c d : Int) : (binOp .eql 57 (.agg #[.int .i64 a, .int .i64 b]) (.agg #[.int .i64 c, .int .i64 d])).run Tryz.prog w = .ok (.bool (sameR ⟨a, b⟩ ⟨c, d⟩)) w := by
  unfold sameR
  have hu : Tryz.prog.underlying 57 = some (.struct (Tryz.prog.fieldsOf 57)) := by kernel_rfl
  have hf := run_equalIn_struct (P := Tryz.prog) w 9999 57 #[.int .i64 a, .int .i64 b] #[.int .i64 c, .int .i64 d] hu (by kernel_rfl)
  simp only [binOp]
  have hfs : (Tryz.prog.fieldsOf 57).toList = (match Tryz.prog.underlying 57 with | some (.struct fs) => fs.toList | _ => []) := rfl
  rw [Tryz.underlying57] at hfs
  simp only [Op.equal, Op.maxDepth, Sem.run_bind, hf, hfs]
  go_simp
  by_cases h1 : a = c
  · by_cases h2 : b = d <;> simp [h1, h2]
  · simp [h1]
/-- the blocks are different ones -/
theorem nd5 {a b c d e : Nat} (h : [a, b, c, d, e].Nodup) : (a ≠ b ∧ a ≠ c ∧ a ≠ d ∧ a ≠ e) ∧ (b ≠ c ∧ b ≠ d ∧ b ≠ e) ∧ (c ≠ d ∧ c ≠ e) ∧ d ≠ e := by
  simp only [List.nodup_cons, List.mem_cons, List.not_mem_nil, or_false, not_or] at h
  exact ⟨h.1, h.2.1, h.2.2.1, h.2.2.2.1⟩
theorem ni5 {a b c d e q : Nat} (h : q ∉ [a, b, c, d, e]) : q ≠ a ∧ q ≠ b ∧ q ≠ c ∧ q ≠ d ∧ q ≠ e := by
  simp only [List.mem_cons, List.not_mem_nil, or_false, not_or] at h
  exact h
theorem stStp : SliceT Tryz.prog 31 54 3 24 := SliceT.mk' Tryz.underlying31 (z := .agg #[.int .i64 0, .int .i64 0, .int .i64 0]) (by kernel_rfl) rfl (by omega)
/-- a pass under way: w's block bw, the variables' blocks b3, b4, b5, b9 -/
structure PSt (w : World) (bw b3 b4 b5 b9 : Nat) (x0 x1 x2 x3 x4 : Value) (b c : Nat) (vb : Value) (box : List Rng) (vs : Value) (ss : List Stp) (ch : Bool) : Prop where
  w3 : Bx w b3 [.pointer (some ⟨bw, 0, none⟩)]
  w4 : Bx w b4 [vb]
  w5 : Bx w b5 [vs]
  w9 : Bx w b9 [.bool ch]
  wk : Bx w bw [x0, x1, x2, x3, x4, .int .i64 (b : Int), .int .i64 (c : Int)]
  own : Own encRng 57 2 0 w vb box
  stp : Own encStp 54 3 0 w vs ss
  nd : [bw, b3, b4, b5, b9].Nodup
  nb : ∀ q, vb.ownBlock = some q → q ∉ [bw, b3, b4, b5, b9]
  ns : ∀ q, vs.ownBlock = some q → q ∉ [bw, b3, b4, b5, b9] ∧ vb.ownBlock ≠ some q
section
variable {w w' : World} {bw b3 b4 b5 b9 : Nat} {x0 x1 x2 x3 x4 : Value} {b c : Nat} {vb : Value} {box : List Rng} {vs : Value} {ss : List Stp} {ch : Bool}
theorem PSt.fx {X : Nat → Prop} (h : PSt w bw b3 b4 b5 b9 x0 x1 x2 x3 x4 b c vb box vs ss ch) (k : Fx X w w') (hx : ∀ q, q ∈ [bw, b3, b4, b5, b9] ∨ vb.ownBlock = some q ∨ vs.ownBlock = some q → ¬ X q) : PSt w' bw b3 b4 b5 b9 x0 x1 x2 x3 x4 b c vb box vs ss ch :=
  ⟨h.w3.fx k (h.w3.lt (by simp)) (hx _ (by simp)), h.w4.fx k (h.w4.lt (by simp)) (hx _ (by simp)), h.w5.fx k (h.w5.lt (by simp)) (hx _ (by simp)), h.w9.fx k (h.w9.lt (by simp)) (hx _ (by simp)), h.wk.fx k (h.wk.lt (by simp)) (hx _ (by simp)),
    h.own.fx k (fun q hq => hx q (.inr (.inl hq))), h.stp.fx k (fun q hq => hx q (.inr (.inr hq))), h.nd, h.nb, h.ns⟩
theorem PSt.kp (h : PSt w bw b3 b4 b5 b9 x0 x1 x2 x3 x4 b c vb box vs ss ch) (k : Kp w w') : PSt w' bw b3 b4 b5 b9 x0 x1 x2 x3 x4 b c vb box vs ss ch := h.fx (k.fx fun _ => False) fun _ _ h => h
end
section
variable {w w' : World} {bw b3 b4 b5 b9 : Nat} {x0 x1 x2 x3 x4 : Value} {b c : Nat} {box : List Rng} {vs : Value} {ss : List Stp} {ch : Bool}
theorem PSt.spent {vb : Value} (h : PSt w bw b3 b4 b5 b9 x0 x1 x2 x3 x4 b c vb box vs ss ch) {d : Nat} (hB : Bx w' bw [x0, x1, x2, x3, x4, .int .i64 (b : Int), .int .i64 (d : Int)]) (k : Fx (fun k => k = bw) w w') : PSt w' bw b3 b4 b5 b9 x0 x1 x2 x3 x4 b d vb box vs ss ch := by
  obtain ⟨⟨n1, n2, n3, n4⟩, -⟩ := nd5 h.nd
  exact ⟨h.w3.fx k (h.w3.lt (by simp)) (fun e => n1 e.symm), h.w4.fx k (h.w4.lt (by simp)) (fun e => n2 e.symm), h.w5.fx k (h.w5.lt (by simp)) (fun e => n3 e.symm), h.w9.fx k (h.w9.lt (by simp)) (fun e => n4 e.symm), hB,
    h.own.fx k (fun q hq e => (ni5 (h.nb q hq)).1 e), h.stp.fx k (fun q hq e => (ni5 (h.ns q hq).1).1 e), h.nd, h.nb, h.ns⟩
theorem PSt.stored {g n cb j : Nat} {r : Rng} (h : PSt w bw b3 b4 b5 b9 x0 x1 x2 x3 x4 b c (.slice (some ⟨g, 0, none⟩) n cb) box vs ss ch) (hn : n = box.length) (hj : j < box.length) :
    PSt (((w.setCell ⟨g, j * 2, none⟩ (.int .i64 r.lo)).setCell ⟨g, j * 2 + 1, none⟩ (.int .i64 r.hi)).setCell ⟨b9, 0, none⟩ (.bool true)) bw b3 b4 b5 b9 x0 x1 x2 x3 x4 b c (.slice (some ⟨g, 0, none⟩) n cb) (box.set j r) vs ss true := by
  obtain ⟨⟨n1, n2, n3, n4⟩, ⟨n5, n6, n7⟩, ⟨n8, n9⟩, n10⟩ := nd5 h.nd
  obtain ⟨m1, m2, m3, m4, m5⟩ := ni5 (h.nb g rfl)
  have hq := fun q hq => ni5 (h.ns q hq).1
  have hg := fun q hq (e : q = g) => (h.ns q hq).2 (by rw [e]; rfl)
  have k1 : Fx (fun k => k = g) w ((w.setCell ⟨g, j * 2, none⟩ (.int .i64 r.lo)).setCell ⟨g, j * 2 + 1, none⟩ (.int .i64 r.hi)) := ((Fx.refl (fun k => k = g) w).set1 ⟨g, j * 2, none⟩ _ (.inl rfl)).set1 ⟨g, j * 2 + 1, none⟩ _ (.inl rfl)
  have ho := Own.rngSet h.own hn hj r
  generalize (w.setCell ⟨g, j * 2, none⟩ (.int .i64 r.lo)).setCell ⟨g, j * 2 + 1, none⟩ (.int .i64 r.hi) = w1 at *
  have k2 : Fx (fun k => k = b9) w1 (w1.setCell ⟨b9, 0, none⟩ (.bool true)) := (Fx.refl (fun k => k = b9) w1).set1 ⟨b9, 0, none⟩ _ (.inl rfl)
  have h9 := (h.w9.fx k1 (h.w9.lt (by simp)) (Ne.symm m5)).set (j := 0) (by simp) (.bool true)
  have hs := k1.size
  exact ⟨(h.w3.fx k1 (h.w3.lt (by simp)) (Ne.symm m2)).fx k2 (Nat.lt_of_lt_of_le (h.w3.lt (by simp)) hs) n7, (h.w4.fx k1 (h.w4.lt (by simp)) (Ne.symm m3)).fx k2 (Nat.lt_of_lt_of_le (h.w4.lt (by simp)) hs) n9,
    (h.w5.fx k1 (h.w5.lt (by simp)) (Ne.symm m4)).fx k2 (Nat.lt_of_lt_of_le (h.w5.lt (by simp)) hs) n10, h9, (h.wk.fx k1 (h.wk.lt (by simp)) (Ne.symm m1)).fx k2 (Nat.lt_of_lt_of_le (h.wk.lt (by simp)) hs) n4,
    ho.fx k2 (fun q hq e => m5 (by injection hq with hq; exact hq.trans e)), (h.stp.fx k1 (fun q hq e => hg q hq e)).fx k2 (fun q hq' e => (hq q hq').2.2.2.2 e), h.nd, h.nb, h.ns⟩
theorem PSt.appended {vb : Value} (h : PSt w bw b3 b4 b5 b9 x0 x1 x2 x3 x4 b c vb box vs ss ch) (o : Obj) {v' : Value} {ss' : List Stp} (ho : Own encStp 54 3 0 w' v' ss') (hg : (w.alloc o).grownBy w' vs.ownBlock) (hat : v'.ownBlock = vs.ownBlock ∨ v'.ownBlock = some (w.alloc o).heap.size) :
    PSt (w'.setCell ⟨b5, 0, none⟩ v') bw b3 b4 b5 b9 x0 x1 x2 x3 x4 b c vb box v' ss' ch ∧ Fx (fun k => k = b5 ∨ vs.ownBlock = some k) w (w'.setCell ⟨b5, 0, none⟩ v') ∧ Fx (fun k => vs.ownBlock = some k) w w' := by
  obtain ⟨⟨n1, n2, n3, n4⟩, ⟨n5, n6, n7⟩, ⟨n8, n9⟩, n10⟩ := nd5 h.nd
  have hq := fun q hq => ni5 (h.ns q hq).1
  have k0 : Fx (fun k => vs.ownBlock = some k) w (w.alloc o) := ((Kp.refl w).alloc o).fx _
  have k1 : Fx (fun k => vs.ownBlock = some k) w w' := k0.grown hg (fun g hg => .inl hg)
  have k2 : Fx (fun k => k = b5) w' (w'.setCell ⟨b5, 0, none⟩ v') := (Fx.refl (fun k => k = b5) w').set1 ⟨b5, 0, none⟩ _ (.inl rfl)
  have hs := k1.size
  have hz := alloc_lt w o
  have l5 := h.w5.lt (by simp)
  have hv : ∀ q, v'.ownBlock = some q → vs.ownBlock = some q ∨ w.heap.size < q := fun q hq => by
    rcases hat with e | e
    · exact .inl (e ▸ hq)
    · rw [e] at hq
      injection hq with hq
      exact .inr (by omega)
  have hv5 : ∀ q, v'.ownBlock = some q → q ≠ b5 := fun q hq' e => by
    rcases hv q hq' with h1 | h1
    · exact (hq q h1).2.2.2.1 e
    · omega
  have old : ∀ q, q ∈ [bw, b3, b4, b5, b9] → q < w.heap.size := fun q hm => by
    simp only [List.mem_cons, List.not_mem_nil, or_false] at hm
    rcases hm with rfl | rfl | rfl | rfl | rfl
    · exact h.wk.lt (by simp)
    · exact h.w3.lt (by simp)
    · exact h.w4.lt (by simp)
    · exact h.w5.lt (by simp)
    · exact h.w9.lt (by simp)
  refine ⟨⟨?_, ?_, ?_, ?_, ?_, ?_, ?_, h.nd, h.nb, ?_⟩, ?_, k1⟩
  · exact (h.w3.fx k1 (old _ (by simp)) (fun e => (hq _ e).2.1 rfl)).fx k2 (Nat.lt_of_lt_of_le (old _ (by simp)) hs) n6
  · exact (h.w4.fx k1 (old _ (by simp)) (fun e => (hq _ e).2.2.1 rfl)).fx k2 (Nat.lt_of_lt_of_le (old _ (by simp)) hs) n8
  · exact (h.w5.fx k1 (old _ (by simp)) (fun e => (hq _ e).2.2.2.1 rfl)).set (j := 0) (by simp) v'
  · exact (h.w9.fx k1 (old _ (by simp)) (fun e => (hq _ e).2.2.2.2 rfl)).fx k2 (Nat.lt_of_lt_of_le (old _ (by simp)) hs) (Ne.symm n10)
  · exact (h.wk.fx k1 (old _ (by simp)) (fun e => (hq _ e).1 rfl)).fx k2 (Nat.lt_of_lt_of_le (old _ (by simp)) hs) n3
  · exact (h.own.fx k1 (fun q hb e => (h.ns q e).2 hb)).fx k2 (fun q hb e => (ni5 (h.nb q hb)).2.2.2.1 e)
  · exact ho.fx k2 (fun q hb e => hv5 q hb e)
  · intro q hb
    rcases hv q hb with h1 | h1
    · exact h.ns q h1
    · refine ⟨fun hm => ?_, fun e => ?_⟩
      · have := old q hm
        omega
      · have := h.own.blk_lt q e
        omega
  · exact (k1.mono fun _ _ e => .inr e).trans (k2.mono fun _ _ e => .inl e)
end
/-- what a step changes -/
def StX (bw b5 b9 : Nat) (vb vs : Value) (k : Nat) : Prop := k = bw ∨ k = b5 ∨ k = b9 ∨ vb.ownBlock = some k ∨ vs.ownBlock = some k
set_option maxRecDepth 8000 in
set_option maxHeartbeats 4000000 in
theorem pass1_any (bw b3 b4 b5 b9 : Nat) (x0 x1 x2 x3 x4 : Value) (b c : Nat) (vb : Value) (box : List Rng) (vs : Value) (ss : List Stp) (ch : Bool) (kd ix : Int) (j : Nat) (lo hi : Int) (w : World)
    (hP : PSt w bw b3 b4 b5 b9 x0 x1 x2 x3 x4 b c vb box vs ss ch) (hc : c ≤ b) (hb : b ≤ 65536) (hj : j < box.length) (hsl : ss.length ≤ 65536) :
    Calls Tryz.prog 74 #[.int .i64 kd, .int .i64 ix, .int .i64 (j : Int), .agg #[.int .i64 lo, .int .i64 hi], .pointer (some ⟨b4, 0, none⟩), .pointer (some ⟨b3, 0, none⟩), .pointer (some ⟨b9, 0, none⟩), .pointer (some ⟨b5, 0, none⟩)] w fun e w' =>
      (sameR ⟨lo, hi⟩ (pick box j) = true ∧ e = .returned (.bool false) ∧ Kp w w') ∨
      (sameR ⟨lo, hi⟩ (pick box j) = false ∧ c = b ∧ e = .panicked Pn ∧ Kp w w') ∨
      (sameR ⟨lo, hi⟩ (pick box j) = false ∧ c < b ∧ e = .returned (.bool (emptyR ⟨lo, hi⟩)) ∧ ∃ vs', PSt w' bw b3 b4 b5 b9 x0 x1 x2 x3 x4 b (c + 1) vb (box.set j ⟨lo, hi⟩) vs' (ss ++ [⟨kd, ix, (j : Int)⟩]) true ∧
        Fx (StX bw b5 b9 vb vs) w w' ∧ (vs'.ownBlock = vs.ownBlock ∨ ∀ q, vs'.ownBlock = some q → w.heap.size ≤ q)) := by
  have hl3 := hP.w3.lt (by simp)
  have hl4 := hP.w4.lt (by simp)
  have hl5 := hP.w5.lt (by simp)
  have hl9 := hP.w9.lt (by simp)
  have hvr : ∀ q, vs.ownBlock = some q → q < w.heap.size := hP.stp.blk_lt
  have hlw := hP.wk.lt (by simp)
  obtain ⟨g, cb, rfl, hcb1, hcb2, -, hg⟩ := hP.own.row (by omega)
  obtain ⟨r0, r1⟩ := hP.own.rngCell rfl hj
  have hpk := pick_at box j hj
  have hEQ := fun W => run_eql_rng W lo hi box[j].lo box[j].hi
  have k0 := (Kp.refl w).alloc (.cells #[.int .i64 lo, .int .i64 hi] 57)
  have hR0 := Bx.new w #[.int .i64 lo, .int .i64 hi] 57
  go_enter Tryz.func74, Tryz.ntmps74
  go_upto_region 1 with (fail)
  generalize hw1 : w.alloc (.cells #[.int .i64 lo, .int .i64 hi] 57) = w1 at *
  have hP1 := hP.kp k0
  have hlr := hR0.lt (by simp)
  have s1 := alloc_lt w (.cells #[.int .i64 lo, .int .i64 hi] 57)
  rw [hw1] at s1
  generalize hr : w.heap.size = r at *
  have a0 := hR0.cell (j := 0) rfl
  have a1 := hR0.cell (j := 1) rfl
  have d4 := hP1.w4.cell (j := 0) rfl
  have d0 := k0.cellS r0
  have d1 := k0.cellS r1
  have m4 : b4 < w1.heap.size := by omega
  have mg : g < w1.heap.size := by omega
  have hji : (j : Int) < (box.length : Int) := by omega
  go_wp2_with fail
  refine wp_region_kw (by kernel_rfl) (by kernel_rfl) ?_
  repeat (go_big_quiet_step ((fail)))
  refine wpQuiet_nil ?_
  intro _ hw'
  obtain ⟨u, hw''⟩ := hw'
  subst hw''
  have ku := kw_kp w1 u
  generalize Kw w1 u = w2 at *
  have hS : sameR ⟨lo, hi⟩ ⟨box[j].lo, box[j].hi⟩ = sameR ⟨lo, hi⟩ (pick box j) := by rw [hpk]
  have hP2 := hP1.kp ku
  have hR2 := hR0.kp ku hlr
  have hl2 := ku.size
  have k2 := k0.trans ku
  clear hEQ a0 a1 d4 d0 d1 r0 r1 hP hP1 hR0 hpk ku hw1
  rw [hS]
  clear hS
  cases hc1 : sameR ⟨lo, hi⟩ (pick box j) with
  | true =>
    go_wp2
    go_ret
    exact .inl ⟨hc1, rfl, k2⟩
  | false =>
    have e3 := hP2.w3.cell (j := 0) rfl
    replace hc1 := hid hc1
    go_wp2_with fail
    refine (spend_any bw x0 x1 x2 x3 x4 b c w2 hP2.wk hc hb).mono ?_
    rintro e w3 (⟨h1, rfl, k3⟩ | ⟨h1, rfl, hB3, k3⟩)
    · clear e3
      go_wp2
      exact ⟨rfl, .inr (.inl ⟨hc1.out, h1, rfl, k2.trans k3⟩)⟩
    · clear e3
      have hP3 := hP2.spent hB3 k3
      have hl3' := k3.size
      have hR3 := hR2.fx k3 (by omega) (fun e => by omega)
      have hP4 := hP3.stored (r := ⟨lo, hi⟩) rfl hj
      have hj4 : j < (box.set j ⟨lo, hi⟩).length := by rw [List.length_set]; exact hj
      have z4 := hP3.w4.cell (j := 0) rfl
      have z0 := hR3.cell (j := 0) rfl
      have z1 := hR3.cell (j := 1) rfl
      obtain ⟨r0, r1⟩ := hP3.own.rngCell rfl hj
      have fg := fun o => hP3.own.frozen rfl o
      have f9 := hP3.w9.free (j := 0) (by simp)
      have z9 := hP3.w9.cell (j := 0) rfl
      obtain ⟨m1, m2, m3, m4', m5⟩ := ni5 (hP3.nb g rfl)
      have hR4 := ((hR3.keep (set_block w3 ⟨g, j * 2, none⟩ (.int .i64 lo) r (by show r ≠ g; omega))).keep (set_block _ ⟨g, j * 2 + 1, none⟩ (.int .i64 hi) r (by show r ≠ g; omega))).keep (set_block _ ⟨b9, 0, none⟩ (.bool true) r (by show r ≠ b9; omega))
      have k4 : Fx (StX bw b5 b9 (.slice (some ⟨g, 0, none⟩) box.length cb) vs) w3 (((w3.setCell ⟨g, j * 2, none⟩ (.int .i64 lo)).setCell ⟨g, j * 2 + 1, none⟩ (.int .i64 hi)).setCell ⟨b9, 0, none⟩ (.bool true)) :=
        (((Fx.refl _ w3).set1 ⟨g, j * 2, none⟩ _ (.inl (.inr (.inr (.inr (.inl rfl)))))).set1 ⟨g, j * 2 + 1, none⟩ _ (.inl (.inr (.inr (.inr (.inl rfl)))))).set1 ⟨b9, 0, none⟩ _ (.inl (.inr (.inr (.inl rfl))))
      have k24 := ((k2.fx (StX bw b5 b9 (.slice (some ⟨g, 0, none⟩) box.length cb) vs)).trans (k3.mono fun q _ hq => .inl hq)).trans k4
      go_upto_region 5 with (fail)
      generalize ((w3.setCell ⟨g, j * 2, none⟩ (.int .i64 lo)).setCell ⟨g, j * 2 + 1, none⟩ (.int .i64 hi)).setCell ⟨b9, 0, none⟩ (.bool true) = w4 at *
      clear z4 z0 z1 r0 r1 fg f9 z9 hP3 hR3 hP2 hR2 hB3 k3 k4 k2
      have hs4 := k24.size
      have q5 := hP4.w5.cell (j := 0) rfl
      have q5f := hP4.w5.free (j := 0) (by simp)
      have q5l := hP4.w5.lt (by simp)
      have hrl := hR4.lt (by simp)
      have hO5 := hP4.stp.alloc (.cells #[.int .i64 kd, .int .i64 ix, .int .i64 (j : Int)] 54)
      have hsl1 : ss.length + 1 ≤ 100000 := by omega
      go_wp2_with (at_builtin; refine wpl_append_flat rfl (.tmp 25) (.tmp 30) rfl stStp encStp_len encStp_one rfl (hO5) rfl (Sl.one w4 [.int .i64 kd, .int .i64 ix, .int .i64 (j : Int)] 54 3 (⟨kd, ix, (j : Int)⟩ : Stp) rfl rfl) (by first | omega | (simp; omega)) (by first | omega | (simp; omega)) (Nat.zero_le _) ?_; intro v1 w1 hown1 hgrow1 hat1 hnil1; obtain ⟨Av, nv, cv, rfl⟩ := hown1.isSl; obtain ⟨hP5, k5, k5'⟩ := hP4.appended _ hown1 hgrow1 hat1; have q6f : w1.frozen? ⟨b5, 0, none⟩ = false := (hP4.w5.fx k5' q5l (fun e => (ni5 (hP4.ns _ e).1).2.2.2.1 rfl)).free (j := 0) (by simp); have q6 := (hP4.w5.fx k5' q5l (fun e => (ni5 (hP4.ns _ e).1).2.2.2.1 rfl)).cell (j := 0) rfl; have hR5 := (hR4.fx k5 hrl (fun e => by rcases e with e | e; exact absurd e (by omega); exact absurd (hvr r e) (by omega))); have r0 := hR5.cell (j := 0) rfl; have r1 := hR5.cell (j := 1) rfl; clear q5 q5f hO5 hgrow1 hown1)
      go_ret
      refine .inr (.inr ⟨hc1.out, h1, rfl, _, hP5, k24.trans (k5.mono fun q _ e => ?_), ?_⟩)
      · rcases e with e | e
        · exact .inr (.inl e)
        · exact .inr (.inr (.inr (.inr e)))
      · rcases hat1 with e | e
        · exact .inl e
        · refine .inr fun q hq => ?_
          rw [e] at hq
          injection hq with hq
          rw [World.size_alloc] at hq
          omega
end Go.Proofs.YtlbhidiliogflaaGreat
