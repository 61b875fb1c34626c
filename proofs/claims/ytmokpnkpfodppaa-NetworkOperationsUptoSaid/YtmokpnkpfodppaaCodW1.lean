
/-
The writer's memory: its cell and its row; what a call of it keeps.
-/
import Derived.Test.YtmokpnkpfodppaaLib
namespace Go.Proofs.Ytmokpnkpfodppaa
set_option linter.unusedSimpArgs false
set_option linter.unusedVariables false
open Go.RowKit

theorem append_types {P : Program} {t t' e e' : Nat} (ht : P.underlying t = some (.slice e)) (ht' : P.underlying t' = some (.slice e')) (ty : TypeId) (args : Array Value) (w : World) :
    (Builtin.append_ #[t, t'] ty args).run P w = (Builtin.append_ #[t, t] ty args).run P w := by
  unfold Builtin.append_
  cases h0 : args[0]? with
  | none => simp [h0]
  | some s =>
    cases h1 : args[1]? with
    | none => simp [h0, h1]
    | some x => cases s <;> simp [h0, h1, Sem.run_bind, run_underlying ht, run_underlying ht']

/-- the block of the row that the writer at g writes -/
def rowOf (w : World) (g : Nat) : Option Nat := (w.cell? ⟨g, 0, none⟩).bind (·.ownBlock)
/-- what a call of the writer at g keeps: all but its cell and its row -/
structure Wx (g : Nat) (w w' : World) : Prop where
  os : w'.os = w.os
  tape : w'.tape = w.tape
  output : w'.output = w.output
  size : w.heap.size ≤ w'.heap.size
  block : ∀ k, k < w.heap.size → k ≠ g → rowOf w g ≠ some k → w'.heap[k]? = w.heap[k]?
  row : rowOf w' g = rowOf w g ∨ ∀ k, rowOf w' g = some k → w.heap.size ≤ k
theorem Wx.refl (g : Nat) (w : World) : Wx g w w := ⟨rfl, rfl, rfl, Nat.le_refl _, fun _ _ _ _ => rfl, .inl rfl⟩
theorem Wx.trans {g : Nat} {a b c : World} (h : Wx g a b) (k : Wx g b c) : Wx g a c := by
  refine ⟨k.os.trans h.os, k.tape.trans h.tape, k.output.trans h.output, Nat.le_trans h.size k.size, fun i hi hg hr => ?_, ?_⟩
  · have hr' : rowOf b g ≠ some i := by
      rcases h.row with e | e
      · rw [e]; exact hr
      · intro e2; have := e i e2; omega
    rw [k.block i (Nat.lt_of_lt_of_le hi h.size) hg hr', h.block i hi hg hr]
  · rcases k.row with e | e
    · rw [e]; exact h.row
    · exact .inr fun i hi => Nat.le_trans h.size (e i hi)
theorem rowOf_eq {w w' : World} {g : Nat} (h : w'.heap[g]? = w.heap[g]?) : rowOf w' g = rowOf w g := by unfold rowOf; rw [World.cell?_of_block (a := ⟨g, 0, none⟩) h]
theorem Kp.wx {g : Nat} {w w' : World} (h : Kp w w') (hg : g < w.heap.size) : Wx g w w' :=
  ⟨h.os, h.tape, h.output, h.size, fun _ hk _ _ => h.block hk, .inl (rowOf_eq (h.block hg))⟩
/-- a block that the writer does not touch -/
def Safe (w : World) (g k : Nat) : Prop := k < w.heap.size ∧ k ≠ g ∧ rowOf w g ≠ some k
theorem Safe.wx {g k : Nat} {w w' : World} (h : Safe w g k) (hw : Wx g w w') : Safe w' g k := by
  refine ⟨Nat.lt_of_lt_of_le h.1 hw.size, h.2.1, ?_⟩
  rcases hw.row with e | e
  · rw [e]; exact h.2.2
  · intro e2; have := e k e2; have := h.1; omega
theorem Wx.safe {g k : Nat} {w w' : World} (hw : Wx g w w') (h : Safe w g k) : w'.heap[k]? = w.heap[k]? := hw.block k h.1 h.2.1 h.2.2
theorem Wx.cellS {g : Nat} {w w' : World} (hw : Wx g w w') {p : Addr} {v : Value} (h : Safe w g p.block) (hp : w.cell? p = some v) : w'.cell? p = some v := (World.cell?_of_block (hw.safe h)).trans hp
theorem Wx.frozenS {g : Nat} {w w' : World} (hw : Wx g w w') {p : Addr} {v : Bool} (h : Safe w g p.block) (hp : w.frozen? p = v) : w'.frozen? p = v := (World.frozen?_of_block (hw.safe h)).trans hp

/-- the writer at g has written l; from block base on all is its own -/
def Wr (base : Nat) (w : World) (g : Nat) (l : List Int) : Prop :=
  ∃ v, w.cell? ⟨g, 0, none⟩ = some v ∧ w.frozen? ⟨g, 0, none⟩ = false ∧ base ≤ g ∧ v.ownBlock ≠ some g ∧ Own encInt 3 1 base w v l
theorem Wr.lt {base g : Nat} {w : World} {l : List Int} (h : Wr base w g l) : g < w.heap.size := by obtain ⟨v, h1, -⟩ := h; exact block_lt_of_cell h1
theorem Wr.row {base g : Nat} {w : World} {l : List Int} (h : Wr base w g l) : ∀ k, rowOf w g = some k → base ≤ k ∧ k < w.heap.size := by
  obtain ⟨v, h1, h2, h3, h4, h5⟩ := h
  intro k hk
  unfold rowOf at hk
  rw [h1] at hk
  exact World.ownsRow.lt h5 k hk
theorem Wr.kp {base g : Nat} {w w' : World} {l : List Int} (h : Wr base w g l) (hk : Kp w w') : Wr base w' g l := by
  have hg := h.lt
  obtain ⟨v, h1, h2, h3, h4, h5⟩ := h
  exact ⟨v, hk.cellS h1, (World.frozen?_of_block (hk.block hg)).trans h2, h3, h4, h5.kp hk⟩
/-- what was there before the writer stays -/
theorem Wx.to_kp {W0 w w' : World} {g : Nat} {l : List Int} (h : Kp W0 w) (hw : Wx g w w') (hr : Wr W0.heap.size w g l) : Kp W0 w' := by
  refine ⟨hw.os.trans h.os, hw.tape.trans h.tape, hw.output.trans h.output, Nat.le_trans h.size hw.size, fun k hk => ?_⟩
  have hk2 : k < W0.heap.size := hk
  rw [hw.block k (Nat.lt_of_lt_of_le hk2 h.size) (by obtain ⟨_, _, _, h3, _⟩ := hr; omega) (fun e => by have := (hr.row k e).1; omega)]
  exact h.block hk2
/-- a fresh block is none of the writer's -/
theorem Wr.safe_new {base g : Nat} {w : World} {l : List Int} (h : Wr base w g l) (o : Obj) : Safe (w.alloc o) g w.heap.size := by
  refine ⟨by simp, by have := h.lt; omega, ?_⟩
  rw [rowOf_eq (((Kp.refl w).alloc o).block h.lt)]
  intro e
  have := (h.row _ e).2
  omega

section
variable {P : Program} {α : Type} {enc : α → List Value} {e size bytes base t t' : Nat} {w : World} {v : Value} {l : List α}
theorem wpl_append_flat2 {ops : Array Oper} {rest : List Oper} {o : Oper} {a : Act} {Q : Exit → Act → World → Prop} (hgd : o.guard = none) (s x : Operand)
    (ho : o.op = .call { callee := .builtin .append, args := #[s, x], argTypes := #[t, t'] }) (hT : SliceT P t e size bytes) {e' : Nat} (hT' : P.underlying t' = some (.slice e')) (he : ∀ x, (enc x).length = size) (h1 : ∀ x, ∀ u ∈ enc x, u.oneCell' = true)
    (hs : a.eval s = v) (hown : Own enc e size base w v l)
    {v2 : Value} {m : List α} (hx : a.eval x = v2) (hsrc : Sl (Pl enc) size w v2 m) (hlen : l.length + m.length ≤ 4611686018427387904) (hby : (l.length + m.length) * bytes ≤ 140737488355328) (hbase : base ≤ w.heap.size)
    (h : ∀ v' w', Own enc e size base w' v' (l ++ m) → w.grownBy w' v.ownBlock → (v'.ownBlock = v.ownBlock ∨ v'.ownBlock = some w.heap.size) → (v' = .slice none 0 0 ↔ v = .slice none 0 0 ∧ m.length = 0) → wpList P ops Q rest (a.put o.dst v') w') : wpList P ops Q (o :: rest) a w := by
  refine wpList_plain hgd fun K hK => ?_
  obtain ⟨v', w', hr, h2, h3, h4, h5⟩ := run_append_flat hT he h1 o.type hown hsrc hlen hby hbase
  rw [← append_types hT.ht hT'] at hr
  unfold Oper.wp execOp
  simp only [ho, resolve, invoke, builtin, Sem.run_bind, Sem.run_pure, Result.andThen_ok, List.map_toArray, List.map_cons, List.map_nil, hs, hx, hr]
  exact hK _ _ (h v' w' h2 h3 h4 h5)
end

theorem stWriter : SliceT Try.prog 137 3 1 8 := SliceT.mk' Try.underlying137 (z := .int .i64 0) (by kernel_rfl) rfl (by omega)
/-- how much may be written -/
def Room (l : List Int) (m : Nat) : Prop := l.length + m ≤ 1000000000
set_option maxHeartbeats 1000000 in
theorem put_any (W0 : World) (g : Nat) (l m : List Int) (vl : Value) (w : World) (hk : Kp W0 w) (hw : Wr W0.heap.size w g l) (hl : Ints w vl m) (hroom : Room l m.length) :
    Calls Try.prog 66 #[.pointer (some ⟨g, 0, none⟩), vl] w fun e w' => e = .returned (.tuple #[]) ∧ Wr W0.heap.size w' g (l ++ m) ∧ Wx g w w' := by
  have hgl := hw.lt
  have hw0 := hw
  obtain ⟨v, h1, h2, h3, h4, hown⟩ := hw
  obtain ⟨A, c, rfl, hc, hm⟩ := hl.form
  obtain ⟨A', c', rfl, hc', hm'⟩ := hown.form
  unfold Room at hroom
  go_enter Try.func66, Try.ntmps66
  go_wp2_with (at_builtin; refine wpl_append_flat2 rfl (.tmp 7) (.tmp 8) rfl stWriter Try.underlying24 encInt_len encInt_one rfl hown rfl hl (by omega) (by omega) hk.size ?_; intro v1 w1 hown1 hgrow1 hat1 hnil1; clear hnil1; obtain ⟨A1, c1, rfl, hc1, hm1⟩ := hown1.form; have hgrow2 : w.grownBy w1 (Value.slice A' l.length c').ownBlock := hgrow1; have k1 : w1.cell? ⟨g, 0, none⟩ = some (.slice A' l.length c') := (World.cell?_of_block (hgrow2.block g hgl (fun e => h4 e.symm))).trans h1; have k2 : w1.frozen? ⟨g, 0, none⟩ = false := (World.frozen?_of_block (hgrow2.block g hgl (fun e => h4 e.symm))).trans h2)
  have hv : rowOf w g = (Value.slice A' l.length c').ownBlock := by unfold rowOf; rw [h1]; rfl
  have hat2 : (Value.slice A1 (l.length + m.length) c1).ownBlock = (Value.slice A' l.length c').ownBlock ∨ (Value.slice A1 (l.length + m.length) c1).ownBlock = some w.heap.size := by
    rw [List.length_append] at hat1; exact hat1
  rw [List.length_append] at hown1
  have hne : (Value.slice A1 (l.length + m.length) c1).ownBlock ≠ some g := by
    rcases hat2 with e | e
    · rw [e]; exact h4
    · rw [e]; intro e2; injection e2; omega
  have hset : Kg w1 (w1.setCell ⟨g, 0, none⟩ (.slice A1 (l.length + m.length) c1)) g := (Kg.refl w1 g).set (.inl rfl) _
  have hcell : (w1.setCell ⟨g, 0, none⟩ (.slice A1 (l.length + m.length) c1)).cell? ⟨g, 0, none⟩ = some (.slice A1 (l.length + m.length) c1) := by go_simp
  have hfr : (w1.setCell ⟨g, 0, none⟩ (.slice A1 (l.length + m.length) c1)).frozen? ⟨g, 0, none⟩ = false := by go_simp
  have hrow : rowOf (w1.setCell ⟨g, 0, none⟩ (.slice A1 (l.length + m.length) c1)) g = (Value.slice A1 (l.length + m.length) c1).ownBlock := by unfold rowOf; rw [hcell]; rfl
  go_end0
  refine ⟨rfl, ⟨_, hcell, hfr, h3, hne, World.ownsRow.kept (row := some g) hown1 hset (.inr hne)⟩, ⟨?_, ?_, ?_, Nat.le_trans hgrow2.size hset.size, ?_, ?_⟩⟩
  · exact hset.os.trans hgrow2.os
  · exact hset.tape.trans hgrow2.tape
  · exact hset.output.trans hgrow2.output
  · intro k hkw hkg hkr
    rw [hv] at hkr
    rw [hset.block k (Nat.lt_of_lt_of_le hkw hgrow2.size) (fun e => hkg (by injection e)), hgrow2.block k hkw (fun e => hkr e.symm)]
  · rw [hrow, hv]
    rcases hat2 with e | e
    · exact .inl e
    · exact .inr fun k hk2 => by rw [e] at hk2; injection hk2; omega
theorem take_snoc' {α : Type} (l : List α) (k : Nat) (h : k < l.length) : l.take (k + 1) = l.take k ++ [l[k]] := by rw [List.take_succ_eq_append_getElem h]
theorem room_step {α : Type} (f : α → List Int) (l : List Int) (xs : List α) (k : Nat) (h : k < xs.length) (hr : Room l (((xs.length : Int) :: xs.flatMap f)).length) : Room ((l ++ [(xs.length : Int)]) ++ (xs.take k).flatMap f) (f xs[k]).length := by
  unfold Room at *
  have e : xs.flatMap f = (xs.take k).flatMap f ++ (f xs[k] ++ (xs.drop (k + 1)).flatMap f) := by
    rw [← List.flatMap_cons, ← List.drop_eq_getElem_cons h, ← List.flatMap_append, List.take_append_drop]
  rw [e] at hr
  simp only [List.length_cons, List.length_append, List.length_nil] at *
  omega
end Go.Proofs.Ytmokpnkpfodppaa
