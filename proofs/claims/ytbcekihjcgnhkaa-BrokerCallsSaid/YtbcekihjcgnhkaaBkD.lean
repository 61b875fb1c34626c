
/-
What a broker is in memory; priorities of a replica; a new broker; the end of a request: the walks.
-/
import Derived.Test.YtbcekihjcgnhkaaBkC
namespace Go.Proofs.Ytbcekihjcgnhkaa
set_option linter.unusedSimpArgs false
set_option linter.unusedVariables false
set_option linter.unusedSectionVars false
open Go.RowKit

set_option maxHeartbeats 1000000 in
theorem CloneNd_any (v : Value) (l : List Nd) (w : World) (hS : Nds w v l) (hl : l.length ≤ 1000000000) :
    Calls Try.prog 14 #[v] w fun e w' => ∃ v', e = .returned v' ∧ Own encNd 41 4 w.heap.size w' v' l ∧ Kp w w' := by
  obtain ⟨A, c, rfl, hc, hm⟩ := hS.form
  rcases A with _ | A
  · have hl0 : l = [] := by
      cases l with
      | nil => rfl
      | cons x l =>
        obtain ⟨_, _, _, hA, _⟩ := hS.at_ (k := 0) (by simp)
        cases hA
    subst hl0
    rw [List.length_nil]
    have hnil := fun (W : World) => Lib.run_eql_slice_nil (P := Try.prog) W 27 41 none 0 c 0 0 Try.underlying27
    go_enter Try.func14, Try.ntmps14
    go_wp2
    go_ret
    exact ⟨_, rfl, Own.nil _ _ _ _ _, Kp.refl _⟩
  · have hnil := fun (W : World) => Lib.run_eql_slice_nil (P := Try.prog) W 27 41 (some A) l.length c 0 0 Try.underlying27
    go_enter Try.func14, Try.ntmps14
    go_wp2_with (at_builtin; refine wpl_append_flat rfl (.tmp 5) (.tmp 6) rfl slnd encNd_len encNd_one rfl (Own.lit (base := w.heap.size) encNd w #[] [] (Nat.le_refl _) (by simp) rfl rfl) rfl (hS.keep (pl_stable _) ((Kp.refl w).alloc _)) (by simp; omega) (by simp; omega) (by simp) ?_; intro v' w' hown hgrow hat hnil')
    go_ret
    exact ⟨_, rfl, by simpa using hown, ((Kp.refl w).alloc _).grown hgrow (fun k hk => by cases hk; exact Nat.le_refl _)⟩
/-! only some blocks have changed -/
structure Fx (X : Nat → Prop) (w w' : World) : Prop where
  os : w'.os = w.os
  tape : w'.tape = w.tape
  output : w'.output = w.output
  size : w.heap.size ≤ w'.heap.size
  block : ∀ k, k < w.heap.size → ¬ X k → w'.heap[k]? = w.heap[k]?
section
variable {X Y S T : Nat → Prop} {w w' w2 : World}
theorem Fx.refl (X : Nat → Prop) (w : World) : Fx X w w := ⟨rfl, rfl, rfl, Nat.le_refl _, fun _ _ _ => rfl⟩
theorem Fx.trans (h : Fx X w w') (k : Fx X w' w2) : Fx X w w2 := ⟨k.os.trans h.os, k.tape.trans h.tape, k.output.trans h.output, Nat.le_trans h.size k.size, fun i hi hx => (k.block i (Nat.lt_of_lt_of_le hi h.size) hx).trans (h.block i hi hx)⟩
theorem Kp.fx (h : Kp w w') (X : Nat → Prop) : Fx X w w' := ⟨h.os, h.tape, h.output, h.size, fun _ hi _ => h.block hi⟩
theorem Kg.fx {g : Nat} (h : Kg w w' g) (hg : X g ∨ w.heap.size ≤ g) : Fx X w w' := ⟨h.os, h.tape, h.output, h.size, fun i hi hx => h.block i hi (fun e => by
  injection e with e
  subst e
  rcases hg with hg | hg
  · exact hx hg
  · omega)⟩
theorem Fx.mono (h : Fx X w w') (hs : ∀ k, k < w.heap.size → X k → Y k) : Fx Y w w' := ⟨h.os, h.tape, h.output, h.size, fun i hi hx => h.block i hi fun hx' => hx (hs i hi hx')⟩
theorem Fx.kp (h : Fx X w w') (hx : ∀ k, k < w.heap.size → ¬ X k) : Kp w w' := ⟨h.os, h.tape, h.output, h.size, fun i hi => h.block i hi (hx i hi)⟩
end
/-! a broker -/
def askL (a : Ak) (v : Value) : List Value := [.int .i64 a.num, .int .i64 a.pri.1, .int .i64 a.pri.2.1, .int .i64 a.pri.2.2.1, .int .i64 a.pri.2.2.2, v]
abbrev askV (a : Ak) (v : Value) : Value := .agg #[.int .i64 a.num, .int .i64 a.pri.1, .int .i64 a.pri.2.1, .int .i64 a.pri.2.2.1, .int .i64 a.pri.2.2.2, v]
abbrev intV (k : Int) : Value := .int .i64 k
/-- a slice of needs in blocks of S -/
def Sx (S : Nat → Prop) (w : World) (v : Value) (l : List Nd) : Prop := OwS S w fun w' => Nds w' v l
def OwnR (S : Nat → Prop) (w : World) (ov : Value) : Option (Pr × List Nd) → Prop
  | none => ov = .pointer none
  | some (p, l) => ∃ ob v, ov = .pointer (some ⟨ob, 0, none⟩) ∧ S ob ∧ Bx w ob [.int .i64 p.1, .int .i64 p.2.1, .int .i64 p.2.2.1, .int .i64 p.2.2.2, v] ∧ Sx S w v l
def HeardR (S : Nat → Prop) (w : World) (L : List (Int × Value)) (H : Int → Option Ak) : Prop :=
  ∀ k, (getL k L = none ∧ H k = none) ∨ ∃ a v, getL k L = some (askV a v) ∧ H k = some a ∧ Sx S w v a.needs
abbrev brL (s : Bk) (ov : Value) (mb : Nat) : List Value := [.int .i64 s.n, .int .i64 s.i, .int .i64 s.num, ov, .map (some mb)]
/-- a broker in memory, its lists in blocks of S -/
structure BrW (S : Nat → Prop) (w : World) (b mb : Nat) (s : Bk) : Prop where
  box : ∃ ov, Bx w b (brL s ov mb) ∧ OwnR S w ov s.own
  mp : ∃ L, MapL intV w mb L ∧ HeardR S w L s.heard
  sb : ¬ S b
  sm : ¬ S mb
  ok : OkB s
section
variable {S T : Nat → Prop} {w w' : World} {b mb : Nat} {s : Bk} {v ov : Value} {l : List Nd} {o : Option (Pr × List Nd)} {L : List (Int × Value)} {H : Int → Option Ak}
theorem Sx.here (h : Sx S w v l) : Nds w v l := OwS.here h
theorem Sx.step (h : Sx S w v l) (h1 : w.heap.size ≤ w'.heap.size) (h2 : ∀ k, S k → k < w.heap.size → w'.heap[k]? = w.heap[k]?) : Sx S w' v l := OwS.step h h1 h2
theorem Sx.to (h : Sx S w v l) (hs : ∀ k, k < w.heap.size → S k → T k) : Sx T w v l := fun w' h1 h2 => h w' h1 fun k hk hlt => h2 k (hs k hlt hk) hlt
theorem OwnR.step (h : OwnR S w ov o) (h1 : w.heap.size ≤ w'.heap.size) (h2 : ∀ k, S k → k < w.heap.size → w'.heap[k]? = w.heap[k]?) : OwnR S w' ov o := by
  cases o with
  | none => exact h
  | some q =>
    obtain ⟨ob, v, e, hs, hb, hx⟩ := h
    exact ⟨ob, v, e, hs, hb.keep (h2 ob hs (hb.lt (by simp))), hx.step h1 h2⟩
theorem OwnR.to (h : OwnR S w ov o) (hs : ∀ k, k < w.heap.size → S k → T k) : OwnR T w ov o := by
  cases o with
  | none => exact h
  | some q =>
    obtain ⟨ob, v, e, hs', hb, hx⟩ := h
    exact ⟨ob, v, e, hs ob (hb.lt (by simp)) hs', hb, hx.to hs⟩
theorem HeardR.step (h : HeardR S w L H) (h1 : w.heap.size ≤ w'.heap.size) (h2 : ∀ k, S k → k < w.heap.size → w'.heap[k]? = w.heap[k]?) : HeardR S w' L H := fun k => by
  rcases h k with h3 | ⟨a, v, h3, h4, h5⟩
  · exact .inl h3
  · exact .inr ⟨a, v, h3, h4, h5.step h1 h2⟩
theorem HeardR.to (h : HeardR S w L H) (hs : ∀ k, k < w.heap.size → S k → T k) : HeardR T w L H := fun k => by
  rcases h k with h3 | ⟨a, v, h3, h4, h5⟩
  · exact .inl h3
  · exact .inr ⟨a, v, h3, h4, h5.to hs⟩
theorem BrW.lt (h : BrW S w b mb s) : b < w.heap.size := by
  obtain ⟨ov, hb, -⟩ := h.box
  exact hb.lt (by simp)
theorem BrW.mlt (h : BrW S w b mb s) : mb < w.heap.size := by
  obtain ⟨L, hm, -⟩ := h.mp
  exact hm.lt
theorem BrW.ne (h : BrW S w b mb s) : b ≠ mb := by
  obtain ⟨ov, hb, -⟩ := h.box
  obtain ⟨L, hm, -⟩ := h.mp
  rintro rfl
  obtain ⟨es, clock, zs, h1, -⟩ := hm
  have h2 := hb.cell (j := 0) rfl
  simp [World.cell?, h1] at h2
theorem BrW.step (h : BrW S w b mb s) (h1 : w.heap.size ≤ w'.heap.size) (h2 : ∀ k, S k → k < w.heap.size → w'.heap[k]? = w.heap[k]?) (hb : w'.heap[b]? = w.heap[b]?) (hm : w'.heap[mb]? = w.heap[mb]?) : BrW S w' b mb s := by
  obtain ⟨ov, h3, h4⟩ := h.box
  obtain ⟨L, h5, h6⟩ := h.mp
  exact ⟨⟨ov, h3.keep hb, h4.step h1 h2⟩, ⟨L, h5.keep hm, h6.step h1 h2⟩, h.sb, h.sm, h.ok⟩
theorem BrW.to (h : BrW S w b mb s) (hs : ∀ k, k < w.heap.size → S k → T k) (hb : ¬ T b) (hm : ¬ T mb) : BrW T w b mb s := by
  obtain ⟨ov, h3, h4⟩ := h.box
  obtain ⟨L, h5, h6⟩ := h.mp
  exact ⟨⟨ov, h3, h4.to hs⟩, ⟨L, h5, h6.to hs⟩, hb, hm, h.ok⟩
theorem BrW.kp (h : BrW S w b mb s) (k : Kp w w') : BrW S w' b mb s := h.step k.size (fun _ _ hlt => k.block hlt) (k.block h.lt) (k.block h.mlt)
theorem BrW.fx {X : Nat → Prop} (h : BrW S w b mb s) (k : Fx X w w') (hs : ∀ k, S k → ¬ X k) (hb : ¬ X b) (hm : ¬ X mb) : BrW S w' b mb s :=
  h.step k.size (fun i hi hlt => k.block i hlt (hs i hi)) (k.block b h.lt hb) (k.block mb h.mlt hm)
/-- the broker's own cells have changed -/
theorem BrW.box' {s' : Bk} (h : BrW S w b mb s) (k : Kg w w' b) (hb : Bx w' b (brL s' ov mb)) (ho : OwnR S w' ov s'.own) (hh : s'.heard = s.heard) (ok : OkB s') : BrW S w' b mb s' := by
  obtain ⟨L, h5, h6⟩ := h.mp
  have hne := h.ne
  refine ⟨⟨ov, hb, ho⟩, ⟨L, h5.keep (k.block mb h.mlt (by simp; exact fun e => hne e.symm)), ?_⟩, h.sb, h.sm, ok⟩
  rw [hh]
  exact h6.step k.size fun i hi hlt => k.block i hlt (by simp; rintro rfl; exact h.sb hi)
theorem OwnR.kg {g : Nat} (h : OwnR S w ov o) (k : Kg w w' g) (hg : ¬ S g) : OwnR S w' ov o := h.step k.size fun i hi hlt => k.block i hlt (by simp; rintro rfl; exact hg hi)
end
/-- the blocks that a broker changes -/
def B2 (b mb : Nat) (k : Nat) : Prop := k = b ∨ k = mb
set_option maxHeartbeats 4000000 in
theorem bOf_any (p : Pr) (r : Int) (w : World) : Calls Try.prog 45 #[prV p, .int .i64 r] w fun e w' => e = .returned (.bool (ofB p r)) ∧ Kp w w' := by
  obtain ⟨p1, p2, p3, p4⟩ := p
  have HF : Hid (ofB (p1, p2, p3, p4) r = (p3 == r && btw p1 0 1024 && btw p2 0 1073741824 && btw p4 1 1048576)) := hid rfl
  generalize ofB (p1, p2, p3, p4) r = R at *
  generalize hq : (p3 == r) = q at *
  have hq2 : decide (p3 = r) = q := by rw [← hq]; rfl
  go_enter Try.func45, Try.ntmps45
  cases q with
  | false =>
    go_wp2_with (refine (bBetween_at _ _ _ _).mono ?_; rintro e w9 ⟨rfl, rfl⟩; simp only [hq])
    go_ret
    exact ⟨ret_bool (by rw [HF.out]; simp [hq, *]), (Kp.refl w).alloc _⟩
  | true =>
    by_cases hb1 : btw p1 0 1024 = true
    · by_cases hb2 : btw p2 0 1073741824 = true
      · by_cases hb3 : btw p4 1 1048576 = true
        · go_wp2_with (refine (bBetween_at _ _ _ _).mono ?_; rintro e w9 ⟨rfl, rfl⟩; simp only [hb1, hb2, hb3])
          go_ret
          exact ⟨ret_bool (by rw [HF.out]; simp [hb1, hb2, hb3, *]), (Kp.refl w).alloc _⟩
        · replace hb3 := eq_false_of_ne_true hb3
          go_wp2_with (refine (bBetween_at _ _ _ _).mono ?_; rintro e w9 ⟨rfl, rfl⟩; simp only [hb1, hb2, hb3])
          go_ret
          exact ⟨ret_bool (by rw [HF.out]; simp [hb1, hb2, hb3, *]), (Kp.refl w).alloc _⟩
      · replace hb2 := eq_false_of_ne_true hb2
        go_wp2_with (refine (bBetween_at _ _ _ _).mono ?_; rintro e w9 ⟨rfl, rfl⟩; simp only [hb1, hb2])
        go_ret
        exact ⟨ret_bool (by rw [HF.out]; simp [hb1, hb2, *]), (Kp.refl w).alloc _⟩
    · replace hb1 := eq_false_of_ne_true hb1
      go_wp2_with (refine (bBetween_at _ _ _ _).mono ?_; rintro e w9 ⟨rfl, rfl⟩; simp only [hb1])
      go_ret
      exact ⟨ret_bool (by rw [HF.out]; simp [hb1, *]), (Kp.refl w).alloc _⟩
/-- what New returns -/
def NewR (n i : Int) (w : World) (e : Ending) (w' : World) : Prop :=
  (badNew n i = true ∧ e = .returned (.tuple #[.pointer none, .int .i64 1]) ∨ badNew n i = false ∧ ∃ b mb, e = .returned (.tuple #[.pointer (some ⟨b, 0, none⟩), .int .i64 0]) ∧ w.heap.size ≤ b ∧ w.heap.size ≤ mb ∧ ∀ S : Nat → Prop, ¬ S b → ¬ S mb → BrW S w' b mb (newB n i)) ∧ Kp w w'
set_option maxHeartbeats 1600000 in
theorem bNew_any (n i : Int) (w : World) : Calls Try.prog 12 #[.int .i64 n, .int .i64 i] w (NewR n i w) := by
  have hmm := @run_makeMap Try.prog
  by_cases h1 : n < 1
  · have e1 : decide (n < 1) = true := decide_eq_true h1
    go_enter Try.func12, Try.ntmps12
    go_wp2
    go_ret2
    exact ⟨.inl ⟨by simp [badNew, *], rfl⟩, Kp.refl _⟩
  · have e1 : decide (n < 1) = false := decide_eq_false h1
    by_cases h2 : 5 < n
    · have e2 : decide (5 < n) = true := decide_eq_true h2
      go_enter Try.func12, Try.ntmps12
      go_wp2
      go_ret2
      exact ⟨.inl ⟨by simp [badNew, *], rfl⟩, Kp.refl _⟩
    · have e2 : decide (5 < n) = false := decide_eq_false h2
      by_cases h3 : i < 0
      · have e3 : decide (i < 0) = true := decide_eq_true h3
        go_enter Try.func12, Try.ntmps12
        go_wp2
        go_ret2
        exact ⟨.inl ⟨by simp [badNew, *], rfl⟩, Kp.refl _⟩
      · have e3 : decide (i < 0) = false := decide_eq_false h3
        by_cases h4 : n ≤ i
        · have e4 : decide (n ≤ i) = true := decide_eq_true h4
          go_enter Try.func12, Try.ntmps12
          go_wp2
          go_ret2
          exact ⟨.inl ⟨by simp [badNew, *], rfl⟩, Kp.refl _⟩
        · have e4 : decide (n ≤ i) = false := decide_eq_false h4
          have HB : Hid (badNew n i = false) := hid (by simp [badNew, e1, e2, e3, e4])
          have hb := Bx.new (w.alloc (.map #[] 0)) #[.int .i64 n, .int .i64 i, .int .i64 0, .pointer none, .map (some w.heap.size)] 94
          rw [World.size_alloc] at hb
          go_enter Try.func12, Try.ntmps12
          go_wp2
          go_ret2
          refine ⟨.inr ⟨HB.out, w.heap.size + 1, w.heap.size, rfl, by omega, by omega, fun S h5 h6 => ?_⟩, ((Kp.refl w).alloc _).alloc _⟩
          exact ⟨⟨_, hb, rfl⟩, ⟨[], (MapL.new w).kp ((Kp.refl _).alloc _), fun k => .inl ⟨rfl, rfl⟩⟩, h5, h6, okB_new HB.out⟩
/-- what Rest and Request return -/
def OneR (S : Nat → Prop) (w : World) (b mb : Nat) (s : Bk) (ev : Value → Ending) (a : Ak) (e : Ending) (w' : World) : Prop :=
  ∃ v, e = ev (askV a v) ∧ Nds w' v a.needs ∧ BrW S w' b mb s ∧ Fx (B2 b mb) w w'
end Go.Proofs.Ytbcekihjcgnhkaa
