/-
What a buffer holds of a closed set: arrivals and skips in any order. No program here.
A buffer as a law holds it: its blocks, its base and its map kept out of sight.
Slices of small numbers.
-/
import Derived.Test.YtcddllaljgfjbaaDlR
import Derived.Test.YtcddllaljgfjbaaCsA
import Derived.Test.YtcddllaljgfjbaaFW
import Derived.Test.YtcddllaljgfjbaaEcA
namespace Go.Proofs.Ytcddllaljgfjbaa
set_option linter.unusedSimpArgs false
set_option linter.unusedVariables false
open Go.RowKit

theorem nodup_le {α : Type} [DecidableEq α] : ∀ {a b : List α}, a.Nodup → (∀ x ∈ a, x ∈ b) → a.length ≤ b.length
  | [], _, _, _ => Nat.zero_le _
  | x :: a, b, h, hs => by
    rw [List.nodup_cons] at h
    have h1 := hs x (by simp)
    have h2 : a.length ≤ (b.erase x).length := nodup_le h.2 fun y hy => by
      have h3 := hs y (by simp [hy])
      have h4 : y ≠ x := fun e => h.1 (by rw [← e]; exact hy)
      exact (List.mem_erase_of_ne h4).2 h3
    rw [List.length_erase_of_mem h1] at h2
    have h5 : 0 < b.length := List.length_pos_of_mem h1
    rw [List.length_cons]
    omega
/-- a state of a buffer, behind some events of a closed set -/
structure SkS (l : List Ev) (c0 : List Int) (T : Ev → Prop) (s : BfS) : Prop where
  arr : Arr c0 T s.1 s.2
  sub : ∀ e, T e → e ∈ l
  len : s.1.length = c0.length
  v0 : validC c0 = true
  wid : ∀ e ∈ l, e.past.length = c0.length
  cl : ClosedP l
theorem SkS.ok {l : List Ev} {c0 : List Int} {T : Ev → Prop} {s : BfS} (h : SkS l c0 T s) : BfOk s.1 s.2 := h.arr.ok
theorem SkS.few {l : List Ev} {c0 : List Int} {T : Ev → Prop} {s : BfS} (h : SkS l c0 T s) : s.2.length ≤ l.length := by
  have h1 := h.arr.ok.names
  unfold NamesU at h1
  have := nodup_le h1 (b := l.map nameE) fun x hx => by
    obtain ⟨e, he, rfl⟩ := List.mem_map.1 hx
    exact List.mem_map.2 ⟨e, h.sub e (h.arr.sub e he), rfl⟩
  simpa using this
theorem SkS.start {l : List Ev} {c0 : List Int} (hv : validC c0 = true) (hw : ∀ e ∈ l, e.past.length = c0.length) (hl : ClosedP l) : SkS l c0 (fun _ => False) (c0, []) :=
  ⟨Arr.start hv, fun _ h => h.elim, rfl, hv, hw, hl⟩
theorem SkS.add {l : List Ev} {c0 : List Int} {T : Ev → Prop} {s : BfS} (h : SkS l c0 T s) (hm : l.length < 256) {e : Ev} (he : e ∈ l) : SkS l c0 (fun x => T x ∨ x = e) (addE s e).1 ∧ ((addE s e).2.2 = 0 ∨ (addE s e).2.2 = 6) := by
  obtain ⟨c, H⟩ := s
  have hU := h.cl.names
  have hf := h.few
  obtain ⟨h1, h2, h3, -, -⟩ := h.arr.add (e := e) (fun x y hx hy hn => hU.eq_of x (h.sub x hx) y (h.sub y hy) hn) (h.cl.fe e he) ((h.wid e he).trans h.len.symm) (fun x hx hn => hU.eq_of x (h.sub x hx) e he hn) (by dsimp only at hf ⊢; omega)
  refine ⟨⟨h1, fun x hx => ?_, h2.trans h.len, h.v0, h.wid, h.cl⟩, ?_⟩
  · rcases hx with hx | rfl
    · exact h.sub x hx
    · exact he
  · rcases h3 with h3 | ⟨h3, -⟩
    · exact .inl h3
    · exact .inr h3
theorem SkS.has {l : List Ev} {c0 : List Int} {T : Ev → Prop} {s : BfS} (h : SkS l c0 T s) {e : Ev} (he : e ∈ l) (hi : InC c0 e) : addE s e = (s, [], 6) := by
  obtain ⟨c, H⟩ := s
  have hl : e.past.length = c.length := (h.wid e he).trans h.len.symm
  have h1 : hasC c (nameE e) = true := (hasC_inC h.arr.ok.clk (formedE_fe (h.cl.fe e he)) hl).2 (hi.mono h.arr.ge)
  have h2 := h.cl.fe e he
  unfold addE
  rw [if_neg (by simp [h2, hl]), if_pos (by simp [h1])]
theorem SkS.skip {l : List Ev} {c0 d : List Int} {T : Ev → Prop} {s : BfS} (h : SkS l c0 T s) (hd : validC d = true) (hl : d.length = c0.length) : SkS l (joinC c0 d) T (skipE s d).1 ∧ (skipE s d).2.2 = 0 := by
  obtain ⟨c, H⟩ := s
  obtain ⟨h1, h2, h3, -, -⟩ := h.arr.skip h.len.symm h.v0 hd (hl.trans h.len.symm)
  obtain ⟨-, j1, j2, -⟩ := joinC_ok h.v0 hd hl
  exact ⟨⟨h1, h.sub, by rw [j1, ← h.len]; exact h2, j2, fun e he => by rw [j1]; exact h.wid e he, h.cl⟩, h3⟩
theorem SkS.same {l : List Ev} {c0 : List Int} {T : Ev → Prop} {s s' : BfS} (h : SkS l c0 T s) (k : SkS l c0 T s') : s = s' := by
  obtain ⟨h1, h2⟩ := h.arr.same k.arr (h.len.trans k.len.symm) fun _ => Iff.rfl
  exact Prod.ext h1 h2
theorem joins_same {z a d : List Int} (hz : validC z = true) (ha : validC a = true) (hd : validC d = true) (h1 : a.length = z.length) (h2 : d.length = a.length) :
    validC (joinC a d) = true ∧ (joinC a d).length = z.length ∧ joinC (joinC z a) (joinC a d) = joinC z (joinC a d) := by
  obtain ⟨-, i1, i2, i3⟩ := joinC_ok ha hd h2
  obtain ⟨-, j1, j2, j3⟩ := joinC_ok hz ha h1
  obtain ⟨-, k1, k2, k3⟩ := joinC_ok hz i2 (i1.trans h1)
  obtain ⟨-, m1, m2, m3⟩ := joinC_ok j2 i2 (by rw [i1, j1]; exact h1)
  refine ⟨i2, i1.trans h1, LeC.anti (by rw [m1, j1, k1]) (fun k => ?_) fun k => ?_⟩
  · rw [m3, k3, j3, i3]; omega
  · rw [m3, k3, j3, i3]; omega
theorem SkS.over {l : List Ev} {c0 : List Int} {T : Ev → Prop} {s : BfS} (h : SkS l c0 T s) (ha : ∀ e ∈ l, T e) : s.2 = [] :=
  (h.arr.whole h.cl fun e => ⟨h.sub e, ha e⟩).1
theorem inC_of_has {l : List Ev} {c0 d : List Int} {e : Ev} (hl : ClosedP l) (he : e ∈ l) (hd : validC d = true) (hp : e.past.length = d.length) (h : hasC d (nameE e) = true) (hle : LeC d c0) : InC c0 e :=
  ((hasC_inC hd (formedE_fe (hl.fe e he)) hp).1 h).mono hle
theorem le_join {a b : List Int} (ha : validC a = true) (hb : validC b = true) (hl : b.length = a.length) : LeC b (joinC a b) := fun k => by
  rw [(joinC_ok ha hb hl).2.2.2 k]
  omega
end Go.Proofs.Ytcddllaljgfjbaa
namespace Go.Proofs.Ytcddllaljgfjbaa
set_option linter.unusedSimpArgs false
set_option linter.unusedVariables false
open Go.RowKit

def BfX (S : Nat → Prop) (W w : World) (b n : Nat) (s : BfS) : Prop := ∃ (base cb cc mb : Nat) (M : List EvS), BfW S base w b cb cc mb n s.1 M ∧ (M.map (·.e)).Perm s.2 ∧ ∀ q, S q → W.heap.size ≤ q ∧ q < w.heap.size
theorem BfX.len {S : Nat → Prop} {W w : World} {b n : Nat} {s : BfS} (h : BfX S W w b n s) : s.1.length = n := by
  obtain ⟨_, _, _, _, _, h1, -⟩ := h
  exact h1.len
theorem BfX.lt {S : Nat → Prop} {W w : World} {b n : Nat} {s : BfS} (h : BfX S W w b n s) : ∀ q, S q → W.heap.size ≤ q ∧ q < w.heap.size := by
  obtain ⟨_, _, _, _, _, -, -, h1⟩ := h
  exact h1
theorem BfX.fx {S X : Nat → Prop} {W w w' : World} {b n : Nat} {s : BfS} (h : BfX S W w b n s) (k : Fx X w w') (hX : ∀ q, S q → ¬ X q) : BfX S W w' b n s := by
  obtain ⟨base, cb, cc, mb, M, h1, h2, h3⟩ := h
  exact ⟨base, cb, cc, mb, M, h1.fx k hX, h2, fun q hq => ⟨(h3 q hq).1, Nat.lt_of_lt_of_le (h3 q hq).2 k.size⟩⟩
theorem BfX.kp {S : Nat → Prop} {W w w' : World} {b n : Nat} {s : BfS} (h : BfX S W w b n s) (k : Kp w w') : BfX S W w' b n s := h.fx (k.fx fun _ => False) fun _ _ h => h
/-- a step's answer -/
def StepX (S : Nat → Prop) (W w : World) (b n : Nat) (R : BfS × List Ev × Int) (x : Ending) (w' : World) : Prop :=
  ∃ (v : Value) (S' : Nat → Prop), x = .returned (.tuple #[v, .int .i64 R.2.2]) ∧ BfX S' W w' b n R.1 ∧ (∃ A c, v = .slice A R.2.1.length c) ∧ Evs w' v R.2.1 ∧ (∀ q, v.ownBlock = some q → ¬ S' q) ∧ Fx S w w' ∧ Kp W w' ∧ ∀ q, S' q → S q ∨ w.heap.size ≤ q
theorem StepR.x {S : Nat → Prop} {base : Nat} {W w : World} {b mb n : Nat} {R : BfS × List Ev × Int} {x : Ending} {w' : World} (h : StepR S base w b mb n R x w') (kw : Kp W w) (hS : ∀ q, S q → W.heap.size ≤ q ∧ q < w.heap.size) : StepX S W w b n R x w' := by
  obtain ⟨v, outs, M', S', cb, cc, B, rfl, hb, hM, hE, ho, fx, hS', hB1, hB2⟩ := h
  obtain ⟨A, c, rfl, hev⟩ := hE.len ho
  have kx : Kp W w' := ((kw.fx S).trans fx).kp fun q hq h => by have := (hS q h).1; omega
  refine ⟨_, S', rfl, ⟨base, cb, cc, mb, M', hb, hM, fun q hq => ?_⟩, ⟨A, c, rfl⟩, hev, fun q hq h => ?_, fx, kx, fun q hq => ?_⟩
  · have h1 := kw.size
    have h2 := fx.size
    rcases hS' q hq with h | h
    · have := hS q h; omega
    · omega
  · have h1 := hE.own.ge q hq
    rcases hS' q h with h | h
    · have := hS q h; omega
    · omega
  · rcases hS' q hq with h | h
    · exact .inl h
    · exact .inr h.1
theorem bAddX {S : Nat → Prop} {W w : World} {b n : Nat} {s : BfS} (h : BfX S W w b n s) (kw : Kp W w) (ok : BfOk s.1 s.2) (e : Ev) (v : Value) (hp : Ints W v e.past) (hl : e.past.length ≤ 1000000000) :
    Calls Try.prog 12 #[.pointer (some ⟨b, 0, none⟩), evV e v] w (StepX S W w b n (addE s e)) := by
  obtain ⟨base, cb, cc, mb, M, h1, h2, h3⟩ := h
  exact (bAdd_any h1 (fun q hq => (h3 q hq).2) h2 ok e v (kp_owF (fun w' k => hp.keep (pl_stable _) k) kw fun q hq => (h3 q hq).1) hl).mono fun x w' hx => hx.x kw h3
theorem bSkipX {S : Nat → Prop} {W w : World} {b n : Nat} {s : BfS} (h : BfX S W w b n s) (kw : Kp W w) (ok : BfOk s.1 s.2) (d : List Int) (v : Value) (hd : OwF S w fun W => Ints W v d) :
    Calls Try.prog 17 #[.pointer (some ⟨b, 0, none⟩), v] w (StepX S W w b n (skipE s d)) := by
  obtain ⟨base, cb, cc, mb, M, h1, h2, h3⟩ := h
  exact (bSkip_any h1 (fun q hq => (h3 q hq).2) h2 ok d v hd).mono fun x w' hx => hx.x kw h3
theorem bNewX {W w : World} (kw : Kp W w) (c : List Int) (v : Value) (hS : Ints w v c) :
    Calls Try.prog 10 #[v] w fun x w' => Kp w w' ∧ ((validC c = false ∧ x = .returned (.tuple #[.pointer none, .int .i64 1])) ∨
      (validC c = true ∧ ∃ b S, x = .returned (.tuple #[.pointer (some ⟨b, 0, none⟩), .int .i64 0]) ∧ BfX S W w' b c.length (c, []) ∧ ∀ q, S q → w.heap.size ≤ q)) :=
  (bNew_any c v w hS).mono fun x w' ⟨k, h⟩ => ⟨k, by
    rcases h with h | ⟨hv, b, cb, cc, mb, rfl, hb⟩
    · exact .inl h
    · have h1 := hb.blt
      have h2 := hb.clt
      have h3 := hb.mlt
      have h4 := hb.lb
      have h5 := hb.lm
      have h6 := hb.clk.ge cb rfl
      have h7 := kw.size
      have h8 : ∀ q, (q = b ∨ q = cb ∨ q = mb) → w.heap.size ≤ q ∧ q < w'.heap.size := fun q hq => by rcases hq with rfl | rfl | rfl <;> omega
      exact .inr ⟨hv, b, _, rfl, ⟨_, cb, cc, mb, [], hb, List.Perm.refl _, fun q hq => ⟨Nat.le_trans h7 (h8 q hq).1, (h8 q hq).2⟩⟩, fun q hq => (h8 q hq).1⟩⟩
theorem bHeldX {S : Nat → Prop} {W w : World} {b n : Nat} {s : BfS} (h : BfX S W w b n s) (ok : BfOk s.1 s.2) :
    Calls Try.prog 13 #[.pointer (some ⟨b, 0, none⟩)] w fun x w' => ∃ A c, x = .returned (.slice A s.2.length c) ∧ Evs w' (.slice A s.2.length c) s.2 ∧ Kp w w' := by
  obtain ⟨base, cb, cc, mb, M, h1, h2, h3⟩ := h
  exact (bHeld_any h1 h2 ok).mono fun x w' ⟨v, ys, hx, hE, hy, k⟩ => by
    obtain ⟨A, c, rfl, hev⟩ := hE.len hy
    exact ⟨A, c, hx, hev, k⟩
theorem bClockX {S : Nat → Prop} {W w : World} {b n : Nat} {s : BfS} (h : BfX S W w b n s) (hn : n ≤ 1000000) :
    Calls Try.prog 22 #[.pointer (some ⟨b, 0, none⟩)] w fun x w' => ∃ A c, x = .returned (.slice A s.1.length c) ∧ Own encInt 3 1 w.heap.size w' (.slice A s.1.length c) s.1 ∧ Kp w w' := by
  obtain ⟨base, cb, cc, mb, M, h1, h2, h3⟩ := h
  exact (bClock_any h1 hn).mono fun x w' ⟨v, hx, own, k⟩ => by
    obtain ⟨A, c, rfl, -, -⟩ := own.form
    exact ⟨A, c, hx, own, k⟩
theorem bMissingX {S : Nat → Prop} {W w : World} {b n : Nat} {s : BfS} (h : BfX S W w b n s) (ok : BfOk s.1 s.2) :
    Calls Try.prog 14 #[.pointer (some ⟨b, 0, none⟩)] w fun x w' => ∃ v, x = .returned v ∧ Own encSn 83 3 w.heap.size w' v (missE s) ∧ Kp w w' := by
  obtain ⟨base, cb, cc, mb, M, h1, h2, h3⟩ := h
  exact bMissing_any h1 h2 ok
end Go.Proofs.Ytcddllaljgfjbaa
namespace Go.Proofs.Ytcddllaljgfjbaa
set_option linter.unusedSimpArgs false
set_option linter.unusedVariables false
open Go.RowKit

def rdU8 : Rd Int := fun _ cs x => cs = [.int .u8 x] ∧ 0 ≤ x ∧ x ≤ 255
theorem rdU8_stable : Stable rdU8 := fun _ _ _ _ _ h => h
abbrev U8s := Sl rdU8 1
theorem Sl.u8 {w : World} {A : Option Addr} {n c : Nat} {l : List Int} (h : U8s w (.slice A n c) l) {k : Nat} (hk : k < l.length) :
    ∃ b o, A = some ⟨b, o, none⟩ ∧ b < w.heap.size ∧ w.cell? ⟨b, o + k, none⟩ = some (.int .u8 l[k]) ∧ 0 ≤ l[k] ∧ l[k] ≤ 255 := by
  obtain ⟨b, o, cs, hA, had, hcs, hc, rfl, h1, h2⟩ := h.at_ hk
  have := hc 0 _ rfl
  rw [Nat.mul_one, Nat.add_zero] at this
  exact ⟨b, o, hA, had, this, h1, h2⟩
theorem tmod_nat {x : Int} {m : Nat} (hx : 0 ≤ x) (hm : 0 < m) : ∃ q : Nat, x.tmod (m : Int) = (q : Int) ∧ q < m := by
  have h1 : x.tmod (m : Int) = x % (m : Int) := Int.tmod_eq_emod_of_nonneg hx
  have h2 := Int.emod_nonneg x (b := (m : Int)) (by omega)
  have h3 := Int.emod_lt_of_pos x (b := (m : Int)) (by omega)
  exact ⟨(x % (m : Int)).toNat, by rw [h1]; omega, by omega⟩
end Go.Proofs.Ytcddllaljgfjbaa
