
/-
What is answered when a value is read from bytes.
-/
import Derived.Test.YtmokpnkpfodppaaCodD1
import Derived.Test.YtmokpnkpfodppaaRE
import Derived.Test.YtmokpnkpfodppaaRdr15
namespace Go.Proofs.Ytmokpnkpfodppaa
set_option linter.unusedSimpArgs false
set_option linter.unusedVariables false
open Go.RowKit

theorem results_cell_bx2 {P : Program} {fn : Func} {p u : Tmp} {ty : TypeId} (h : fn.results = #[.cell p ty, .tmp u]) (tmps : Array Value) (w : World) (b : Nat) (cs : List Value) (d : TypeDesc)
    (hp : tmps.getD p undef = .pointer (some ⟨b, 0, none⟩)) (hc : w.rangeAt b 0 cs) (hu : P.underlying ty = some d) (hd : d.isRow = true) (hi : (P.info? ty).map (·.size) = some cs.length) :
    (results fn tmps).run P w = .ok (.tuple #[.agg cs.toArray, tmps.getD u undef]) w := by
  rw [results_cell_tmp h, hp]
  simp [asAddr, run_loadVar_mid w b 0 ty cs d hc hu hd hi]
theorem Bx.all {w : World} {b : Nat} {Z cs : List Value} (h : Bx w b Z) (hl : cs.length = Z.length) : Bx (w.setCells b 0 cs) b cs := by
  have := h.setCells cs 0 w Z (by omega)
  have e : putV Z 0 cs = cs := by unfold putV; rw [Nat.zero_add, List.drop_of_length_le (by omega)]; simp
  rwa [e] at this
theorem enc_len_le (bs : List UInt8) (l : List Int) (h : decE bs = (l, 0)) : l.length ≤ 65536 := by
  unfold decE at h
  split at h
  · simp at h
  · rename_i hb
    cases hd : dec 0 0 bs with
    | none => rw [hd] at h; simp [decO] at h
    | some l' =>
      rw [hd] at h
      simp only [decO, Prod.mk.injEq, and_true] at h
      subst h
      have := (dec_iff bs l').1 hd
      have h2 := encB_le l'
      rw [this.1] at h2
      omega
/-- what is answered when a value is read from bytes: the value and the error -/
def readE {α : Type} (P : Ps α) (bs : List UInt8) : Option α × Int :=
  if (decE bs).2 = 0 then match P (decE bs).1 with | some (x, []) => (some x, 0) | _ => (none, 13) else (none, (decE bs).2)
theorem readE_err {α : Type} (P : Ps α) {bs : List UInt8} {l : List Int} {er : Int} (h : decE bs = (l, er)) (he : er ≠ 0) : readE P bs = (none, er) := by unfold readE; rw [h, if_neg he]
theorem readE_bad {α : Type} {P : Ps α} {bs : List UInt8} {l l' : List Int} {b : Bool} {x : α} (h : decE bs = (l, 0)) (hs : SpecP P l false x l' b) (hb : b = true ∨ 0 < l'.length) : readE P bs = (none, 13) := by
  unfold readE
  rw [h, if_pos rfl]
  unfold SpecP at hs
  simp only [Bool.false_eq_true, if_false] at hs
  dsimp only
  cases hP : P l with
  | none => rfl
  | some q =>
    obtain ⟨y, l1⟩ := q
    rw [hP] at hs
    obtain ⟨h1, rfl, rfl⟩ := hs
    cases l' with
    | nil => rcases hb with hb | hb
             · rw [h1] at hb; cases hb
             · simp at hb
    | cons _ _ => rfl
theorem readE_ok {α : Type} {P : Ps α} {bs : List UInt8} {l : List Int} {x : α} (h : decE bs = (l, 0)) (hs : SpecP P l false x [] false) : readE P bs = (some x, 0) := by
  unfold readE
  rw [h, if_pos rfl]
  unfold SpecP at hs
  simp only [Bool.false_eq_true, if_false] at hs
  dsimp only
  cases hP : P l with
  | none => rw [hP] at hs; cases hs
  | some q =>
    obtain ⟨y, l1⟩ := q
    rw [hP] at hs
    obtain ⟨-, rfl, rfl⟩ := hs
    rfl
/-- how a call ends that reads a value from bytes -/
def DecEnd {α : Type} (Q : World → Value → α → Prop) (z : α) (r : Option α × Int) (w : World) (e : Ending) (w' : World) : Prop := ∃ v, e = retD v r.2 ∧ Ow w.heap.size w'.heap.size w' (fun w2 => Q w2 v (r.1.getD z)) ∧ Kp w w'
end Go.Proofs.Ytmokpnkpfodppaa
