
/-
No proper prefix of an encoding, nor an encoding with further bytes behind it, is one: plain facts.
-/
import Derived.Test.YtmeafoakbkjifaaNC
namespace Go.Proofs.Ytmeafoakbkjifaa
set_option linter.unusedSimpArgs false
set_option linter.unusedVariables false
open Go.RowKit

/-- what is read alone is read with more behind it -/
def Ext {α : Type} (P : Ps α) : Prop := ∀ l y l', P l = some (y, []) → P (l ++ l') = some (y, l')
theorem Good.ext {α : Type} {P : Ps α} {f : α → List Int} (h : Good P f) : Ext P := fun l y l' hl => by
  have h1 := (h l y []).1 hl
  rw [List.append_nil] at h1
  exact (h _ y l').2 (by rw [h1])
theorem record_ext : Ext recordP := fun l y l' hl => by
  obtain ⟨h0, h1⟩ := (recordP_some l y []).1 hl
  rw [List.append_nil] at h1
  exact (recordP_some _ y l').2 ⟨h0, by rw [h1]⟩
theorem readE_none {α : Type} (P : Ps α) {bs : List UInt8} (h3 : bs.length ≤ 65536) (h : ∀ l y, dec 0 0 bs = some l → P l ≠ some (y, [])) : readE P bs = (none, 13) := by
  have hD : decE bs = decO (dec 0 0 bs) := by unfold decE; rw [if_neg (by omega)]
  unfold readE
  rw [hD]
  cases hd : dec 0 0 bs with
  | none => simp [decO]
  | some l =>
    simp only [decO, if_true]
    cases hP : P l with
    | none => rfl
    | some q =>
      obtain ⟨y, l2⟩ := q
      cases l2 with
      | nil => exact absurd hP (h l y hd)
      | cons a b => rfl
section
variable {α : Type} {P : Ps α} (hE : Ext P) {m : List Int} {bs : List UInt8} {x : α} (hP : P m = some (x, [])) (h1 : encB m = bs) (h2 : ∀ n ∈ m, OkI n) (h3 : bs.length ≤ 65536)
include hE hP h1 h2 h3
theorem prefix_bad (k : Nat) (hk : k < bs.length) : readE P (bs.take k) = (none, 13) := by
  refine readE_none P (by rw [List.length_take]; omega) fun l y hd hy => ?_
  obtain ⟨e1, e2⟩ := (dec_iff _ _).1 hd
  have hd2 : dec 0 0 bs = some m := (dec_iff bs m).2 ⟨h1, h2⟩
  have hs : bs = encB l ++ bs.drop k := by rw [e1, List.take_append_drop]
  rw [hs, dec_encB l _ e2] at hd2
  cases hr : dec 0 0 (bs.drop k) with
  | none => rw [hr] at hd2; simp at hd2
  | some l2 =>
    rw [hr] at hd2
    simp only [Option.map_some, Option.some.injEq] at hd2
    have h4 := hE l y l2 hy
    rw [hd2, hP] at h4
    simp only [Option.some.injEq, Prod.mk.injEq] at h4
    obtain ⟨-, rfl⟩ := h4
    have h5 := ((dec_iff _ _).1 hr).1
    have h6 := congrArg List.length h5
    simp [encB] at h6
    omega
theorem more_bad (more : List UInt8) (hm : more ≠ []) : (readE P (bs ++ more)).2 ≠ 0 := by
  intro h0
  have _ := h3
  obtain ⟨y, l, -, hy, e1, e2, e3⟩ := readE_zero (P := P) (bs := bs ++ more) (o := (readE P (bs ++ more)).1) (by rw [← h0])
  have hd : dec 0 0 (bs ++ more) = some l := (dec_iff _ _).2 ⟨e1, e2⟩
  rw [← h1, dec_encB m more h2] at hd
  cases hr : dec 0 0 more with
  | none => rw [hr] at hd; simp at hd
  | some l2 =>
    rw [hr] at hd
    simp only [Option.map_some, Option.some.injEq] at hd
    have h4 := hE m x l2 hP
    rw [hd, hy] at h4
    simp only [Option.some.injEq, Prod.mk.injEq] at h4
    obtain ⟨-, rfl⟩ := h4
    have h5 := ((dec_iff _ _).1 hr).1
    exact hm (by rw [← h5]; rfl)
end
/-- what an encoding of x with the bytes bs says -/
structure Codes {α : Type} (P : Ps α) (x : α) (bs : List UInt8) : Prop where
  pos : 0 < bs.length
  short : bs.length ≤ 65536
  self : readE P bs = (some x, 0)
  pre : ∀ k, k < bs.length → readE P (bs.take k) = (none, 13)
  more : ∀ more, more ≠ [] → (readE P (bs ++ more)).2 ≠ 0
theorem codes_of {α : Type} {P : Ps α} {f : α → List Int} (hg : Good P f) {x : α} {bs : List UInt8} (hf : 0 < (f x).length) (h : encE (f x) = (bs, 0)) : Codes P x bs := by
  obtain ⟨h1, h2, h3⟩ := encE_zero h
  have hP : P (f x) = some (x, []) := (hg _ _ _).2 (by simp)
  exact ⟨by have := encB_le (f x); rw [h1] at this; omega, h3, read_enc hg h, fun k hk => prefix_bad hg.ext hP h1 h2 h3 k hk, fun mo hm => more_bad hg.ext hP h1 h2 h3 mo hm⟩
theorem codes_rec {x : Record} {bs : List UInt8} (h : encR x = (bs, 0)) : Codes recordP x bs := by
  have h0 := read_encR h
  unfold encR at h
  split at h
  · rename_i hf
    obtain ⟨h1, h2, h3⟩ := encE_zero h
    have hP : recordP (numRecord x) = some (x, []) := (recordP_some _ _ _).2 ⟨hf, by simp⟩
    exact ⟨by have := encB_le (numRecord x); rw [h1] at this; simp only [numRecord, List.length_cons] at this; omega, h3, h0, fun k hk => prefix_bad record_ext hP h1 h2 h3 k hk, fun mo hm => more_bad record_ext hP h1 h2 h3 mo hm⟩
  · simp at h
end Go.Proofs.Ytmeafoakbkjifaa
