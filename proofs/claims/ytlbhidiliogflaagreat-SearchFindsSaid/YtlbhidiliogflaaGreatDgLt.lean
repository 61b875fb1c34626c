
/-
The order of lists of vertices: shorter, or as long and less: plain (the same lines as in DgQ, for seats without its walks).
-/
import Derived.Test.YtlbhidiliogflaaGreatDA
import Derived.Test.YtlbhidiliogflaaGreatDB
namespace Go.Proofs.YtlbhidiliogflaaGreat
set_option linter.unusedSimpArgs false
set_option linter.unusedVariables false
open Go.RowKit

def ltI : List Int → List Int → Prop
  | _, [] => False
  | [], _ :: _ => True
  | x :: a, y :: b => x < y ∨ (x = y ∧ ltI a b)
theorem ltI_irrefl : ∀ a : List Int, ¬ ltI a a
  | [] => by simp [ltI]
  | x :: a => by
    unfold ltI
    have := ltI_irrefl a
    simp [this]
theorem ltI_trans : ∀ a b c : List Int, ltI a b → ltI b c → ltI a c
  | _, [], _, h, _ => by cases ‹List Int› <;> simp [ltI] at h
  | _, _ :: _, [], _, h => by simp [ltI] at h
  | [], _ :: _, _ :: _, _, _ => by simp [ltI]
  | x :: a, y :: b, z :: c, h, k => by
    unfold ltI at h k ⊢
    have := ltI_trans a b c
    rcases h with h | ⟨h, h'⟩ <;> rcases k with k | ⟨k, k'⟩
    · exact .inl (by omega)
    · exact .inl (by omega)
    · exact .inl (by omega)
    · exact .inr ⟨by omega, this h' k'⟩
theorem ltI_total : ∀ a b : List Int, ltI a b ∨ a = b ∨ ltI b a
  | [], [] => .inr (.inl rfl)
  | [], _ :: _ => .inl trivial
  | _ :: _, [] => .inr (.inr trivial)
  | x :: a, y :: b => by
    unfold ltI
    rcases ltI_total a b with h | h | h
    all_goals
      rcases Int.lt_trichotomy x y with k | k | k
      · exact .inl (.inl k)
      · first | exact .inl (.inr ⟨k, h⟩) | exact .inr (.inr (.inr ⟨k.symm, h⟩)) | exact .inr (.inl (by rw [k, h]))
      · exact .inr (.inr (.inl k))
/-- shorter, or as long and less -/
def ltLL (a b : List Int) : Prop := a.length < b.length ∨ (a.length = b.length ∧ ltI a b)
theorem ltLL_irrefl (a : List Int) : ¬ ltLL a a := by
  rintro (h | ⟨-, h⟩)
  · omega
  · exact ltI_irrefl a h
theorem ltLL_trans {a b c : List Int} (h : ltLL a b) (k : ltLL b c) : ltLL a c := by
  unfold ltLL at *
  rcases h with h | ⟨h, h'⟩ <;> rcases k with k | ⟨k, k'⟩
  · exact .inl (by omega)
  · exact .inl (by omega)
  · exact .inl (by omega)
  · exact .inr ⟨by omega, ltI_trans _ _ _ h' k'⟩
theorem ltLL_total (a b : List Int) : ltLL a b ∨ a = b ∨ ltLL b a := by
  unfold ltLL
  rcases Nat.lt_trichotomy a.length b.length with h | h | h
  · exact .inl (.inl h)
  · rcases ltI_total a b with k | k | k
    · exact .inl (.inr ⟨h, k⟩)
    · exact .inr (.inl k)
    · exact .inr (.inr (.inr ⟨h.symm, k⟩))
  · exact .inr (.inr (.inl h))
theorem castL_inj {l m : List Nat} : castL l = castL m ↔ l = m := by
  constructor
  · intro h
    unfold castL at h
    exact List.map_inj_right (fun x y e => by omega) |>.1 h
  · rintro rfl
    rfl
end Go.Proofs.YtlbhidiliogflaaGreat
