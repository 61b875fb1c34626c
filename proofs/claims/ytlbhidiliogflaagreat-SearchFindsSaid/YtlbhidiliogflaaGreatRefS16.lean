
/-
The reference's solutions and their number: the walks.
-/
import Derived.Test.YtlbhidiliogflaaGreatSG
import Derived.Test.YtlbhidiliogflaaGreatSB
import Derived.Test.YtlbhidiliogflaaGreatGM
import Derived.Test.YtlbhidiliogflaaGreatKB
import Derived.Test.YtlbhidiliogflaaGreatKA
import Derived.Test.YtlbhidiliogflaaGreatDB
import Derived.Deep.LoopGhost
namespace Go.Proofs.YtlbhidiliogflaaGreat
set_option linter.unusedSimpArgs false
set_option linter.unusedVariables false
open Go.RowKit

def rdIL : Rd (List Int) := fun w cs l => ∃ v, cs = [v] ∧ Ints w v l
theorem rdIL_stable : Stable rdIL := fun _ _ _ _ hb ⟨v, h1, h2⟩ => ⟨v, h1, h2.keep (pl_stable _) hb⟩
theorem stIntsM : SliceT Tryz.prog 44 30 1 24 := SliceT.mk' Tryz.underlying44 (z := .slice none 0 0) (by kernel_rfl) rfl (by omega)
def solsL (s : Sys) : List (List Int) := if validS s then (allS s.box).filter (holdsS s) else []
/-- an element with a row of its own comes up -/
theorem NL.push {S : Nat → Prop} {z : Nat} {w w' : World} {vo vo' vv : Value} {css : List (Elm 1)} {xs : List (List Int)} {l : List Int} {c : Elm 1} {e : TypeId} (h : NL rdIL e 1 S w vo css xs) (hc : c.val = [vv]) (ho : Own encInt 3 1 z w vv l) (own' : Own encC e 1 0 w' vo' (css ++ [c]))
    (hg : w.grownBy w' vo.ownBlock) (hat : vo'.ownBlock = vo.ownBlock ∨ vo'.ownBlock = some w.heap.size) (hS : ∀ q, z ≤ q → S q) (hz : z ≤ w.heap.size) (hne : ∀ q, vv.ownBlock = some q → vo.ownBlock ≠ some q) : NL rdIL e 1 S w' vo' (css ++ [c]) (xs ++ [l]) :=
  h.snoc own' hg hat (fun q => vv.ownBlock = some q) (fun q hq => ⟨hS q (ho.ge q hq), hne q hq, ho.blk_lt q hq⟩) (ho.owS.imp fun w2 h2 => ⟨vv, hc, h2.sl encInt_len⟩) (fun _ h => h) (hS _ hz)
end Go.Proofs.YtlbhidiliogflaaGreat
