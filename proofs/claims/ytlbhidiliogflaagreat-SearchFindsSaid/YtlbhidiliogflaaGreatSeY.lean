
/-
Search: the law's example: what the plain functions give there.
-/
import Derived.Test.YtlbhidiliogflaaGreatSeX
namespace Go.Proofs.YtlbhidiliogflaaGreat
set_option linter.unusedSimpArgs false
set_option linter.unusedVariables false
open Go.RowKit

def exRow (a b bound : Int) : Row := ⟨[⟨0, a⟩, ⟨1, b⟩], bound⟩
def exS : Sys := ⟨[⟨0, 3⟩, ⟨0, 3⟩], [exRow 1 1 3, exRow (-1) (-1) (-3), exRow (-1) 1 (-2)], [], []⟩
def exS2 : Sys := ⟨exS.box, exS.rows ++ [⟨[⟨0, 1⟩], 2⟩], [], []⟩
theorem ex_prop : propR exS exS.box 10 = ([⟨0, 2, 0⟩, ⟨0, 2, 1⟩], [⟨2, 3⟩, ⟨0, 1⟩], true, 0) := by kernel_rfl
theorem ex_find8 : (findR exS 8).1.kind = 0 ∧ (findR exS 8).1.values = [3, 0] ∧ (findR exS 8).1.steps = 8 ∧ (findR exS 8).2 = 0 := ⟨by kernel_rfl, by kernel_rfl, by kernel_rfl, by kernel_rfl⟩
theorem ex_find7 : (findR exS 7).1.kind = 2 ∧ (findR exS 7).2 = 0 := ⟨by kernel_rfl, by kernel_rfl⟩
theorem ex_all : (allR exS 1).1.length = 1 ∧ (allR exS 1).2 = 0 := ⟨by kernel_rfl, by kernel_rfl⟩
def stepsT : Tr → List Stp
  | .mk _ ss _ _ _ => ss
theorem ex_ref : (findR exS2 100).1.kind = 1 ∧ 0 < (stepsT (findR exS2 100).1.tree).length ∧ (findR exS2 100).2 = 0 := ⟨by kernel_rfl, by decide +kernel, by kernel_rfl⟩
end Go.Proofs.YtlbhidiliogflaaGreat
