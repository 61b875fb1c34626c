
/-
The laws' own example of chapter 50: plain facts.
-/
import Derived.Test.YtmokpnkpfodppaaNetD
namespace Go.Proofs.Ytmokpnkpfodppaa
set_option linter.unusedSimpArgs false
set_option linter.unusedVariables false
open Go.RowKit

def awF : List Fate := [⟨false, 3, 0⟩, ⟨false, 1, 2⟩]
def awM (k : Int) : Message := { zM with to := 1, term := k }
def aw1 : Net := (sendN (newN 2 awF) (awM 1) 0).1
def aw2 : Net := (sendN aw1 (awM 2) 0).1
def aw3 : Net := (deliverN aw2 1).1
def aw4 : Net := (deliverN aw3 2).1
def aw5 : Net := (deliverN aw4 3).1
theorem aw_new : badNew 2 awF = false := by decide +kernel
theorem aw_s1 : (sendN (newN 2 awF) (awM 1) 0).2 = 0 := by decide +kernel
theorem aw_s2 : (sendN aw1 (awM 2) 0).2 = 0 := by decide +kernel
theorem aw_l2 : aw2.fly.length = 3 := by decide +kernel
theorem aw_k2 : linkedB aw2.reps aw2.cuts 0 1 = true := by decide +kernel
theorem aw_d1 : (deliverN aw2 1).2.2 = 0 := by decide +kernel
theorem aw_d2 : (deliverN aw3 2).2.2 = 0 := by decide +kernel
theorem aw_d3 : (deliverN aw4 3).2.2 = 0 := by decide +kernel
theorem aw_o1 : (deliverN aw2 1).2.1.map (·.term) = [2] := by decide +kernel
theorem aw_o2 : (deliverN aw3 2).2.1.map (·.term) = [2] := by decide +kernel
theorem aw_o3 : (deliverN aw4 3).2.1.map (·.term) = [1] := by decide +kernel
theorem aw_l5 : aw5.fly.length = 0 := by decide +kernel
theorem aw_few : Few (newN 2 awF) ∧ Few aw1 ∧ Few aw2 ∧ Few aw3 ∧ Few aw4 := by unfold Few; decide +kernel
end Go.Proofs.Ytmokpnkpfodppaa
