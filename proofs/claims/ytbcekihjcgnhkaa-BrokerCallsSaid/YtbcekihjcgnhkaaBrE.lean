
/-
The reference of the broker: the end of a request: the walk.
-/
import Derived.Test.YtbcekihjcgnhkaaBrD
namespace Go.Proofs.Ytbcekihjcgnhkaa
set_option linter.unusedSimpArgs false
set_option linter.unusedVariables false
open Go.RowKit

theorem results_cell2_tmp {P : Program} {fn : Func} {p q u : Tmp} {t1 t2 : TypeId} (h : fn.results = #[.cell p t1, .cell q t2, .tmp u]) (tmps : Array Value) (w : World) (b1 b2 : Nat) (cs1 cs2 : List Value) (d1 d2 : TypeDesc)
    (hp : tmps.getD p undef = .pointer (some ⟨b1, 0, none⟩)) (hq : tmps.getD q undef = .pointer (some ⟨b2, 0, none⟩)) (hc1 : w.rangeAt b1 0 cs1) (hc2 : w.rangeAt b2 0 cs2)
    (hu1 : P.underlying t1 = some d1) (hd1 : d1.isRow = true) (hi1 : (P.info? t1).map (·.size) = some cs1.length) (hu2 : P.underlying t2 = some d2) (hd2 : d2.isRow = true) (hi2 : (P.info? t2).map (·.size) = some cs2.length) :
    (results fn tmps).run P w = .ok (.tuple #[.agg cs1.toArray, .agg cs2.toArray, tmps.getD u undef]) w := by
  have e1 := run_loadVar_mid w b1 0 t1 cs1 d1 hc1 hu1 hd1 hi1
  have e2 := run_loadVar_mid w b2 0 t2 cs2 d2 hc2 hu2 hd2 hi2
  have hp' : tmps[p]?.getD undef = .pointer (some ⟨b1, 0, none⟩) := by rw [← hp]; simp [Array.getD_eq_getD_getElem?]
  have hq' : tmps[q]?.getD undef = .pointer (some ⟨b2, 0, none⟩) := by rw [← hq]; simp [Array.getD_eq_getD_getElem?]
  simp only [results, h]
  simp [Sem.run_bind, Result.andThen, hp', hq', asAddr, e1, e2]
end Go.Proofs.Ytbcekihjcgnhkaa
