
/-
How systems open.
-/
import Derived.Test.YtlbhidiliogflaaGreatIntOpen
import Derived.Test.YtlbhidiliogflaaGreatSA
namespace Go.Proofs.YtlbhidiliogflaaGreat
set_option linter.unusedSimpArgs false
set_option linter.unusedVariables false
open Go.ChangeShapes Go.WideShapes Go.ChangeAt Go.RowKit

instance : Inhabited Gr := ⟨⟨0, 0, []⟩⟩
instance : Inhabited Sys := ⟨⟨[], [], [], []⟩⟩
section
variable {H : Type} {enc : TypeId × Value → H} {w : World} {base : Nat} {spare : Nat → Bool} {held : Bool}
theorem three_of {cs : List Value} {a b c : Value} (hl : cs.length = 3) (h0 : cs[0]? = some a) (h1 : cs[1]? = some b) (h2 : cs[2]? = some c) : cs = [a, b, c] := by
  match cs, hl with
  | [x, y, z], _ => simp at h0 h1 h2; rw [h0, h1, h2]
theorem opGr (n : Nat) (cs : List Value) (y : DataW H × List MemPlace) (h : DataW.trod enc Tryz.prog w base spare held n 83 cs = some y) : ∃ x : Gr, rdGr w cs x := by
  obtain ⟨hl, hf⟩ := opFields Tryz.underlying83 (by kernel_rfl) (by kernel_rfl) h
  obtain ⟨v0, m0, z0, c0, t0⟩ := hf 0 _ rfl
  obtain ⟨v1, m1, z1, c1, t1⟩ := hf 1 _ rfl
  obtain ⟨v2, m2, z2, c2, t2⟩ := hf 2 _ rfl
  obtain ⟨x0, rfl⟩ := opField_int Tryz.underlying3 t0
  obtain ⟨x1, rfl⟩ := opField_int Tryz.underlying3 t1
  obtain ⟨l, hlr⟩ := opInts t2
  exact ⟨⟨x0, x1, l⟩, v2, three_of hl c0 c1 c2, hlr⟩
theorem opGrs {v : Value} {n : Nat} {y : DataW H × List MemPlace} (h : DataW.trod enc Tryz.prog w base spare held n 24 [v] = some y) : ∃ l, GrsL w v l :=
  opS Tryz.underlying24 (by kernel_rfl) (by omega) opGr h
theorem one_of {cs : List Value} (hl : cs.length = 1) : ∃ v, cs = [v] := by
  match cs, hl with
  | [x], _ => exact ⟨x, rfl⟩
theorem opCase (n : Nat) (cs : List Value) (y : DataW H × List MemPlace) (h : DataW.trod enc Tryz.prog w base spare held n 23 cs = some y) : ∃ x : List Row, rdRows w cs x := by
  obtain ⟨v, rfl⟩ : ∃ v, cs = [v] := by
    rcases Deep.open_slice Tryz.underlying23 h with ⟨hv, -⟩ | ⟨a, len, cap, m, n, D, Pl, hcs, -⟩
    · exact ⟨_, hv⟩
    · exact ⟨_, hcs⟩
  obtain ⟨l, hl⟩ := opRows h
  exact ⟨l, v, rfl, hl⟩
theorem opCases {v : Value} {n : Nat} {y : DataW H × List MemPlace} (h : DataW.trod enc Tryz.prog w base spare held n 25 [v] = some y) : ∃ l, CasesL w v l :=
  opS Tryz.underlying25 (by kernel_rfl) (by omega) opCase h
set_option maxRecDepth 100000 in
theorem opSys {r : Reach} {b0 : Nat} {v : Value} {d : DataW H} {p : List MemPlace} (hv : Value.okWide Tryz.prog w r b0 27 v) (h : DataW.Trod enc Tryz.prog w base spare held 27 v d p) : ∃ s, SysV w v s := by
  obtain ⟨v0, v1, v2, v3, y0, y1, y2, y3, n, rfl, -, -, h0, h1, h2, h3⟩ := Joins.open_agg4 Tryz.underlying27 (by kernel_rfl) (by kernel_rfl) hv h
  obtain ⟨bx, hb⟩ := opRngs h0
  obtain ⟨rw', hr⟩ := opRows h1
  obtain ⟨gr, hg⟩ := opGrs h2
  obtain ⟨ca, hc⟩ := opCases h3
  obtain ⟨Ab, cb, rfl, -, -⟩ := hb.form
  obtain ⟨Ar, cr, rfl, -, -⟩ := hr.form
  obtain ⟨Ag, cg, rfl, -, -⟩ := hg.form
  obtain ⟨Ac, cc, rfl, -, -⟩ := hc.form
  exact ⟨⟨bx, rw', gr, ca⟩, Ab, cb, Ar, cr, Ag, cg, Ac, cc, rfl, hb, hr, hg, hc⟩
end
end Go.Proofs.YtlbhidiliogflaaGreat
