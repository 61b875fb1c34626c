
/-
How events, lists of events and calls of a buffer open.
-/
import Derived.Test.YtcddllaljgfjbaaOpen
import Derived.Test.YtcddllaljgfjbaaCsA
import Derived.Lib.SmallJoins
namespace Go.Proofs.Ytcddllaljgfjbaa
set_option linter.unusedSimpArgs false
set_option linter.unusedVariables false
open Go.ChangeShapes Go.WideShapes Go.ChangeAt Go.RowKit

section
variable {H : Type} {enc : TypeId × Value → H} {P : Program} {w : World} {base : Nat} {spare : Nat → Bool} {held : Bool}
theorem opF {t : Nat} {fs : Array Field} (ht : P.underlying t = some (.struct fs)) {n : Nat} {cs : List Value} {y : DataW H × List MemPlace} (h : DataW.trod enc P w base spare held n t cs = some y) :
    cs.length = P.cellsOf t ∧ ∀ (i : Nat) (f : Field) (sz : Nat), fs[i]? = some f → P.cellsOf f.type = sz → ∃ m d p, DataW.trod enc P w base spare held m f.type ((cs.drop f.offset).take sz) = some (d, p) := by
  obtain ⟨xs, m, -, rfl, hlen, hxl, hf⟩ := DataW.trod_struct ht h
  refine ⟨hlen, fun i f sz hi hs => ?_⟩
  have h1 := hf i f hi
  have hil : i < fs.size := (Array.getElem?_eq_some_iff.1 hi).1
  have hil' : i < xs.length := by omega
  rw [hs, List.getElem?_eq_getElem hil'] at h1
  exact ⟨m, (xs[i]).1, (xs[i]).2, h1⟩
theorem opI {t : Nat} {u : Value} (ht : P.underlying t = some (.int .i64)) (h : ∃ m d p, DataW.trod enc P w base spare held m t [u] = some (d, p)) : ∃ x : Int, u = .int .i64 x := by
  obtain ⟨m, d, p, h⟩ := h
  obtain ⟨x, hx, -⟩ := DataW.trod_int ht h
  injection hx with hx
  exact ⟨x, hx⟩
end
section
variable {H : Type} {enc : TypeId × Value → H} {w : World} {base : Nat} {spare : Nat → Bool} {held : Bool}
theorem opRt (n : Nat) (cs : List Value) (y : DataW H × List MemPlace) (h : DataW.trod enc Try.prog w base spare held n 29 cs = some y) : ∃ x : Int × Int × Int, cs = [.int .i64 x.1, .int .i64 x.2.1, .int .i64 x.2.2] := by
  obtain ⟨hl, hf⟩ := opF Try.underlying29 h
  rw [show Try.prog.cellsOf 29 = 3 by kernel_rfl] at hl
  match cs, hl with
  | [u0, u1, u2], _ =>
    obtain ⟨a, rfl⟩ := opI Try.underlying3 (u := u0) (hf 0 _ 1 rfl (by kernel_rfl))
    obtain ⟨b, rfl⟩ := opI Try.underlying3 (u := u1) (hf 1 _ 1 rfl (by kernel_rfl))
    obtain ⟨c, rfl⟩ := opI Try.underlying3 (u := u2) (hf 2 _ 1 rfl (by kernel_rfl))
    exact ⟨(a, b, c), rfl⟩
theorem opNd (n : Nat) (cs : List Value) (y : DataW H × List MemPlace) (h : DataW.trod enc Try.prog w base spare held n 31 cs = some y) : ∃ x : Gv, cs = [.int .i64 x.1.1, .int .i64 x.1.2.1, .int .i64 x.1.2.2, .int .i64 x.2] := by
  obtain ⟨hl, hf⟩ := opF Try.underlying31 h
  rw [show Try.prog.cellsOf 31 = 4 by kernel_rfl] at hl
  match cs, hl with
  | [u0, u1, u2, u3], _ =>
    obtain ⟨m, d, p, t0⟩ := hf 0 _ 3 rfl (by kernel_rfl)
    obtain ⟨x, hx⟩ := opRt _ [u0, u1, u2] _ t0
    obtain ⟨a, rfl⟩ := opI Try.underlying3 (u := u3) (hf 1 _ 1 rfl (by kernel_rfl))
    simp only [List.cons.injEq, and_true] at hx
    obtain ⟨rfl, rfl, rfl⟩ := hx
    exact ⟨(x, a), rfl⟩
theorem opIntsL {v : Value} {n : Nat} {y : DataW H × List MemPlace} (h : DataW.trod enc Try.prog w base spare held n 27 [v] = some y) : ∃ l, Ints w v l :=
  opS Try.underlying27 (by kernel_rfl) (by omega) (fun n cs y h => by
    obtain ⟨x, rfl, -⟩ := DataW.trod_int Try.underlying3 h
    exact ⟨x, rfl⟩) h
theorem opEv (n : Nat) (cs : List Value) (y : DataW H × List MemPlace) (h : DataW.trod enc Try.prog w base spare held n 33 cs = some y) : ∃ x : Ev, rdEv w cs x := by
  obtain ⟨hl, hf⟩ := opF Try.underlying33 h
  rw [show Try.prog.cellsOf 33 = 13 by kernel_rfl] at hl
  match cs, hl with
  | [u0, u1, u2, u3, u4, u5, u6, u7, u8, u9, u10, u11, u12], _ =>
    obtain ⟨r, rfl⟩ := opI Try.underlying3 (u := u0) (hf 0 _ 1 rfl (by kernel_rfl))
    obtain ⟨nn, rfl⟩ := opI Try.underlying3 (u := u1) (hf 1 _ 1 rfl (by kernel_rfl))
    obtain ⟨t, rfl⟩ := opI Try.underlying3 (u := u2) (hf 2 _ 1 rfl (by kernel_rfl))
    obtain ⟨m3, d3, p3, t3⟩ := hf 3 _ 1 rfl (by kernel_rfl)
    obtain ⟨pa, hpa⟩ := opIntsL (v := u3) t3
    obtain ⟨kd, rfl⟩ := opI Try.underlying3 (u := u4) (hf 4 _ 1 rfl (by kernel_rfl))
    obtain ⟨ac, rfl⟩ := opI Try.underlying3 (u := u5) (hf 5 _ 1 rfl (by kernel_rfl))
    obtain ⟨m6, d6, p6, t6⟩ := hf 6 _ 4 rfl (by kernel_rfl)
    obtain ⟨g, hg⟩ := opNd _ [u6, u7, u8, u9] _ t6
    obtain ⟨ds, rfl⟩ := opI Try.underlying3 (u := u10) (hf 7 _ 1 rfl (by kernel_rfl))
    obtain ⟨pl, rfl⟩ := opI Try.underlying3 (u := u11) (hf 8 _ 1 rfl (by kernel_rfl))
    obtain ⟨se, rfl⟩ := opI Try.underlying3 (u := u12) (hf 9 _ 1 rfl (by kernel_rfl))
    simp only [List.cons.injEq, and_true] at hg
    obtain ⟨rfl, rfl, rfl, rfl⟩ := hg
    exact ⟨⟨r, nn, t, pa, kd, ac, g, ds, pl, se⟩, u3, rfl, hpa⟩
theorem opEvs {v : Value} {n : Nat} {y : DataW H × List MemPlace} (h : DataW.trod enc Try.prog w base spare held n 35 [v] = some y) : ∃ l, Evs w v l :=
  opS Try.underlying35 (by kernel_rfl) (by omega) opEv h
theorem opAct (n : Nat) (cs : List Value) (y : DataW H × List MemPlace) (h : DataW.trod enc Try.prog w base spare held n 49 cs = some y) : ∃ x : Ac, rdAc w cs x := by
  obtain ⟨hl, hf⟩ := opF Try.underlying49 h
  rw [show Try.prog.cellsOf 49 = 14 by kernel_rfl] at hl
  match cs, hl with
  | [u0, u1, u2, u3, u4, u5, u6, u7, u8, u9, u10, u11, u12, u13], _ =>
    obtain ⟨m0, d0, p0, t0⟩ := hf 0 _ 13 rfl (by kernel_rfl)
    obtain ⟨e, ve, hev, hpe⟩ := opEv _ [u0, u1, u2, u3, u4, u5, u6, u7, u8, u9, u10, u11, u12] _ t0
    obtain ⟨m1, d1, p1, t1⟩ := hf 1 _ 1 rfl (by kernel_rfl)
    obtain ⟨c, hc⟩ := opIntsL (v := u13) t1
    exact ⟨⟨e, c⟩, ve, u13, by unfold acL; rw [← hev]; rfl, hpe, hc⟩
theorem opActs {v : Value} {n : Nat} {y : DataW H × List MemPlace} (h : DataW.trod enc Try.prog w base spare held n 42 [v] = some y) : ∃ l, Acs w v l :=
  opS Try.underlying42 (by kernel_rfl) (by omega) opAct h
end
end Go.Proofs.Ytcddllaljgfjbaa
