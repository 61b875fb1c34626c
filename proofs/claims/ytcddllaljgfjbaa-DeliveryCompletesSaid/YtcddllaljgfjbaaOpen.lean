
/-
How the arguments of a law open: into the words of the walks.
-/
import Derived.Test.YtcddllaljgfjbaaRows
import Derived.Test.YtcddllaljgfjbaaLib
import Derived.ProofKit
import Derived.OpenShut
import Derived.ChangeOld
import Derived.Deep.Slices
import Derived.Deep.Fields
import Derived.ChangeSame
namespace Go.Proofs.Ytcddllaljgfjbaa
set_option linter.unusedSimpArgs false
set_option linter.unusedVariables false
open Go.ChangeShapes Go.WideShapes Go.ChangeAt Go.RowKit

section
variable {H : Type} {enc : TypeId × Value → H} {P : Program} {w : World} {base : Nat} {spare : Nat → Bool} {held : Bool}
theorem addr_of_cell {a : Addr} {n : Nat} {v : Value} (h : w.cell? (a.add n) = some v) (h0 : n = 0 → a.spot = none) : a.add n = ⟨a.block, a.off + n, none⟩ := by
  unfold Addr.add
  split
  · rename_i hn
    obtain ⟨b, o, s⟩ := a
    have := h0 hn
    dsimp only at this
    rw [this, hn]
    rfl
  · rfl
theorem spot_of_cell {a : Addr} {v : Value} (h : w.cell? a = some v) : a.spot = none := by
  unfold World.cell? at h
  split at h
  · split at h
    · cases h
    · rename_i hs; simpa using hs
  · cases h

theorem opS {α : Type} [Inhabited α] {R : Rd α} {t e size : Nat} (ht : P.underlying t = some (.slice e)) (hC : P.cellsOf e = size) (hp : 0 < size)
    (hel : ∀ n cs y, DataW.trod enc P w base spare held n e cs = some y → ∃ x, R w cs x) {v : Value} {fuel : Nat} {y : DataW H × List MemPlace} (h : DataW.trod enc P w base spare held fuel t [v] = some y) :
    ∃ l : List α, Sl R size w v l := by
  rcases Deep.open_slice ht h with ⟨hv, -⟩ | ⟨a, len, cap, m, n, D, Pl, hcs, hb, hl, hm, hmm, -, hi⟩
  · injection hv with hv
    subst hv
    exact ⟨[], Sl.nil _ _ _⟩
  · injection hcs with hv
    subst hv
    have hlm : len ≤ m := by rw [hmm]; split <;> omega
    have key : ∀ i, i < len → ∃ x : α, ∃ cs : List Value, cs.length = size ∧ a.block < w.heap.size ∧ (∀ j u, cs[j]? = some u → w.cell? ⟨a.block, a.off + i * size + j, none⟩ = some u) ∧ R w cs x := by
      intro i hil
      obtain ⟨cs, hc, htr⟩ := hi i (by omega)
      rw [hC] at hc
      obtain ⟨-, hlen, hat⟩ := World.cells?_some hc
      obtain ⟨x, hx⟩ := hel n cs _ htr
      have h0 := hat 0 hp
      have hsome : ∃ u, cs[0]? = some u := ⟨cs[0], List.getElem?_eq_getElem (by omega)⟩
      obtain ⟨u0, hu0⟩ := hsome
      rw [hu0] at h0
      have hblk : a.block < w.heap.size := by
        have h1 := block_lt_of_cell h0
        have e1 : ((a.add (i * size)).add 0).block = a.block := by unfold Addr.add; split <;> split <;> rfl
        rw [e1] at h1
        exact h1
      refine ⟨x, cs, hlen, hblk, fun j u hj => ?_, hx⟩
      have hjl : j < size := by rw [← hlen]; exact (List.getElem?_eq_some_iff.1 hj).1
      have h2 := hat j hjl
      rw [hj, Deep.add_add] at h2
      rw [Deep.add_add] at h0
      have hsp : i * size + j = 0 → a.spot = none := fun hz => by
        have : i * size + 0 = 0 := by omega
        rw [this] at h0
        exact spot_of_cell (show w.cell? a = some u0 from by simpa [Addr.add] using h0)
      rw [addr_of_cell h2 hsp] at h2
      rw [← h2, Nat.add_assoc]
    obtain ⟨f, hf⟩ := Deep.choose_lt (p := fun i x => ∃ cs : List Value, cs.length = size ∧ a.block < w.heap.size ∧ (∀ j u, cs[j]? = some u → w.cell? ⟨a.block, a.off + i * size + j, none⟩ = some u) ∧ R w cs x) key
    have hsp0 : 0 < len → a.spot = none := fun h0 => by
      obtain ⟨cs, hc, -⟩ := hi 0 (by omega)
      rw [hC] at hc
      obtain ⟨-, hlen, hat⟩ := World.cells?_some hc
      have h1 := hat 0 hp
      rw [List.getElem?_eq_getElem (by omega)] at h1
      exact spot_of_cell (show w.cell? a = some _ from by simpa [Addr.add] using h1)
    refine ⟨(List.range len).map f, some a, cap, by simp, by simpa using hl, by unfold maxLen at hm; exact hm, fun k hk => ?_⟩
    have hk' : k < len := by simpa using hk
    obtain ⟨cs, h1, h2, h3, h4⟩ := hf k hk'
    refine ⟨a.block, a.off, cs, ?_, h2, h1, h3, by simpa using h4⟩
    have := hsp0 (by omega)
    obtain ⟨b, o, s⟩ := a
    dsimp only at this
    rw [this]
theorem opInt {t : Nat} (ht : P.underlying t = some (.int .i64)) (n : Nat) (cs : List Value) (y : DataW H × List MemPlace) (h : DataW.trod enc P w base spare held n t cs = some y) : ∃ x : Int, Pl encInt w cs x := by
  obtain ⟨x, rfl, -⟩ := DataW.trod_int ht h
  exact ⟨x, rfl⟩
theorem opBool {t : Nat} (ht : P.underlying t = some .bool) (n : Nat) (cs : List Value) (y : DataW H × List MemPlace) (h : DataW.trod enc P w base spare held n t cs = some y) : ∃ x : Bool, Pl encBool w cs x := by
  obtain ⟨x, rfl, -⟩ := DataW.trod_bool ht h
  exact ⟨x, rfl⟩
/-- the fields of a struct, each of one cell -/
theorem opFields {t : Nat} {fs : Array Field} (ht : P.underlying t = some (.struct fs)) (hone : Deep.oneCellFields P fs = true) (hC : P.cellsOf t = fs.size) {n : Nat} {cs : List Value} {y : DataW H × List MemPlace}
    (h : DataW.trod enc P w base spare held n t cs = some y) : cs.length = fs.size ∧ ∀ (i : Nat) (f : Field), fs[i]? = some f → ∃ (v : Value) (m : Nat) (z : DataW H × List MemPlace), cs[i]? = some v ∧ DataW.trod enc P w base spare held m f.type [v] = some z := by
  obtain ⟨xs, m, -, -, hlen, hxl, hf⟩ := DataW.trod_struct ht h
  rw [hC] at hlen
  refine ⟨hlen, fun i f hi => ?_⟩
  obtain ⟨ho, hk⟩ := Deep.hone_of hone i f hi
  have hil : i < fs.size := (Array.getElem?_eq_some_iff.1 hi).1
  have h1 := hf i f hi
  rw [ho, hk] at h1
  have hone' : (cs.drop i).take 1 = [cs[i]'(by omega)] := by
    rw [List.drop_eq_getElem_cons (by omega)]
    rfl
  rw [hone', List.getElem?_eq_getElem (by omega)] at h1
  exact ⟨_, m, _, List.getElem?_eq_getElem (by omega), h1⟩
end
/-- the one cell of a slice value, of an integer -/
theorem trod_slice_value {H : Type} {enc : TypeId × Value → H} {P : Program} {w : World} {b : Nat} {sp : Nat → Bool} {hd : Bool} {t : Nat} {a : Option Addr} {l c : Nat} {d : DataW H} {p : List MemPlace} (h : DataW.Trod enc P w b sp hd t (.slice a l c) d p) :
    ∃ fuel, DataW.trod enc P w b sp hd fuel t [.slice a l c] = some (d, p) := by
  obtain ⟨n, hn⟩ := h
  exact ⟨n, by simpa [Value.cells] using hn⟩
end Go.Proofs.Ytcddllaljgfjbaa
