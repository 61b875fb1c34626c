
/-
The reference of the broker: what it is in memory.
-/
import Derived.Test.YtbcekihjcgnhkaaBrB
import Derived.Test.YtbcekihjcgnhkaaBkU
import Derived.Test.YtbcekihjcgnhkaaBkQ
namespace Go.Proofs.Ytbcekihjcgnhkaa
set_option linter.unusedSimpArgs false
set_option linter.unusedVariables false
open Go.RowKit

/-- cells of a request -/
def rdAk : Rd Ak := fun w cs a => ∃ v, cs = askL a v ∧ Nds w v a.needs
theorem rdAk_stable : Stable rdAk := fun w w' cs a hk ⟨v, e, h⟩ => ⟨v, e, h.keep (pl_stable _) hk⟩
abbrev Aks := Sl rdAk 6
theorem rdAk_one {w : World} (cs : List Value) (a : Ak) (h : rdAk w cs a) : ∀ u ∈ cs, u.oneCell' = true := by
  obtain ⟨v, rfl, h⟩ := h
  obtain ⟨A, c, rfl, -⟩ := h.form
  simp [askL, Value.oneCell']
/-- headers that lead to needs -/
theorem aks_of {w : World} {v : Value} {l : List AV} (h : Sl (Pl encAV) 6 w v l) (hn : ∀ x ∈ l, Nds w x.v x.a.needs) : Aks w v (l.map (·.a)) := by
  obtain ⟨A, c, rfl, h1, h2, h3⟩ := h
  refine ⟨A, c, by rw [List.length_map], by rw [List.length_map]; exact h1, h2, fun k hk => ?_⟩
  rw [List.length_map] at hk
  obtain ⟨b, o, cs, hA, hb, hcs, hc, hr⟩ := h3 k hk
  refine ⟨b, o, cs, hA, hb, hcs, hc, ?_⟩
  rw [List.getElem_map]
  exact ⟨l[k].v, hr, hn _ (List.getElem_mem hk)⟩
/-- requests whose headers are known, whatever happens to the blocks of X -/
def HdX (X : Nat → Prop) (w : World) (vh : Value) (l : List Ak) : Prop := ∃ L : List AV, L.map (·.a) = l ∧ (OwF X w fun w' => Sl (Pl encAV) 6 w' vh L) ∧ ∀ x ∈ L, OwF X w fun w' => Nds w' x.v x.a.needs
theorem HdX.fx {X : Nat → Prop} {w w' : World} {vh : Value} {l : List Ak} (h : HdX X w vh l) (k : Fx X w w') : HdX X w' vh l := by
  obtain ⟨L, e, h1, h2⟩ := h
  exact ⟨L, e, h1.fx k, fun x hx => (h2 x hx).fx k⟩
theorem HdX.aks {X : Nat → Prop} {w : World} {vh : Value} {l : List Ak} (h : HdX X w vh l) : OwF X w fun w' => Aks w' vh l := by
  obtain ⟨L, rfl, h1, h2⟩ := h
  exact fun w' k => aks_of (h1 w' k) (fun x hx => h2 x hx w' k)
def priO (o : Option (Pr × List Nd)) : Pr := match o with | none => (0, 0, 0, 0) | some q => q.1
def lstO (o : Option (Pr × List Nd)) : List Nd := match o with | none => [] | some q => q.2
abbrev refL (b : Bk) (va vh : Value) : List Value := [.int .i64 b.n, .int .i64 b.i, .int .i64 b.num, .bool b.own.isSome, .int .i64 (priO b.own).1, .int .i64 (priO b.own).2.1, .int .i64 (priO b.own).2.2.1, .int .i64 (priO b.own).2.2.2, va, vh]
/-- the reference's broker, whatever happens to the blocks of X -/
structure RefX (X : Nat → Prop) (w : World) (b : Bk) (va vh : Value) : Prop where
  all : OwF X w fun w' => Nds w' va (lstO b.own)
  heard : HdX X w vh (hdL b.heard b.n.toNat)
  ok : OkB b
theorem RefX.fx {X : Nat → Prop} {w w' : World} {b : Bk} {va vh : Value} (h : RefX X w b va vh) (k : Fx X w w') : RefX X w' b va vh := ⟨h.all.fx k, h.heard.fx k, h.ok⟩
theorem RefX.kp {X : Nat → Prop} {w w' : World} {b : Bk} {va vh : Value} (h : RefX X w b va vh) (k : Kp w w') : RefX X w' b va vh := h.fx (k.fx X)
theorem RefX.form {X : Nat → Prop} {w : World} {b : Bk} {va vh : Value} (h : RefX X w b va vh) : ∃ A c A' c', va = .slice A (lstO b.own).length c ∧ vh = .slice A' b.n.toNat c' := by
  obtain ⟨A, c, e, -⟩ := h.all.here.form
  obtain ⟨A', c', e', -⟩ := h.heard.aks.here.form
  rw [hdL_len] at e'
  exact ⟨A, c, A', c', e, e'⟩
theorem askA_cells {w : World} {A : Option Addr} {n c : Nat} {l : List Ak} (h : Aks w (.slice A n c) l) {k : Nat} (hk : k < l.length) :
    ∃ b o A1 c1, A = Option.some ⟨b, o, none⟩ ∧ b < w.heap.size ∧ w.cell? ⟨b, o + k * 6, none⟩ = Option.some (.int .i64 l[k].num) ∧ w.cell? ⟨b, o + k * 6 + 1, none⟩ = Option.some (.int .i64 l[k].pri.1) ∧ w.cell? ⟨b, o + k * 6 + 2, none⟩ = Option.some (.int .i64 l[k].pri.2.1) ∧
      w.cell? ⟨b, o + k * 6 + 3, none⟩ = Option.some (.int .i64 l[k].pri.2.2.1) ∧ w.cell? ⟨b, o + k * 6 + 4, none⟩ = Option.some (.int .i64 l[k].pri.2.2.2) ∧ w.cell? ⟨b, o + k * 6 + 5, none⟩ = Option.some (.slice A1 l[k].needs.length c1) ∧ Nds w (.slice A1 l[k].needs.length c1) l[k].needs := by
  obtain ⟨b, o, cs, hA, hb, hcs, hc, v, rfl, hv⟩ := h.at_ hk
  obtain ⟨A1, c1, rfl, -, -⟩ := hv.form
  exact ⟨b, o, A1, c1, hA, hb, by simpa using hc 0 _ rfl, hc 1 _ rfl, hc 2 _ rfl, hc 3 _ rfl, hc 4 _ rfl, hc 5 _ rfl, hv⟩
end Go.Proofs.Ytbcekihjcgnhkaa
