
/-
The reader: structs without lists.
-/
import Derived.Test.YtmeafoakbkjifaaRdr3
namespace Go.Proofs.Ytmeafoakbkjifaa
set_option linter.unusedSimpArgs false
set_option linter.unusedVariables false
open Go.RowKit

theorem results_cell_bx {P : Program} {fn : Func} {p : Tmp} {ty : TypeId} (h : fn.results = #[.cell p ty]) (tmps : Array Value) (w : World) (b : Nat) (cs : List Value) (d : TypeDesc)
    (hp : tmps.getD p undef = .pointer (some ⟨b, 0, none⟩)) (hc : w.rangeAt b 0 cs) (hu : P.underlying ty = some d) (hd : d.isRow = true) (hi : (P.info? ty).map (·.size) = some cs.length) :
    (results fn tmps).run P w = .ok (.agg cs.toArray) w := by
  have hp' : tmps[p]?.getD undef = .pointer (some ⟨b, 0, none⟩) := by simpa using hp
  simp [results, h, hp', asAddr, run_loadVar_mid w b 0 ty cs d hc hu hd hi]
/-- cells put in a row from place o on -/
def putV (cs : List Value) (o : Nat) (vs : List Value) : List Value := cs.take o ++ vs ++ cs.drop (o + vs.length)
theorem Bx.setCells {b : Nat} : ∀ (vs : List Value) (o : Nat) (w : World) (cs : List Value), Bx w b cs → o + vs.length ≤ cs.length → Bx (w.setCells b o vs) b (putV cs o vs)
  | [], o, w, cs, h, _ => by simpa [World.setCells, putV] using h
  | v :: vs, o, w, cs, h, hl => by
    rw [List.length_cons] at hl
    have h1 := h.set (j := o) (by omega) v
    have h2 := Bx.setCells vs (o + 1) _ _ h1 (by rw [List.length_set]; omega)
    have e : putV (cs.set o v) (o + 1) vs = putV cs o (v :: vs) := by
      have hset : cs.set o v = cs.take o ++ v :: cs.drop (o + 1) := by rw [List.set_eq_take_append_cons_drop, if_pos (by omega)]
      have ht : (cs.take o).length = o := by simp; omega
      unfold putV
      rw [hset, List.take_append, List.drop_append, ht, List.take_of_length_le (l := cs.take o) (by omega), List.drop_of_length_le (l := cs.take o) (by omega), List.length_cons]
      have e1 : o + 1 - o = 1 := by omega
      have e2 : o + 1 + vs.length - o = vs.length + 1 := by omega
      rw [e1, e2]
      simp [Nat.add_assoc, Nat.add_comm 1]
    rw [World.setCells]
    rw [← e]
    exact h2
theorem Bx.self {w : World} {b : Nat} {cs : List Value} (h : Bx w b cs) : Bx (w.setCells b 0 cs) b cs := by
  have := h.setCells cs 0 w cs (by omega)
  simpa [putV] using this
theorem Kb.setCells {g b : Nat} {w : World} : ∀ (vs : List Value) (o : Nat) (w' : World), Kb g b w w' → Kb g b w (w'.setCells b o vs)
  | [], _, _, h => h
  | v :: r, o, w', h => by
    rw [World.setCells]
    exact Kb.setCells r (o + 1) _ (h.set o v)
theorem setCells_size (b : Nat) : ∀ (vs : List Value) (o : Nat) (w : World), (w.setCells b o vs).heap.size = w.heap.size
  | [], _, _ => rfl
  | v :: r, o, w => by rw [World.setCells, setCells_size b r (o + 1), set_size]
/-- the reader's cells, when another block changes -/
theorem Rdr.kb {W0 w w' : World} {g b : Nat} {l : List Int} {bad : Bool} (h : Rdr W0 w g l bad) (hk : Kb g b w w') (hb : W0.heap.size ≤ b) (hg : w'.heap[g]? = w.heap[g]?) : Rdr W0 w' g l bad := by
  refine h.keepG ⟨hk.os.trans h.kp.os, hk.tape.trans h.kp.tape, hk.output.trans h.kp.output, Nat.le_trans h.kp.size hk.size, fun k hlt => ?_⟩ hg
  have hlo := h.lo
  have hlt2 : k < W0.heap.size := hlt
  rw [hk.block k (Nat.lt_of_lt_of_le hlt2 h.kp.size) (by omega) (by omega)]
  exact h.kp.block hlt2
theorem setCells_block (b k : Nat) (hk : k ≠ b) : ∀ (vs : List Value) (o : Nat) (w : World), (w.setCells b o vs).heap[k]? = w.heap[k]?
  | [], _, _ => rfl
  | v :: r, o, w => by rw [World.setCells, setCells_block b k hk r (o + 1), set_block _ _ _ _ hk]
theorem Ow.kb2 {g b : Nat} {w w' : World} {R : World → Prop} (h : Ow (b + 1) w.heap.size w R) (hk : Kb g b w w') (hg : g < b) : Ow (b + 1) w'.heap.size w' R := (h.kb hk (by omega) (by omega) (Nat.le_refl _)).wide (Nat.le_refl _) hk.size
theorem Bx.thereAt {w : World} {b : Nat} {cs : List Value} (h : Bx w b cs) (o n : Nat) (hn : o + n ≤ cs.length) : w.there b o n := fun j hj => by
  have := h.there (o + j) (by omega)
  rwa [Nat.zero_add] at this
theorem fin_end {α : Type} {W0 w w0 w1 : World} {g b : Nat} {P : Ps α} {Q : World → Value → α → Prop} {l l' : List Int} {bad bad' : Bool} {v : Value} {x : α} {cs : List Value} (_hB : Bx w1 b cs) (hK : Kb g b w0 w1) (hg0 : Kg w w0 g) (hb : w.heap.size ≤ b)
    (hr : Rdr W0 w1 g l' bad') (hlo : W0.heap.size ≤ b) (hg : g < b) (ow : Ow (b + 1) w1.heap.size w1 fun w2 => Q w2 v x) (sp : SpecP P l bad x l' bad') : ReadEnd W0 g P Q l bad w (.returned v) (w1.setCells b 0 cs) := by
  have hk2 := Kb.setCells cs 0 _ (Kb.refl g b w1)
  refine ⟨v, x, l', bad', rfl, ?_, sp, hr.kb hk2 hlo (setCells_block _ g (by omega) cs 0 w1), (Kb.setCells cs 0 _ hK).kg hg0 hb⟩
  rw [setCells_size]
  exact (ow.kb hk2 (by omega) (by omega) (Nat.le_refl _)).wide (by omega) (Nat.le_refl _)
theorem litPtrs (w : World) (b a m : Nat) (X : Array Value) (h : X.toList = flat (encPtr b) (List.range' a m)) (hm : m ≤ 1000) :
    Ow w.heap.size (w.alloc (.cells X 142)).heap.size (w.alloc (.cells X 142)) fun w' => Sl (Pl (encPtr b)) 1 w' (.slice (some ⟨w.heap.size, 0, none⟩) m m) (List.range' a m) := by
  have hlen : (List.range' a m).length = m := List.length_range'
  have hs : X.size = (List.range' a m).length * 1 := by
    have := flat_length (enc := encPtr b) (size := 1) (fun _ => rfl) (List.range' a m)
    rw [← h] at this
    simpa using this
  have := Own.lit (e := 142) (base := w.heap.size) (encPtr b) w X (List.range' a m) (Nat.le_refl _) (by omega) hs h
  rw [hlen] at this
  exact this.ow.imp fun w' ho => ho.sl (fun _ => rfl)
theorem into_lit (W0 : World) (g b a m : Nat) (cs : List Value) (l : List Int) (bad : Bool) (w : World) (X : Array Value) (hr : Rdr W0 w g l bad) (hgb : g < b) (hB : Bx w b cs) (ham : a + m ≤ cs.length) (hm : 0 < m) (hm2 : m ≤ 1000) (hX : X.toList = flat (encPtr b) (List.range' a m)) :
    Calls Try.prog 85 #[.pointer (some ⟨g, 0, none⟩), .slice (some ⟨w.heap.size, 0, none⟩) m m] (w.alloc (.cells X 142)) (IntoEnd W0 g b m a cs l bad w) := by
  have hb := hB.lt (by omega)
  have kq := (Kp.refl w).alloc (.cells X 142)
  refine (rdInto_any W0 g b a m cs _ l bad _ (hr.keep kq) hgb (hB.keep (kq.block hb)) ham ((litPtrs w b a m X hX hm2).wide (by omega) (Nat.le_refl _))).mono ?_
  rintro e w' ⟨rfl, xs, l', bad', h1, h2, h3, h4, h5⟩
  exact ⟨rfl, xs, l', bad', h1, h2, h3, h4, (kq.kb g b).trans h5⟩
theorem len1 {xs : List Int} (h : xs.length = 1) : ∃ a, xs = [a] := by
  match xs, h with
  | [a], _ => exact ⟨a, rfl⟩
theorem len2 {xs : List Int} (h : xs.length = 2) : ∃ a b, xs = [a, b] := by
  match xs, h with
  | [a, b], _ => exact ⟨a, b, rfl⟩
theorem len3 {xs : List Int} (h : xs.length = 3) : ∃ a b c, xs = [a, b, c] := by
  match xs, h with
  | [a, b, c], _ => exact ⟨a, b, c, rfl⟩
theorem len4 {xs : List Int} (h : xs.length = 4) : ∃ a b c d, xs = [a, b, c, d] := by
  match xs, h with
  | [a, b, c, d], _ => exact ⟨a, b, c, d, rfl⟩
theorem len5 {xs : List Int} (h : xs.length = 5) : ∃ a b c d e, xs = [a, b, c, d, e] := by
  match xs, h with
  | [a, b, c, d, e], _ => exact ⟨a, b, c, d, e, rfl⟩
theorem many2 {α : Type} (Q : Int → Int → Ps α) : (bindP intP fun a => bindP intP fun b => Q a b) = bindP (loopP intP 2) fun xs => Q (xs.getD 0 0) (xs.getD 1 0) := by
  simp only [loopP, bindP_assoc, bindP_retP, List.getD_cons_zero, List.getD_cons_succ]
theorem many3 {α : Type} (Q : Int → Int → Int → Ps α) : (bindP intP fun a => bindP intP fun b => bindP intP fun c => Q a b c) = bindP (loopP intP 3) fun xs => Q (xs.getD 0 0) (xs.getD 1 0) (xs.getD 2 0) := by
  simp only [loopP, bindP_assoc, bindP_retP, List.getD_cons_zero, List.getD_cons_succ]
theorem many4 {α : Type} (Q : Int → Int → Int → Int → Ps α) : (bindP intP fun a => bindP intP fun b => bindP intP fun c => bindP intP fun d => Q a b c d) = bindP (loopP intP 4) fun xs => Q (xs.getD 0 0) (xs.getD 1 0) (xs.getD 2 0) (xs.getD 3 0) := by
  simp only [loopP, bindP_assoc, bindP_retP, List.getD_cons_zero, List.getD_cons_succ]
theorem many5 {α : Type} (Q : Int → Int → Int → Int → Int → Ps α) : (bindP intP fun a => bindP intP fun b => bindP intP fun c => bindP intP fun d => bindP intP fun e => Q a b c d e) = bindP (loopP intP 5) fun xs => Q (xs.getD 0 0) (xs.getD 1 0) (xs.getD 2 0) (xs.getD 3 0) (xs.getD 4 0) := by
  simp only [loopP, bindP_assoc, bindP_retP, List.getD_cons_zero, List.getD_cons_succ]
end Go.Proofs.Ytmeafoakbkjifaa
