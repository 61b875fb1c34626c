
/-
Search, the reference: a node: what it is to find; what holds between its kids.
-/
import Derived.Test.YtlbhidiliogflaaGreatSrD
import Derived.Test.YtlbhidiliogflaaGreatSeU
import Derived.Test.YtlbhidiliogflaaGreatSfP
namespace Go.Proofs.YtlbhidiliogflaaGreat
set_option linter.unusedSimpArgs false
set_option linter.unusedVariables false
open Go.RowKit

/-- what a node of the reference is to find -/
def nodeG (s : Sys) (rows : List Row) (root : Bool) (n : Nat) (box : List Rng) (b : Nat) : NR := if root = true ∧ s.cases.length ≠ 0 then rootF s b else nodeF rows s.graphs n box b
section
variable {s : Sys} {rows : List Row} {root : Bool} {n : Nat} {box : List Rng} {b : Nat} {F : PX}
theorem isE {α : Type} {l : List α} (h : l.length ≠ 0) : l.isEmpty = false := by cases l with
  | nil => exact absurd rfl h
  | cons _ _ => rfl
theorem nodeG_zero (h : b = 0) : nodeG s rows root n box b = .out := by
  unfold nodeG
  split
  · rename_i h2
    exact rootF_zero (isE h2.2) h
  · exact nodeF_zero h
theorem nodeG_out (hr : root = true → s.cases.length ≠ 0 → rows = s.rows ∧ box = s.box) (hb : b ≠ 0) (hF : runB (b - 1) rows s.graphs box = F) (h : F.fine = false) : nodeG s rows root (n + 1) box b = .out := by
  unfold nodeG
  split
  · rename_i h2
    obtain ⟨rfl, rfl⟩ := hr h2.1 h2.2
    exact rootF_out (isE h2.2) hb hF h
  · exact nodeF_out hb hF h
theorem nodeG_shut (hr : root = true → s.cases.length ≠ 0 → rows = s.rows ∧ box = s.box) (hb : b ≠ 0) (hF : runB (b - 1) rows s.graphs box = F) (h : F.fine = true) (ho : F.opn = false) : nodeG s rows root (n + 1) box b = .ref (.mk 0 F.steps 0 0 []) (1 + F.steps.length) := by
  unfold nodeG
  split
  · rename_i h2
    obtain ⟨rfl, rfl⟩ := hr h2.1 h2.2
    exact rootF_shut (isE h2.2) hb hF h ho
  · exact nodeF_shut hb hF h ho
theorem nodeG_cases (hr : rows = s.rows ∧ box = s.box) (h2 : root = true ∧ s.cases.length ≠ 0) (hb : b ≠ 0) (hF : runB (b - 1) rows s.graphs box = F) (h : F.fine = true) (ho : F.opn = true) : nodeG s rows root n box b = casesF s F.steps F.box b 0 s.cases (1 + F.steps.length) [] := by
  unfold nodeG
  rw [if_pos h2]
  obtain ⟨rfl, rfl⟩ := hr
  exact rootF_cases (isE h2.2) hb hF h ho
theorem nodeG_sol (h2 : ¬ (root = true ∧ s.cases.length ≠ 0)) (hb : b ≠ 0) (hF : runB (b - 1) rows s.graphs box = F) (h : F.fine = true) (ho : F.opn = true) (hi : idxF wideR 0 F.box < 0) : nodeG s rows root (n + 1) box b = .sol (F.box.map (·.lo)) 0 (1 + F.steps.length) := by
  unfold nodeG
  rw [if_neg h2]
  exact nodeF_sol hb hF h ho hi
theorem nodeG_split (h2 : ¬ (root = true ∧ s.cases.length ≠ 0)) (hb : b ≠ 0) (hF : runB (b - 1) rows s.graphs box = F) (h : F.fine = true) (ho : F.opn = true) (hi : ¬ idxF wideR 0 F.box < 0) :
    nodeG s rows root (n + 1) box b = splitF rows s.graphs n F.steps F.box (idxF wideR 0 F.box) (middle (pick F.box (idxF wideR 0 F.box))) b 2 0 [] (1 + F.steps.length) := by
  unfold nodeG
  rw [if_neg h2]
  exact nodeF_split hb hF h ho hi
theorem nodeG_kid : nodeG s rows false n box b = nodeF rows s.graphs n box b := by
  unfold nodeG
  rw [if_neg (by simp)]
theorem nodeG_root : nodeG s s.rows true b s.box b = rootF s b := by
  unfold nodeG
  split
  · rfl
  · rename_i h
    have hc : s.cases.length = 0 := Classical.not_not.1 fun e => h ⟨rfl, e⟩
    rw [rootF, if_pos (by rw [List.isEmpty_iff_length_eq_zero]; exact hc)]
end
/-- how a node of the reference ends -/
def RNR (w : World) (n b : Nat) (F : NR) (e : Ending) (w' : World) : Prop :=
  Kp w w' ∧ match F with
  | .out => e = .returned (.agg #[.int .i64 2, .int .i64 0, .slice none 0 0, .int .i64 0, .slice none 0 0, .int .i64 0, .int .i64 0, .slice none 0 0, .int .i64 0])
  | .sol vs i d => d ≤ b ∧ ∃ A c, e = .returned (.agg #[.int .i64 0, .int .i64 (i : Int), .slice A vs.length c, .int .i64 0, .slice none 0 0, .int .i64 0, .int .i64 0, .slice none 0 0, .int .i64 (d : Int)]) ∧ Own encInt 3 1 w.heap.size w' (.slice A vs.length c) vs
  | .ref t d => d ≤ b ∧ ∃ y0 y1 y2 y3 y4, e = .returned (.agg #[.int .i64 1, .int .i64 0, .slice none 0 0, y0, y1, y2, y3, y4, .int .i64 (d : Int)]) ∧ OwF (fun q => q < w.heap.size) w' fun w2 => rdTr n w2 [y0, y1, y2, y3, y4] t
/-- an answer's cells: what the node has found -/
def RNV (zz n b : Nat) (F : NR) (cs : List Value) (w : World) : Prop := match F with
  | .out => cs = [.int .i64 2, .int .i64 0, .slice none 0 0, .int .i64 0, .slice none 0 0, .int .i64 0, .int .i64 0, .slice none 0 0, .int .i64 0]
  | .sol vs i d => d ≤ b ∧ ∃ A c, cs = [.int .i64 0, .int .i64 (i : Int), .slice A vs.length c, .int .i64 0, .slice none 0 0, .int .i64 0, .int .i64 0, .slice none 0 0, .int .i64 (d : Int)] ∧ Own encInt 3 1 zz w (.slice A vs.length c) vs
  | .ref t d => d ≤ b ∧ ∃ (p0 p2 p3 : Int) (A1 A4 : Option Addr) (n1 c1 n4 c4 : Nat), cs = [.int .i64 1, .int .i64 0, .slice none 0 0, .int .i64 p0, .slice A1 n1 c1, .int .i64 p2, .int .i64 p3, .slice A4 n4 c4, .int .i64 (d : Int)] ∧
      OwF (fun q => q < zz) w fun w2 => rdTr n w2 [.int .i64 p0, .slice A1 n1 c1, .int .i64 p2, .int .i64 p3, .slice A4 n4 c4] t
theorem RNR.val {w w' : World} {n b : Nat} {F : NR} {e : Ending} (h : RNR w n b F e w') : Kp w w' ∧ ∃ cs : List Value, cs.length = 9 ∧ (∀ u ∈ cs, u.oneCell' = true) ∧ e = .returned (.agg cs.toArray) ∧ RNV w.heap.size n b F cs w' := by
  obtain ⟨k, h⟩ := h
  refine ⟨k, ?_⟩
  cases F with
  | out => exact ⟨_, rfl, by simp [Value.oneCell'], h, rfl⟩
  | sol vs i d =>
    obtain ⟨hd, A, c, e, ho⟩ := h
    exact ⟨_, rfl, by simp [Value.oneCell'], e, hd, A, c, rfl, ho⟩
  | ref t d =>
    obtain ⟨hd, q0, q1, q2, q3, q4, e, hT⟩ := h
    obtain ⟨p0, p2, p3, A1, A4, n1, c1, n4, c4, rfl, rfl, rfl, rfl, rfl⟩ := rdTr_form hT.here
    exact ⟨_, rfl, by simp [Value.oneCell'], e, hd, p0, p2, p3, A1, A4, n1, c1, n4, c4, rfl, hT⟩
theorem RNV.fx {zz zz' n b : Nat} {F : NR} {cs : List Value} {w w2 : World} (h : RNV zz n b F cs w) (k : Fx (fun q => q < zz) w w2) (hz : zz' ≤ zz) : RNV zz' n b F cs w2 := by
  cases F with
  | out => exact h
  | sol vs i d =>
    obtain ⟨hd, A, c, e, ho⟩ := h
    exact ⟨hd, A, c, e, (ho.fx k (fun q hq e => by have := ho.ge q hq; omega)).less hz⟩
  | ref t d =>
    obtain ⟨hd, p0, p2, p3, A1, A4, n1, c1, n4, c4, e, hT⟩ := h
    exact ⟨hd, p0, p2, p3, A1, A4, n1, c1, n4, c4, e, (hT.fx k).mono fun q hq => Nat.lt_of_lt_of_le hq hz⟩
theorem idxF_drop {α : Type} {p : α → Bool} {l : List α} {j : Nat} (hj : j < l.length) : idxF p j (l.drop j) = if p l[j] then (j : Int) else idxF p (j + 1) (l.drop (j + 1)) := by
  rw [List.drop_eq_getElem_cons hj]
  rfl
theorem idxF_end {α : Type} {p : α → Bool} {l : List α} : idxF p l.length (l.drop l.length) = -1 := by
  simp [idxF]
theorem meas2 (j : Nat) : (intOf (.int .i64 ((j : Int) - 1)) + 1).toNat < (intOf (.int .i64 (j : Int)) + 1).toNat := by show ((j : Int) - 1 + 1).toNat < ((j : Int) + 1).toNat; omega
theorem meas3 {k : Nat} (h : k < 2) : 2 - (intOf (.int .i64 ((k : Int) + 1))).toNat < 2 - (intOf (.int .i64 (k : Int))).toNat := by simp [intOf]; omega
/-- between two kids: w6: the world with all that does not change, bo: the answer under way -/
structure RQ (w6 : World) (n b bo : Nat) (kd ce at_ : Int) (vss : Value) (wr : World) (vk : Value) (css : List (Elm 5)) (ts : List Tr) (cst : Nat) : Prop where
  kp : Kp w6 wr
  ki : KI (bo + 1) n wr vk css ts
  bx : Bx wr bo [.int .i64 1, .int .i64 0, .slice none 0 0, .int .i64 kd, vss, .int .i64 ce, .int .i64 at_, vk, .int .i64 (cst : Int)]
  vkz : ∀ q, vk.ownBlock = some q → bo < q
  zw : bo < wr.heap.size
  cb : cst ≤ b
section
variable {w6 : World} {n b bo : Nat} {kd ce at_ : Int} {vss : Value} {wr w2 : World} {vk : Value} {css : List (Elm 5)} {ts : List Tr} {cst : Nat}
theorem RQ.keep (h : RQ w6 n b bo kd ce at_ vss wr vk css ts cst) (k : Kp wr w2) : RQ w6 n b bo kd ce at_ vss w2 vk css ts cst :=
  ⟨h.kp.trans k, h.ki.fx (k.fx _), h.bx.kp k h.zw, h.vkz, Nat.lt_of_lt_of_le h.zw k.size, h.cb⟩
/-- a further cost -/
theorem RQ.cost (h : RQ w6 n b bo kd ce at_ vss wr vk css ts cst) (h6 : w6.heap.size ≤ bo) {d : Nat} (hd : d ≤ b) : RQ w6 n b bo kd ce at_ vss (wr.setCell ⟨bo, 8, none⟩ (.int .i64 (d : Int))) vk css ts d := by
  have k : Fx (fun q => q = bo) wr (wr.setCell ⟨bo, 8, none⟩ (.int .i64 (d : Int))) := (Fx.refl _ wr).set1 ⟨bo, 8, none⟩ _ (.inl rfl)
  refine ⟨k.kp_of h.kp (fun q e => by rw [e]; exact h6), h.ki.fx (k.mono fun q _ e => ?_), h.bx.set (j := 8) (by simp) _, h.vkz, Nat.lt_of_lt_of_le h.zw k.size, hd⟩
  have e : q = bo := e
  exact ⟨by omega, fun e2 => by have := h.vkz q e2; omega⟩
/-- a further kid -/
theorem RQ.kid (h : RQ w6 n b bo kd ce at_ vss wr vk css ts cst) (h6 : w6.heap.size ≤ bo) {wa wg : World} {vk' : Value} {tc : Elm 5} {t : Tr} {z : Nat} (hz : bo + 1 ≤ z) (hvz : ∀ q, vk.ownBlock = some q → q < z)
    (ht : OwF (fun q => q < z) wr fun w' => rdTr n w' tc.val t) (ka : Kp wr wa) (hO : Own encC 34 5 0 wg vk' (css ++ [tc])) (hg : wa.grownBy wg vk.ownBlock) (hat : vk'.ownBlock = vk.ownBlock ∨ vk'.ownBlock = some wa.heap.size) :
    RQ w6 n b bo kd ce at_ vss (wg.setCell ⟨bo, 7, none⟩ vk') vk' (css ++ [tc]) (ts ++ [t]) cst := by
  have hvk : ¬ vk.ownBlock = some bo := fun e => by have := h.vkz bo e; omega
  have k1 : Fx (fun q => vk.ownBlock = some q) wr wg := (ka.fx (fun q => vk.ownBlock = some q)).grown hg (fun g e => .inl e)
  have kb : Fx (fun q => q = bo) wg (wg.setCell ⟨bo, 7, none⟩ vk') := (Fx.refl _ wg).set1 ⟨bo, 7, none⟩ _ (.inl rfl)
  have k2 : Fx (fun q => q < bo + 1 ∨ vk.ownBlock = some q) wr (wg.setCell ⟨bo, 7, none⟩ vk') := (k1.mono fun q _ e => .inr e).trans (kb.mono fun q _ e => .inl (by have e : q = bo := e; omega))
  have hat' : vk'.ownBlock = vk.ownBlock ∨ ∀ q, vk'.ownBlock = some q → wr.heap.size ≤ q := by
    rcases hat with e | e
    · exact .inl e
    · refine .inr fun q hq => ?_
      rw [e] at hq
      injection hq with hq
      have := ka.size
      omega
  have hzw := h.zw
  have hvz' : ∀ q, vk'.ownBlock = some q → bo < q := fun q hq => by
    rcases hat' with e | e
    · exact h.vkz q (e ▸ hq)
    · have := e q hq
      omega
  have hO2 := hO.fx kb (fun q hq e => by have := hvz' q hq; have e : q = bo := e; omega)
  have hb1 := h.bx.fx k1 h.zw hvk
  exact ⟨((h.kp.trans ka).grown hg (fun g e => by have := h.vkz g e; omega)).set (p := ⟨bo, 7, none⟩) h6 vk', h.ki.snoc hz hvz ht hO2 k2 hat', hb1.set (j := 7) (by simp) _, hvz', Nat.lt_of_lt_of_le h.zw k2.size, h.cb⟩
end
/-- a row's cells, known -/
theorem rowCells {w w2 : World} {A : Option Addr} {n c : Nat} {css : List (Elm 2)} {rows : List Row} (h : Sl (Pl encC) 2 w (.slice A n c) css) (hl : css.length = rows.length) (he : ∀ k (h1 : k < css.length) (h2 : k < rows.length), rdRow w css[k].val rows[k]) (k : Kp w w2) {j : Nat} (hj : j < rows.length) :
    ∃ g o At m ct, ∃ bd : Int, A = some ⟨g, o, none⟩ ∧ g < w2.heap.size ∧ w2.cell? ⟨g, o + j * 2, none⟩ = some (.slice At m ct) ∧ w2.cell? ⟨g, o + j * 2 + 1, none⟩ = some (.int .i64 bd) ∧ (css[j]'(by rw [hl]; exact hj)).val = [.slice At m ct, .int .i64 bd] := by
  have hj' : j < css.length := by rw [hl]; exact hj
  obtain ⟨v, e, ht⟩ := he j hj' hj
  obtain ⟨At, ct, rfl, -, -⟩ := ht.form
  obtain ⟨g, o, cs, hA, hg, hcs, hc, hr⟩ := (h.keep (pl_stable _) k).at_ hj'
  unfold Pl encC at hr
  rw [e] at hr
  subst hr
  exact ⟨g, o, At, _, ct, rows[j].bound, hA, hg, hc 0 _ rfl, hc 1 _ rfl, e⟩
theorem rowsApp {wa wb w : World} {v : Value} {cssA cssB : List (Elm 2)} {la lb : List Row} {e base : Nat} (hO : Own encC e 2 base w v (cssA ++ cssB)) (hla : cssA.length = la.length) (hea : ∀ k (h1 : k < cssA.length) (h2 : k < la.length), rdRow wa cssA[k].val la[k]) (ka : Kp wa w)
    (hlb : cssB.length = lb.length) (heb : ∀ k (h1 : k < cssB.length) (h2 : k < lb.length), rdRow wb cssB[k].val lb[k]) (kb : Kp wb w) : RowsL w v (la ++ lb) := by
  refine sl_of (hO.sl encC_len) (by rw [List.length_append, List.length_append, hla, hlb]) fun k h1 h2 => ?_
  by_cases hk : k < cssA.length
  · have e1 : (cssA ++ cssB)[k] = cssA[k] := List.getElem_append_left hk
    have e2 : (la ++ lb)[k] = la[k]'(by rw [← hla]; exact hk) := List.getElem_append_left (by rw [← hla]; exact hk)
    rw [e1, e2]
    exact rdRow_stable _ _ _ _ ka (hea k hk (by rw [← hla]; exact hk))
  · have h3 : k - cssA.length < cssB.length := by rw [List.length_append] at h1; omega
    have h4 : k - la.length < lb.length := by rw [List.length_append] at h2; omega
    have e1 : (cssA ++ cssB)[k] = cssB[k - cssA.length] := List.getElem_append_right (by omega)
    have e2 : (la ++ lb)[k] = lb[k - la.length] := List.getElem_append_right (by omega)
    rw [e1, e2]
    have h5 := heb (k - cssA.length) h3 (by omega)
    simp only [hla] at h5 ⊢
    exact rdRow_stable _ _ _ _ kb h5
theorem take_le {α : Type} (l : List α) (j : Nat) : (l.take j).length ≤ j := by rw [List.length_take]; exact Nat.min_le_left _ _
theorem row_room {a b : Nat} (h : a ≤ b) (hb : b ≤ 30000) : a + 1 ≤ 4611686018427387904 ∧ (a + 1) * 32 ≤ 140737488355328 := by omega
theorem tree_room {a b : Nat} (h : a ≤ b) (hb : b ≤ 200000) : a + 1 ≤ 4611686018427387904 ∧ (a + 1) * 72 ≤ 140737488355328 := by omega
theorem size_up {wo wr : World} {zr : Nat} (h : zr = wo.heap.size) (k : Kp wo wr) (o : Obj) : zr ≤ (wr.alloc o).heap.size := by rw [World.size_alloc, h]; exact Nat.le_succ_of_le k.size
theorem take_all' {α : Type} {l : List α} {j n : Nat} (h : ¬ j < n) (hl : l.length = n) : l.take j = l := List.take_of_length_le (by omega)
theorem ndec {j n : Nat} (h : ¬ j < n) : decide ((j : Int) < (n : Int)) = false := decide_eq_false (by omega)
theorem ydec {j n : Nat} (h : j < n) : decide ((j : Int) < (n : Int)) = true := decide_eq_true (by omega)
theorem meas {n j : Nat} (h : j < n) : n - (intOf (.int .i64 ((j : Int) + 1))).toNat < n - (intOf (.int .i64 (j : Int))).toNat := by simp [intOf]; omega
theorem app_le {α : Type} {l m : List α} {j a : Nat} (h : l.length ≤ a) : (l ++ m.take j).length ≤ a + j := by rw [List.length_append]; exact Nat.add_le_add h (take_le m j)
theorem le_trans3 {a b c d : Nat} (h1 : a ≤ b) (h2 : b ≤ c) (h3 : c ≤ d) : a ≤ d := Nat.le_trans h1 (Nat.le_trans h2 h3)
theorem sub_cast {b c : Nat} {bI : Int} (h : c ≤ b) (e : bI = (b : Int)) : bI - (c : Int) = ((b - c : Nat) : Int) := by omega
theorem le_cast {b c : Nat} {bI : Int} (h : c ≤ b) (e : bI = (b : Int)) : (c : Int) ≤ bI := by omega
theorem sub_lt {b c M : Nat} (h : 1 ≤ c) (hb : ¬ b = 0) (hM : b ≤ M + 1) : b - c < M + 1 := by omega
theorem app_len {α : Type} {l m : List α} (h1 : l.length ≤ 10000) (h2 : m.length ≤ 10000) : (l ++ m).length ≤ 20000 := by rw [List.length_append]; omega
theorem kid_le {b c M : Nat} (h : 1 ≤ c) (hM : b ≤ M + 1) : b - c + 1 ≤ M + 1 := by omega
theorem half_kid {rows : List Row} {grs : List Gr} {n : Nat} {ss : List Stp} {box : List Rng} {cell at_ : Int} {b k : Nat} {ts : List Tr} {c : Nat} (hk : k < 2) :
    splitF rows grs n ss box cell at_ b (2 - k) k ts c = kidF (nodeF rows grs n (box.set cell.toNat (halfR box cell at_ k)) (b - c)) 0 c fun t c' => splitF rows grs n ss box cell at_ b (2 - (k + 1)) (k + 1) (ts ++ [t]) c' := by
  obtain ⟨j, hj⟩ : ∃ j, 2 - k = j + 1 := ⟨1 - k, by omega⟩
  rw [hj, splitF_next, show 2 - (k + 1) = j by omega]
theorem half_end {rows : List Row} {grs : List Gr} {n : Nat} {ss : List Stp} {box : List Rng} {cell at_ : Int} {b k : Nat} {ts : List Tr} {c : Nat} (hk : ¬ k < 2) : splitF rows grs n ss box cell at_ b (2 - k) k ts c = .ref (.mk 1 ss cell at_ ts) c := by
  rw [show 2 - k = 0 by omega, splitF]
theorem sub_lt2 {b c M : Nat} (h : 1 ≤ c) (hM : b ≤ M + 1) : b - c ≤ M := by omega
theorem wrap_room {c : Nat} {bI : Int} (h : (c : Int) ≤ bI) (hb : bI ≤ 65536) : -9223372036854775808 ≤ bI - (c : Int) ∧ bI - (c : Int) ≤ 9223372036854775807 := by omega
theorem take_next {α : Type} {l : List α} {k : Nat} (h : k < l.length) : l.take (k + 1) = l.take k ++ [l[k]] := by rw [List.take_succ_eq_append_getElem h]
end Go.Proofs.YtlbhidiliogflaaGreat
