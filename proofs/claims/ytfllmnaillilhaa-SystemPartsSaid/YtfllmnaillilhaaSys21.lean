
/-
A row in which a cell has a value: the walk.
-/
import Derived.Test.YtfllmnaillilhaaSF
import Derived.Deep.Cut
import Derived.Test.YtfllmnaillilhaaGrow2
namespace Go.Proofs.Ytfllmnaillilhaa
set_option linter.unusedSimpArgs false
set_option linter.unusedVariables false
open Go.RowKit

def subB (c v : Int) : Int → List Term → Int
  | acc, [] => acc
  | acc, t :: l => subB c v (if t.cell = c then acc - t.factor * v else acc) l
def dropC (c : Int) (l : List Term) : List Term := l.filter fun t => decide (t.cell ≠ c)
def inBd (x : Int) : Bool := decide (-1000000000 ≤ x) && decide (x ≤ 1000000000)
theorem dropC_snoc (c : Int) (l : List Term) (k : Nat) (h : k < l.length) : dropC c (l.take (k + 1)) = dropC c (l.take k) ++ if l[k].cell = c then [] else [l[k]] := by
  unfold dropC
  rw [List.take_succ_eq_append_getElem h, List.filter_append]
  congr 1
  by_cases hc : l[k].cell = c <;> simp [hc]
theorem litTN (w : World) (x : Term) (n : Nat) (hn : n = w.heap.size) : Sl (Pl encTerm) 2 (w.alloc (.cells #[.int .i64 x.cell, .int .i64 x.factor] 49)) (.slice (some ⟨n, 0, none⟩) 1 1) [x] := by
  subst hn
  exact Sl.one (R := Pl encTerm) w [.int .i64 x.cell, .int .i64 x.factor] _ 2 x rfl rfl
/-- what the operations of the last statement yield -/
def rpPV (p : Nat) (D0 D1 : Value) (cur : Int) (q : Bool) : Nat → Value → World → Prop
  | 0, v, _ => v = .agg #[D0, D1]
  | 1, v, _ => v = .pointer (some ⟨p + 1 + 1, 1, none⟩)
  | 2, v, _ => v = .int .i64 cur
  | 3, v, _ | 4, v, _ => v = .bool q
  | 5, v, _ => v = if q then .pointer (some ⟨p + 1 + 1, 1, none⟩) else undef
  | 6, v, _ => v = if q then .int .i64 cur else undef
  | 7, v, _ => v = if q then .bool (decide (cur ≤ 1000000000)) else undef
  | 8, v, _ => v = .bool (q && decide (cur ≤ 1000000000))
  | 9, _, w => Bx w (p + 1) [D0, D1]
  | _, _, _ => True
/-- only the result's block changes, and once it holds the result it does so for good -/
def rpG (p : Nat) (D0 D1 : Value) (w w' : World) : Prop := Kg w w' (p + 1) ∧ (Bx w (p + 1) [D0, D1] → Bx w' (p + 1) [D0, D1]) ∧ ((∃ x y, Bx w (p + 1) [x, y]) → ∃ x y, Bx w' (p + 1) [x, y])
theorem rpPV_keep (p : Nat) (D0 D1 : Value) (cur : Int) (q : Bool) (j : Nat) (v : Value) (w1 w2 : World) (h : rpPV p D0 D1 cur q j v w1) (k : rpG p D0 D1 w1 w2) : rpPV p D0 D1 cur q j v w2 := by
  match j, h with
  | 0, h | 1, h | 2, h | 3, h | 4, h | 5, h | 6, h | 7, h | 8, h => exact h
  | 9, h => exact k.2.1 h
  | n + 10, _ => trivial
theorem rpG_refl (p : Nat) (D0 D1 : Value) (w : World) : rpG p D0 D1 w w := ⟨Kg.refl _ _, id, id⟩
theorem rpG_trans (p : Nat) (D0 D1 : Value) (x y z : World) (h : rpG p D0 D1 x y) (k : rpG p D0 D1 y z) : rpG p D0 D1 x z := ⟨h.1.trans k.1, fun b => k.2.1 (h.2.1 b), fun b => k.2.2 (h.2.2 b)⟩
theorem rpG_drew (p : Nat) (D0 D1 : Value) (w : World) (hb : p + 1 < w.heap.size) : rpG p D0 D1 w w.drew := ⟨(Kp.refl w).drew.kg _, fun b => b.kp (Kp.refl w).drew hb, fun ⟨x, y, b⟩ => ⟨x, y, b.kp (Kp.refl w).drew hb⟩⟩
theorem some_of_getD {o : Option Value} {b : Bool} (h : o.getD undef = .bool b) : o = some (.bool b) := by
  cases o with
  | none => simp [undef] at h
  | some v => simpa using h
set_option maxRecDepth 8000 in
set_option maxHeartbeats 8000000 in
theorem sReplaced_any (vt : Value) (ts : List Term) (bd c x : Int) (w : World) (ht : Terms w vt ts) (hl : ts.length ≤ 128) (hf : ∀ t ∈ ts, -1000 ≤ t.factor ∧ t.factor ≤ 1000) (hb1 : -1000000000 ≤ bd) (hb2 : bd ≤ 1000000000) (hx1 : -1000000 ≤ x) (hx2 : x ≤ 1000000) :
    Calls Try.prog 60 #[.agg #[vt, .int .i64 bd], .int .i64 c, .int .i64 x] w fun e w' => ∃ v, e = .returned (.tuple #[.agg #[v, .int .i64 (subB c x bd ts)], .bool (inBd (subB c x bd ts))]) ∧ Own encTerm 49 2 w.heap.size w' v (dropC c ts) ∧ Kp w w' := by
  obtain ⟨A, ca, rfl, hca, hma⟩ := ht.form
  have HF := hid hf
  clear hf
  have k0 := (((Kp.refl w).alloc (.cells #[.slice A ts.length ca, .int .i64 bd] 30)).alloc (.cells #[.slice none 0 0, .int .i64 0] 30)).alloc (.cells #[.slice none 0 0, .int .i64 bd] 30)
  have c0 := (((Kp.refl _).alloc (.cells #[.slice none 0 0, .int .i64 0] 30)).alloc (.cells #[.slice none 0 0, .int .i64 bd] 30)).cellS (alloc_cell w #[.slice A ts.length ca, .int .i64 bd] 30 0 rfl)
  have hR := (Bx.new (w.alloc (.cells #[.slice A ts.length ca, .int .i64 bd] 30)) #[.slice none 0 0, .int .i64 0] 30).kp ((Kp.refl _).alloc (.cells #[.slice none 0 0, .int .i64 bd] 30)) (by simp)
  have hB := Bx.new ((w.alloc (.cells #[.slice A ts.length ca, .int .i64 bd] 30)).alloc (.cells #[.slice none 0 0, .int .i64 0] 30)) #[.slice none 0 0, .int .i64 bd] 30
  have hz : (((w.alloc (.cells #[.slice A ts.length ca, .int .i64 bd] 30)).alloc (.cells #[.slice none 0 0, .int .i64 0] 30)).alloc (.cells #[.slice none 0 0, .int .i64 bd] 30)).heap.size = w.heap.size + 1 + 1 + 1 := by simp
  simp only [World.size_alloc] at hR hB
  have hp1 : w.heap.size < (((w.alloc (.cells #[.slice A ts.length ca, .int .i64 bd] 30)).alloc (.cells #[.slice none 0 0, .int .i64 0] 30)).alloc (.cells #[.slice none 0 0, .int .i64 bd] 30)).heap.size := by omega
  go_enter Try.func60, Try.ntmps60
  go_wp2
  generalize ((w.alloc (.cells #[.slice A ts.length ca, .int .i64 bd] 30)).alloc (.cells #[.slice none 0 0, .int .i64 0] 30)).alloc (.cells #[.slice none 0 0, .int .i64 bd] 30) = w0 at *
  generalize hpp : w.heap.size = p at *
  replace hpp := hid hpp
  go_loopw [17] (fun i wr => ∃ (k : Nat) (v : Value) (cur : Int), k ≤ ts.length ∧ i = .int .i64 k ∧ Bx wr (p + 1 + 1) [v, .int .i64 cur] ∧ Own encTerm 49 2 (p + 1 + 1 + 1) wr v (dropC c (ts.take k)) ∧ Hid (subB c x bd ts = subB c x cur (ts.drop k)) ∧ -1000000000 * ((k : Int) + 1) ≤ cur ∧ cur ≤ 1000000000 * ((k : Int) + 1) ∧ Kg w0 wr (p + 1 + 1)) (fun i _ => ts.length - (intOf i).toNat)
  case atStart => exact ⟨0, _, bd, Nat.zero_le _, rfl, hB, Own.nil _ _ _ _ _, rfl, by omega, by omega, Kg.refl _ _⟩
  case round =>
    clear hB
    obtain ⟨k, v, cur, hk, rfl, hB, own, HS, hc1, hc2, hkg⟩ := hrel
    have kw := Kg.to_kp k0 hkg (by have := hpp.out; omega)
    have hsz := hkg.size
    obtain ⟨Av, cv, rfl, _, _⟩ := own.form
    by_cases hlt : k < ts.length
    · obtain ⟨g, o, rfl, hg, h1', h2'⟩ := ht.term hlt
      have h1 := kw.cellS h1'
      have h2 := kw.cellS h2'
      have hff := HF.out ts[k] (List.getElem_mem hlt)
      have HD := hid (List.drop_eq_getElem_cons hlt)
      have HC := hid (dropC_snoc c ts k hlt)
      have hdl : (dropC c (ts.take k)).length ≤ k := Nat.le_trans (List.length_filter_le _ _) (List.length_take_le _ _)
      clear h1' h2' hg HF
      generalize ts[k] = t at *
      obtain ⟨tc, tf⟩ := t
      dsimp only at h1 h2 hff
      have hmb := mul_bd tf x (by omega) (by omega) (by omega) (by omega)
      have hB1 := hB.kp ((Kp.refl wr).alloc (.cells #[.int .i64 tc, .int .i64 tf] 49)) (by omega)
      have own1 := own.kp ((Kp.refl wr).alloc (.cells #[.int .i64 tc, .int .i64 tf] 49))
      have hk1 := hkg.alloc (.cells #[.int .i64 tc, .int .i64 tf] 49)
      have hz1 : (wr.alloc (.cells #[.int .i64 tc, .int .i64 tf] 49)).heap.size = wr.heap.size + 1 := by simp
      have x0 := alloc_cell wr #[.int .i64 tc, .int .i64 tf] 49 0 rfl
      have x1 := alloc_cell wr #[.int .i64 tc, .int .i64 tf] 49 1 rfl
      have hlt1 := alloc_lt wr (.cells #[.int .i64 tc, .int .i64 tf] 49)
      by_cases hcc : tc = c
      · have e1 : (tc == c) = true := by simpa using hcc
        have HS2 : Hid (subB c x bd ts = subB c x (cur - tf * x) (ts.drop (k + 1))) := hid (by rw [HS.out, HD.out, subB, if_pos hcc])
        have HC2 : Hid (dropC c (ts.take (k + 1)) = dropC c (ts.take k)) := hid (by rw [HC.out, if_pos hcc]; simp)
        clear HS HD HC hcc
        have w1 : wrap64 (tf * x) = tf * x := IntWalk.wrap64_in _ (by omega)
        have w2 : IntKind.i64.wrap (tf * x) = tf * x := IntWalk.i64_in _ (by omega)
        have w3 : wrap64 (cur - tf * x) = cur - tf * x := IntWalk.wrap64_in _ (by omega)
        have w4 : IntKind.i64.wrap (cur - tf * x) = cur - tf * x := IntWalk.i64_in _ (by omega)
        have hd1 : -1000000000 * (((k + 1 : Nat) : Int) + 1) ≤ cur - tf * x := by omega
        have hd2 : cur - tf * x ≤ 1000000000 * (((k + 1 : Nat) : Int) + 1) := by omega
        have b1 := hB1.cell (j := 1) rfl
        have fb1 := hB1.free (j := 1) (by simp)
        have hB2 := hB1.set (j := 1) (by simp) (.int .i64 (cur - tf * x))
        simp only [List.set_cons_zero, List.set_cons_succ] at hB2
        have own2 := own1.kg (g := p + 1 + 1) (w' := (wr.alloc (.cells #[.int .i64 tc, .int .i64 tf] 49)).setCell ⟨p + 1 + 1, 1, none⟩ (.int .i64 (cur - tf * x))) ((Kg.refl _ _).set (.inl rfl) _) (by omega)
        have hk2 := hk1.set (p := ⟨p + 1 + 1, 1, none⟩) (.inl rfl) (.int .i64 (cur - tf * x))
        clear hB hB1 own own1 hkg hk1 hc1 hc2 hmb
        go_wp2
        go_roundw
        case rel => exact ⟨k + 1, _, cur - tf * x, by omega, by go_num, hB2, by rw [HC2.out]; exact own2, HS2, hd1, hd2, hk2⟩
        case measure => simp [intOf]; omega
      · have e1 : (tc == c) = false := by simpa using hcc
        have HS2 : Hid (subB c x bd ts = subB c x cur (ts.drop (k + 1))) := hid (by rw [HS.out, HD.out, subB, if_neg hcc])
        have HC2 : Hid (dropC c (ts.take (k + 1)) = dropC c (ts.take k) ++ [⟨tc, tf⟩]) := hid (by rw [HC.out, if_neg hcc])
        clear HS HD HC hcc
        have b0 := hB1.cell (j := 0) rfl
        have hbz : p + 1 + 1 < wr.heap.size := by omega
        have hob := own1.ge
        go_wp2_with (at_builtin; refine wpl_append_flat rfl (.tmp 34) (.tmp 36) rfl stTermM encTerm_len encTerm_one rfl (own1.alloc _) rfl (litTN (wr.alloc (.cells #[.int .i64 tc, .int .i64 tf] 49)) ⟨tc, tf⟩ _ hz1.symm) (by simp; omega) (by simp; omega) (by simp; omega) ?_; intro v8 w8 hown8 hgrow8 hat8 hnil8; have hB8 := (hB1.kp ((Kp.refl _).alloc (.cells #[.int .i64 tc, .int .i64 tf] 49)) (by omega)).grown hgrow8 (fun e => by have := hob _ e; omega) (by simp; omega); have s0 := hB8.cell (j := 0) rfl; have f0 := hB8.free (j := 0) (by simp); obtain ⟨A8, c8, hv8, hc8, hm8⟩ := hown8.form; subst hv8)
        have e8 : (dropC c (ts.take k) ++ [(⟨tc, tf⟩ : Term)]).length = (dropC c (ts.take k)).length + 1 := by simp
        rw [e8] at hown8 hc8
        have hB9 := hB8.set (j := 0) (by simp) (.slice A8 ((dropC c (ts.take k)).length + 1) c8)
        simp only [List.set_cons_zero, List.set_cons_succ] at hB9
        have own9 := hown8.kg (g := p + 1 + 1) (w' := w8.setCell ⟨p + 1 + 1, 0, none⟩ (.slice A8 ((dropC c (ts.take k)).length + 1) c8)) ((Kg.refl _ _).set (.inl rfl) _) (by omega)
        have hk9 := (((hk1.kp ((Kp.refl _).alloc (.cells #[.int .i64 tc, .int .i64 tf] 49))).grown hgrow8 (fun q hq => by have := hob q hq; omega))).set (p := ⟨p + 1 + 1, 0, none⟩) (.inl rfl) (.slice A8 ((dropC c (ts.take k)).length + 1) c8)
        refine ⟨⟨k + 1, _, cur, by omega, by go_num, hB9, by rw [HC2.out]; exact own9, HS2, by omega, by omega, hk9⟩, ?_⟩
        simp [intOf]; omega
    · have HS2 : Hid (subB c x bd ts = cur) := hid (by rw [HS.out, List.drop_of_length_le (by omega)]; rfl)
      have HC2 : Hid (dropC c (ts.take k) = dropC c ts) := hid (by rw [List.take_of_length_le (by omega)])
      have hR1 := hR.kg hkg (by omega) (by omega)
      have hp1r : p + 1 < wr.heap.size := by omega
      have b0 := hB.cell (j := 0) rfl
      have b1 := hB.cell (j := 1) rfl
      go_wp2
      cases hq : decide (-1000000000 ≤ cur) with
      | true =>
        have HQ := hid hq
        clear hq
        refine G2.wp_region_growG (rpG p (.slice Av (dropC c (ts.take k)).length cv) (.int .i64 cur)) [] 10 49 (rpPV p (.slice Av (dropC c (ts.take k)).length cv) (.int .i64 cur) cur true) (by kernel_rfl) (by kernel_rfl) rfl (rpG_refl _ _ _) (rpG_trans _ _ _) (rpG_drew _ _ _ _ hp1r) (fun _ _ _ _ _ h => h) (rpPV_keep _ _ _ _ _) ?_ (fun i hi => by cases hi) ?_
        · intro i hi
          have hi' : i = 0 ∨ i = 1 ∨ i = 2 ∨ i = 3 ∨ i = 4 ∨ i = 5 ∨ i = 6 ∨ i = 7 ∨ i = 8 ∨ i = 9 := by omega
          rcases hi' with rfl | rfl | rfl | rfl | rfl | rfl | rfl | rfl | rfl | rfl
          · intro a w' hk hF hD K hK
            simp only [List.getElem?_toArray, List.getElem?_cons_zero, List.getElem?_cons_succ, Option.map_some, Option.getD_some]
            have h8 : a.tmps[8]?.getD undef = .pointer (some ⟨p + 1 + 1, 0, none⟩) := hF 8 (by kernel_rfl)
            have d0 := hk.1.cellS b0 (by show p + 1 + 1 ≠ p + 1; omega)
            have d1 := hk.1.cellS b1 (by show p + 1 + 1 ≠ p + 1; omega)
            clear hF hD
            go_simp
            exact hK.out _ _ (rpG_refl _ _ _ _) rfl
          · intro a w' hk hF hD K hK
            simp only [List.getElem?_toArray, List.getElem?_cons_zero, List.getElem?_cons_succ, Option.map_some, Option.getD_some]
            have h8 : a.tmps[8]?.getD undef = .pointer (some ⟨p + 1 + 1, 0, none⟩) := hF 8 (by kernel_rfl)
            clear hF hD
            go_simp
            exact hK.out _ _ (rpG_refl _ _ _ _) rfl
          · intro a w' hk hF hD K hK
            simp only [List.getElem?_toArray, List.getElem?_cons_zero, List.getElem?_cons_succ, Option.map_some, Option.getD_some]
            have h41 : a.tmps[41]?.getD undef = .pointer (some ⟨p + 1 + 1, 1, none⟩) := hD 1 (by kernel_rfl)
            have d1 := hk.1.cellS b1 (by show p + 1 + 1 ≠ p + 1; omega)
            clear hF hD
            go_simp
            exact hK.out _ _ (rpG_refl _ _ _ _) rfl
          · intro a w' hk hF hD K hK
            simp only [List.getElem?_toArray, List.getElem?_cons_zero, List.getElem?_cons_succ, Option.map_some, Option.getD_some]
            have h42 : a.tmps[42]?.getD undef = .int .i64 cur := hD 2 (by kernel_rfl)
            have hq := HQ.out
            clear hF hD
            go_simp
            exact hK.out _ _ (rpG_refl _ _ _ _) rfl
          · intro a w' hk hF hD K hK
            simp only [List.getElem?_toArray, List.getElem?_cons_zero, List.getElem?_cons_succ, Option.map_some, Option.getD_some]
            have h43 : a.tmps[43]?.getD undef = .bool true := hD 3 (by kernel_rfl)
            clear hF hD
            go_simp
            exact hK.out _ _ (rpG_refl _ _ _ _) rfl
          · intro a w' hk hF hD K hK
            simp only [List.getElem?_toArray, List.getElem?_cons_zero, List.getElem?_cons_succ, Option.map_some, Option.getD_some]
            have h44 : a.tmps[44]?.getD undef = .bool true := hD 4 (by kernel_rfl)
            have h44s := some_of_getD h44
            have h8 : a.tmps[8]?.getD undef = .pointer (some ⟨p + 1 + 1, 0, none⟩) := hF 8 (by kernel_rfl)
            clear hF hD
            go_simp
            exact hK.out _ _ (rpG_refl _ _ _ _) rfl
          · intro a w' hk hF hD K hK
            simp only [List.getElem?_toArray, List.getElem?_cons_zero, List.getElem?_cons_succ, Option.map_some, Option.getD_some]
            have h44 : a.tmps[44]?.getD undef = .bool true := hD 4 (by kernel_rfl)
            have h44s := some_of_getD h44
            have h45 : a.tmps[45]?.getD undef = if true then .pointer (some ⟨p + 1 + 1, 1, none⟩) else undef := hD 5 (by kernel_rfl)
            have d1 := hk.1.cellS b1 (by show p + 1 + 1 ≠ p + 1; omega)
            simp only [if_true, Bool.false_eq_true, if_false] at h45
            clear hF hD
            go_simp
            exact hK.out _ _ (rpG_refl _ _ _ _) rfl
          · intro a w' hk hF hD K hK
            simp only [List.getElem?_toArray, List.getElem?_cons_zero, List.getElem?_cons_succ, Option.map_some, Option.getD_some]
            have h44 : a.tmps[44]?.getD undef = .bool true := hD 4 (by kernel_rfl)
            have h44s := some_of_getD h44
            have h46 : a.tmps[46]?.getD undef = if true then .int .i64 cur else undef := hD 6 (by kernel_rfl)
            simp only [if_true, Bool.false_eq_true, if_false] at h46
            clear hF hD
            go_simp
            exact hK.out _ _ (rpG_refl _ _ _ _) rfl
          · intro a w' hk hF hD K hK
            simp only [List.getElem?_toArray, List.getElem?_cons_zero, List.getElem?_cons_succ, Option.map_some, Option.getD_some]
            have h44 : a.tmps[44]?.getD undef = .bool true := hD 4 (by kernel_rfl)
            have h44s := some_of_getD h44
            have h47 : a.tmps[47]?.getD undef = if true then .bool (decide (cur ≤ 1000000000)) else undef := hD 7 (by kernel_rfl)
            simp only [if_true, Bool.false_eq_true, if_false] at h47
            clear hF hD
            go_simp
            exact hK.out _ _ (rpG_refl _ _ _ _) rfl
          · intro a w' hk hF hD K hK
            simp only [List.getElem?_toArray, List.getElem?_cons_zero, List.getElem?_cons_succ, Option.map_some, Option.getD_some]
            have h6 : a.tmps[6]?.getD undef = .pointer (some ⟨p + 1, 0, none⟩) := hF 6 (by kernel_rfl)
            have h40 : a.tmps[40]?.getD undef = .agg #[.slice Av (dropC c (ts.take k)).length cv, .int .i64 cur] := hD 0 (by kernel_rfl)
            obtain ⟨y0, y1, hBy⟩ := hk.2.2 ⟨_, _, hR1⟩
            have u0 := hBy.cell (j := 0) rfl
            have u1 := hBy.cell (j := 1) rfl
            have u2 := hBy.free (j := 0) (by simp)
            have u3 := hBy.free (j := 1) (by simp)
            have hBz := hBy.set2 (.slice Av (dropC c (ts.take k)).length cv) (.int .i64 cur)
            have hKz : Kg w' ((w'.setCell ⟨p + 1, 0, none⟩ (.slice Av (dropC c (ts.take k)).length cv)).setCell ⟨p + 1, 1, none⟩ (.int .i64 cur)) (p + 1) := ((Kg.refl _ _).set (p := ⟨p + 1, 0, none⟩) (.inl rfl) _).set (p := ⟨p + 1, 1, none⟩) (.inl rfl) _
            clear hF hD hBy
            go_simp
            exact hK.out undef _ ⟨hKz, fun _ => hBz, fun _ => ⟨_, _, hBz⟩⟩ hBz
        · intro v w3 k3 hv
          have hBF := hv 9 (by omega)
          have h48 : v 8 = .bool (true && decide (cur ≤ 1000000000)) := hv 8 (by omega)
          clear hv
          simp only [G2.growPut, G2.gSlot, List.getElem?_toArray, List.getElem?_cons_zero, List.getElem?_cons_succ, Option.bind_some, List.setIfInBounds_toArray, List.set_cons_zero, List.set_cons_succ, List.drop_succ_cons, List.drop_zero, h48]
          have ownF := (own.kg k3.1 (by omega)).less (base' := p) (by omega)
          have kF := Kg.to_kp kw k3.1 (by have := hpp.out; omega)
          rw [HC2.out] at *
          go_wp2
          refine bodyPost_ret (results_cell_bx2 rfl _ _ (p + 1) [.slice Av (dropC c ts).length cv, .int .i64 cur] _ rfl hBF.range Try.underlying30 rfl (by kernel_rfl)) rfl ?_
          refine ⟨.slice Av (dropC c ts).length cv, ?_, ?_, kF⟩
          · rw [HS2.out]
            unfold inBd
            rw [HQ.out]
            rfl
          · rw [hpp.out]
            exact ownF
      | false =>
        have HQ := hid hq
        clear hq
        refine G2.wp_region_growG (rpG p (.slice Av (dropC c (ts.take k)).length cv) (.int .i64 cur)) [] 10 49 (rpPV p (.slice Av (dropC c (ts.take k)).length cv) (.int .i64 cur) cur false) (by kernel_rfl) (by kernel_rfl) rfl (rpG_refl _ _ _) (rpG_trans _ _ _) (rpG_drew _ _ _ _ hp1r) (fun _ _ _ _ _ h => h) (rpPV_keep _ _ _ _ _) ?_ (fun i hi => by cases hi) ?_
        · intro i hi
          have hi' : i = 0 ∨ i = 1 ∨ i = 2 ∨ i = 3 ∨ i = 4 ∨ i = 5 ∨ i = 6 ∨ i = 7 ∨ i = 8 ∨ i = 9 := by omega
          rcases hi' with rfl | rfl | rfl | rfl | rfl | rfl | rfl | rfl | rfl | rfl
          · intro a w' hk hF hD K hK
            simp only [List.getElem?_toArray, List.getElem?_cons_zero, List.getElem?_cons_succ, Option.map_some, Option.getD_some]
            have h8 : a.tmps[8]?.getD undef = .pointer (some ⟨p + 1 + 1, 0, none⟩) := hF 8 (by kernel_rfl)
            have d0 := hk.1.cellS b0 (by show p + 1 + 1 ≠ p + 1; omega)
            have d1 := hk.1.cellS b1 (by show p + 1 + 1 ≠ p + 1; omega)
            clear hF hD
            go_simp
            exact hK.out _ _ (rpG_refl _ _ _ _) rfl
          · intro a w' hk hF hD K hK
            simp only [List.getElem?_toArray, List.getElem?_cons_zero, List.getElem?_cons_succ, Option.map_some, Option.getD_some]
            have h8 : a.tmps[8]?.getD undef = .pointer (some ⟨p + 1 + 1, 0, none⟩) := hF 8 (by kernel_rfl)
            clear hF hD
            go_simp
            exact hK.out _ _ (rpG_refl _ _ _ _) rfl
          · intro a w' hk hF hD K hK
            simp only [List.getElem?_toArray, List.getElem?_cons_zero, List.getElem?_cons_succ, Option.map_some, Option.getD_some]
            have h41 : a.tmps[41]?.getD undef = .pointer (some ⟨p + 1 + 1, 1, none⟩) := hD 1 (by kernel_rfl)
            have d1 := hk.1.cellS b1 (by show p + 1 + 1 ≠ p + 1; omega)
            clear hF hD
            go_simp
            exact hK.out _ _ (rpG_refl _ _ _ _) rfl
          · intro a w' hk hF hD K hK
            simp only [List.getElem?_toArray, List.getElem?_cons_zero, List.getElem?_cons_succ, Option.map_some, Option.getD_some]
            have h42 : a.tmps[42]?.getD undef = .int .i64 cur := hD 2 (by kernel_rfl)
            have hq := HQ.out
            clear hF hD
            go_simp
            exact hK.out _ _ (rpG_refl _ _ _ _) rfl
          · intro a w' hk hF hD K hK
            simp only [List.getElem?_toArray, List.getElem?_cons_zero, List.getElem?_cons_succ, Option.map_some, Option.getD_some]
            have h43 : a.tmps[43]?.getD undef = .bool false := hD 3 (by kernel_rfl)
            clear hF hD
            go_simp
            exact hK.out _ _ (rpG_refl _ _ _ _) rfl
          · intro a w' hk hF hD K hK
            simp only [List.getElem?_toArray, List.getElem?_cons_zero, List.getElem?_cons_succ, Option.map_some, Option.getD_some]
            have h44 : a.tmps[44]?.getD undef = .bool false := hD 4 (by kernel_rfl)
            have h44s := some_of_getD h44
            have h8 : a.tmps[8]?.getD undef = .pointer (some ⟨p + 1 + 1, 0, none⟩) := hF 8 (by kernel_rfl)
            clear hF hD
            go_simp
            exact hK.out _ _ (rpG_refl _ _ _ _) rfl
          · intro a w' hk hF hD K hK
            simp only [List.getElem?_toArray, List.getElem?_cons_zero, List.getElem?_cons_succ, Option.map_some, Option.getD_some]
            have h44 : a.tmps[44]?.getD undef = .bool false := hD 4 (by kernel_rfl)
            have h44s := some_of_getD h44
            have h45 : a.tmps[45]?.getD undef = if false then .pointer (some ⟨p + 1 + 1, 1, none⟩) else undef := hD 5 (by kernel_rfl)
            have d1 := hk.1.cellS b1 (by show p + 1 + 1 ≠ p + 1; omega)
            simp only [if_true, Bool.false_eq_true, if_false] at h45
            clear hF hD
            go_simp
            exact hK.out _ _ (rpG_refl _ _ _ _) rfl
          · intro a w' hk hF hD K hK
            simp only [List.getElem?_toArray, List.getElem?_cons_zero, List.getElem?_cons_succ, Option.map_some, Option.getD_some]
            have h44 : a.tmps[44]?.getD undef = .bool false := hD 4 (by kernel_rfl)
            have h44s := some_of_getD h44
            have h46 : a.tmps[46]?.getD undef = if false then .int .i64 cur else undef := hD 6 (by kernel_rfl)
            simp only [if_true, Bool.false_eq_true, if_false] at h46
            clear hF hD
            go_simp
            exact hK.out _ _ (rpG_refl _ _ _ _) rfl
          · intro a w' hk hF hD K hK
            simp only [List.getElem?_toArray, List.getElem?_cons_zero, List.getElem?_cons_succ, Option.map_some, Option.getD_some]
            have h44 : a.tmps[44]?.getD undef = .bool false := hD 4 (by kernel_rfl)
            have h44s := some_of_getD h44
            have h47 : a.tmps[47]?.getD undef = if false then .bool (decide (cur ≤ 1000000000)) else undef := hD 7 (by kernel_rfl)
            simp only [if_true, Bool.false_eq_true, if_false] at h47
            clear hF hD
            go_simp
            exact hK.out _ _ (rpG_refl _ _ _ _) rfl
          · intro a w' hk hF hD K hK
            simp only [List.getElem?_toArray, List.getElem?_cons_zero, List.getElem?_cons_succ, Option.map_some, Option.getD_some]
            have h6 : a.tmps[6]?.getD undef = .pointer (some ⟨p + 1, 0, none⟩) := hF 6 (by kernel_rfl)
            have h40 : a.tmps[40]?.getD undef = .agg #[.slice Av (dropC c (ts.take k)).length cv, .int .i64 cur] := hD 0 (by kernel_rfl)
            obtain ⟨y0, y1, hBy⟩ := hk.2.2 ⟨_, _, hR1⟩
            have u0 := hBy.cell (j := 0) rfl
            have u1 := hBy.cell (j := 1) rfl
            have u2 := hBy.free (j := 0) (by simp)
            have u3 := hBy.free (j := 1) (by simp)
            have hBz := hBy.set2 (.slice Av (dropC c (ts.take k)).length cv) (.int .i64 cur)
            have hKz : Kg w' ((w'.setCell ⟨p + 1, 0, none⟩ (.slice Av (dropC c (ts.take k)).length cv)).setCell ⟨p + 1, 1, none⟩ (.int .i64 cur)) (p + 1) := ((Kg.refl _ _).set (p := ⟨p + 1, 0, none⟩) (.inl rfl) _).set (p := ⟨p + 1, 1, none⟩) (.inl rfl) _
            clear hF hD hBy
            go_simp
            exact hK.out undef _ ⟨hKz, fun _ => hBz, fun _ => ⟨_, _, hBz⟩⟩ hBz
        · intro v w3 k3 hv
          have hBF := hv 9 (by omega)
          have h48 : v 8 = .bool (false && decide (cur ≤ 1000000000)) := hv 8 (by omega)
          clear hv
          simp only [G2.growPut, G2.gSlot, List.getElem?_toArray, List.getElem?_cons_zero, List.getElem?_cons_succ, Option.bind_some, List.setIfInBounds_toArray, List.set_cons_zero, List.set_cons_succ, List.drop_succ_cons, List.drop_zero, h48]
          have ownF := (own.kg k3.1 (by omega)).less (base' := p) (by omega)
          have kF := Kg.to_kp kw k3.1 (by have := hpp.out; omega)
          rw [HC2.out] at *
          go_wp2
          refine bodyPost_ret (results_cell_bx2 rfl _ _ (p + 1) [.slice Av (dropC c ts).length cv, .int .i64 cur] _ rfl hBF.range Try.underlying30 rfl (by kernel_rfl)) rfl ?_
          refine ⟨.slice Av (dropC c ts).length cv, ?_, ?_, kF⟩
          · rw [HS2.out]
            unfold inBd
            rw [HQ.out]
            rfl
          · rw [hpp.out]
            exact ownF
end Go.Proofs.Ytfllmnaillilhaa
