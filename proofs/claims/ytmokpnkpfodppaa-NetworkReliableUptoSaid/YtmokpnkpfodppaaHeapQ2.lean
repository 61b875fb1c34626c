
/-
The queue of copies in flight: swapping, and the sift of a heap: the walks.
-/
import Derived.Test.YtmokpnkpfodppaaHeapQ1
import Derived.Deep.MidRow
namespace Go.Proofs.Ytmokpnkpfodppaa
set_option linter.unusedSimpArgs false
set_option linter.unusedVariables false
open Go.RowKit

theorem putV_cons {cs : List Value} {o : Nat} {v : Value} {vs : List Value} (hl : o < cs.length) : putV (cs.set o v) (o + 1) vs = putV cs o (v :: vs) := by
  have hset : cs.set o v = cs.take o ++ v :: cs.drop (o + 1) := by rw [List.set_eq_take_append_cons_drop, if_pos (by omega)]
  have ht : (cs.take o).length = o := by simp; omega
  unfold putV
  rw [hset, List.take_append, List.drop_append, ht, List.take_of_length_le (l := cs.take o) (by omega), List.drop_of_length_le (l := cs.take o) (by omega), List.length_cons]
  have e1 : o + 1 - o = 1 := by omega
  have e2 : o + 1 + vs.length - o = vs.length + 1 := by omega
  rw [e1, e2]
  simp [Nat.add_assoc, Nat.add_comm 1]
theorem owns_setCells {base e size g n c : Nat} : ∀ (vs : List Value) (o : Nat) (w : World) (xs : List Value), w.ownsRow base e size (.slice (some ⟨g, 0, none⟩) n c) n xs → o + vs.length ≤ xs.length → (w.setCells g o vs).ownsRow base e size (.slice (some ⟨g, 0, none⟩) n c) n (putV xs o vs)
  | [], o, w, xs, h, _ => by
    have : putV xs o [] = xs := by unfold putV; simp
    rw [this]
    exact h
  | v :: vs, o, w, xs, h, hl => by
    rw [List.length_cons] at hl
    have h1 := (World.ownsRow.stored h o v).1
    rw [World.setCells, ← putV_cons (by omega)]
    exact owns_setCells vs (o + 1) _ _ h1 (by rw [List.length_set]; omega)
section
variable {α : Type} {enc : α → List Value} {e size base g n c k : Nat} {w : World} {l : List α}
theorem flat_setRow (he : ∀ x, (enc x).length = size) (x : α) (hk : k < l.length) : putV (flat enc l) (k * size) (enc x) = flat enc (l.set k x) := by
  unfold putV
  rw [List.set_eq_take_append_cons_drop, if_pos hk, flat_append, flat_cons, ← flat_take he l k, he x]
  have : k * size + size = (k + 1) * size := by rw [Nat.add_mul, Nat.one_mul]
  rw [this, ← flat_drop he l (k + 1), List.append_assoc]
theorem Own.setRow (he : ∀ x, (enc x).length = size) (h : Own enc e size base w (.slice (some ⟨g, 0, none⟩) n c) l) (hn : n = l.length) (hk : k < l.length) (x : α) : Own enc e size base (w.setCells g (k * size) (enc x)) (.slice (some ⟨g, 0, none⟩) n c) (l.set k x) := by
  subst hn
  unfold Own at h ⊢
  have h1 : (k + 1) * size ≤ l.length * size := Nat.mul_le_mul_right _ hk
  have h2 := owns_setCells (enc x) (k * size) w _ h (by rw [flat_length he, he]; rw [Nat.add_mul, Nat.one_mul] at h1; exact h1)
  rw [flat_setRow he x hk] at h2
  rw [List.length_set]
  exact h2
theorem Own.thereRow (he : ∀ x, (enc x).length = size) (h : Own enc e size base w (.slice (some ⟨g, 0, none⟩) n c) l) (hn : n = l.length) (hk : k < l.length) : w.there g (k * size) size := fun j hj => by
  refine ⟨?_, h.frozen hn _⟩
  rw [h.cellAt he hn hk hj, List.getElem?_eq_getElem (by rw [he]; exact hj)]
  rfl
theorem Own.trunc (he : ∀ x, (enc x).length = size) (h : Own enc e size base w (.slice (some ⟨g, 0, none⟩) n c) l) (hn : n = l.length) {m : Nat} (hm : m ≤ n) : Own enc e size base w (.slice (some ⟨g, 0, none⟩) m c) (l.take m) := by
  subst hn
  have hml : (l.take m).length = m := by simp; omega
  unfold Own World.ownsRow at h ⊢
  refine ⟨by rw [flat_length he], ?_⟩
  rcases h.2 with ⟨h0, -⟩ | ⟨g', cap, cur, h1, h2, h3, h4, h5, h6, h7⟩
  · cases h0
  · injection h1 with a1 a2 a3
    injection a1 with a1
    injection a1 with a1
    subst a1 a3
    refine .inr ⟨g, c, cur, by rw [hml], h2, h3, by omega, h5, h6, ?_⟩
    rw [hml, flat_take he, ← h7, List.take_take]
    have : m * size ≤ l.length * size := Nat.mul_le_mul_right _ hm
    rw [Nat.min_eq_left this]
end
theorem Kg.setCells {a : World} {g : Nat} : ∀ (vs : List Value) (o : Nat) (w : World), Kg a w g → Kg a (w.setCells g o vs) g
  | [], _, _, h => h
  | v :: vs, o, w, h => by
    rw [World.setCells]
    exact Kg.setCells vs (o + 1) _ (h.set (p := ⟨g, o, none⟩) (.inl rfl) v)
def swapL (l : List Par) (i j : Nat) : List Par := (l.set i (l.getD j default)).set j (l.getD i default)
theorem swapL_len (l : List Par) (i j : Nat) : (swapL l i j).length = l.length := by simp [swapL]
set_option maxRecDepth 8000 in
set_option maxHeartbeats 1600000 in
theorem qSwap_any (base g n c : Nat) (l : List Par) (i j : Nat) (w : World) (h : Own encPar 105 5 base w (.slice (some ⟨g, 0, none⟩) n c) l) (hn : n = l.length) (hi : i < l.length) (hj : j < l.length) :
    Calls Try.prog 119 #[.slice (some ⟨g, 0, none⟩) n c, .int .i64 (i : Int), .int .i64 (j : Int)] w fun e w' => e = .returned (.tuple #[]) ∧ Own encPar 105 5 base w' (.slice (some ⟨g, 0, none⟩) n c) (swapL l i j) ∧ Kg w w' g := by
  subst hn
  have hS := h.sl encPar_len
  obtain ⟨hc, hm⟩ := hS.caps
  obtain ⟨b, o, he, hb, i0, i1, i2, i3, i4⟩ := hS.par hi
  injection he with he
  injection he with e1 e2
  subst e1 e2
  obtain ⟨b', o', he, -, j0, j1, j2, j3, j4⟩ := hS.par hj
  injection he with he
  injection he with e1 e2
  subst e1 e2
  simp only [Nat.zero_add] at i0 i1 i2 i3 i4 j0 j1 j2 j3 j4
  have HX : Hid (l.getD i default = l[i]) := hid (by simp [List.getD, hi])
  have HY : Hid (l.getD j default = l[j]) := hid (by simp [List.getD, hj])
  have HS : Hid (swapL l i j = (l.set i l[j]).set j l[i]) := hid (by unfold swapL; rw [HX.out, HY.out])
  clear HX HY
  generalize l[i] = x at *
  generalize l[j] = y at *
  have q1 : (i : Int) < l.length := by omega
  have q2 : (j : Int) < l.length := by omega
  go_enter Try.func119, Try.ntmps119
  go_wp2
  refine G2.wp_region_growG Kp [2, 3] 13 20 (G2.pvL [G2.eqv (.slice (some ⟨g, 0, none⟩) l.length c), G2.eqv (.int .i64 (i : Int)), G2.eqv (.slice (some ⟨g, 0, none⟩) l.length c), G2.eqv (.int .i64 (j : Int)), G2.eqv (.slice (some ⟨g, 0, none⟩) l.length c), G2.eqv (.int .i64 (j : Int)), G2.eqv (.pointer (some ⟨g, j * 5, none⟩)), G2.eqv (.agg (encPar y).toArray), G2.eqv (.slice (some ⟨g, 0, none⟩) l.length c), G2.eqv (.int .i64 (i : Int)), G2.eqv (.pointer (some ⟨g, i * 5, none⟩)), G2.eqv (.agg (encPar x).toArray), G2.eqv (.pointer (some ⟨g, i * 5, none⟩))]) (by kernel_rfl) (by kernel_rfl) rfl (fun x => Kp.refl x) (fun _ _ _ h k => h.trans k) (Kp.refl _).drew (fun _ _ _ _ _ h => h) (G2.pvL_keep (G2.stabL_cons (G2.stab_eq _) (G2.stabL_cons (G2.stab_eq _) (G2.stabL_cons (G2.stab_eq _) (G2.stabL_cons (G2.stab_eq _) (G2.stabL_cons (G2.stab_eq _) (G2.stabL_cons (G2.stab_eq _) (G2.stabL_cons (G2.stab_eq _) (G2.stabL_cons (G2.stab_eq _) (G2.stabL_cons (G2.stab_eq _) (G2.stabL_cons (G2.stab_eq _) (G2.stabL_cons (G2.stab_eq _) (G2.stabL_cons (G2.stab_eq _) (G2.stabL_cons (G2.stab_eq _) (G2.stabL_nil))))))))))))))) ?_ ?_ ?_
  · intro i0 hi0
    have hi' : i0 = 0 ∨ i0 = 1 ∨ i0 = 2 ∨ i0 = 3 ∨ i0 = 4 ∨ i0 = 5 ∨ i0 = 6 ∨ i0 = 7 ∨ i0 = 8 ∨ i0 = 9 ∨ i0 = 10 ∨ i0 = 11 ∨ i0 = 12 := by omega
    rcases hi' with rfl | rfl | rfl | rfl | rfl | rfl | rfl | rfl | rfl | rfl | rfl | rfl | rfl
    · intro a w' hk hF hD K hK
      simp only [List.getElem?_toArray, List.getElem?_cons_zero, List.getElem?_cons_succ, Option.map_some, Option.getD_some]
      have h0 : a.tmps[0]?.getD undef = .slice (some ⟨g, 0, none⟩) l.length c := hF 0 (by kernel_rfl)
      clear hF hD
      go_simp
      exact hK.out _ _ (Kp.refl _) rfl
    · intro a w' hk hF hD K hK
      simp only [List.getElem?_toArray, List.getElem?_cons_zero, List.getElem?_cons_succ, Option.map_some, Option.getD_some]
      have h1 : a.tmps[1]?.getD undef = .int .i64 (i : Int) := hF 1 (by kernel_rfl)
      clear hF hD
      go_simp
      exact hK.out _ _ (Kp.refl _) rfl
    · intro a w' hk hF hD K hK
      simp only [List.getElem?_toArray, List.getElem?_cons_zero, List.getElem?_cons_succ, Option.map_some, Option.getD_some]
      have h0 : a.tmps[0]?.getD undef = .slice (some ⟨g, 0, none⟩) l.length c := hF 0 (by kernel_rfl)
      clear hF hD
      go_simp
      exact hK.out _ _ (Kp.refl _) rfl
    · intro a w' hk hF hD K hK
      simp only [List.getElem?_toArray, List.getElem?_cons_zero, List.getElem?_cons_succ, Option.map_some, Option.getD_some]
      have h2 : a.tmps[2]?.getD undef = .int .i64 (j : Int) := hF 2 (by kernel_rfl)
      clear hF hD
      go_simp
      exact hK.out _ _ (Kp.refl _) rfl
    · intro a w' hk hF hD K hK
      simp only [List.getElem?_toArray, List.getElem?_cons_zero, List.getElem?_cons_succ, Option.map_some, Option.getD_some]
      have h0 : a.tmps[0]?.getD undef = .slice (some ⟨g, 0, none⟩) l.length c := hF 0 (by kernel_rfl)
      clear hF hD
      go_simp
      exact hK.out _ _ (Kp.refl _) rfl
    · intro a w' hk hF hD K hK
      simp only [List.getElem?_toArray, List.getElem?_cons_zero, List.getElem?_cons_succ, Option.map_some, Option.getD_some]
      have h2 : a.tmps[2]?.getD undef = .int .i64 (j : Int) := hF 2 (by kernel_rfl)
      clear hF hD
      go_simp
      exact hK.out _ _ (Kp.refl _) rfl
    · intro a w' hk hF hD K hK
      simp only [List.getElem?_toArray, List.getElem?_cons_zero, List.getElem?_cons_succ, Option.map_some, Option.getD_some]
      have h10 : a.tmps[10]?.getD undef = .slice (some ⟨g, 0, none⟩) l.length c := hD 4 (by kernel_rfl)
      have h11 : a.tmps[11]?.getD undef = .int .i64 (j : Int) := hD 5 (by kernel_rfl)
      clear hF hD
      go_simp
      exact hK.out _ _ (Kp.refl _) rfl
    · intro a w' hk hF hD K hK
      simp only [List.getElem?_toArray, List.getElem?_cons_zero, List.getElem?_cons_succ, Option.map_some, Option.getD_some]
      have h12 : a.tmps[12]?.getD undef = .pointer (some ⟨g, j * 5, none⟩) := hD 6 (by kernel_rfl)
      clear hF hD
      have z0 := hk.cellS j0
      have z1 := hk.cellS j1
      have z2 := hk.cellS j2
      have z3 := hk.cellS j3
      have z4 := hk.cellS j4
      go_simp
      exact hK.out _ _ (Kp.refl _) rfl
    · intro a w' hk hF hD K hK
      simp only [List.getElem?_toArray, List.getElem?_cons_zero, List.getElem?_cons_succ, Option.map_some, Option.getD_some]
      have h0 : a.tmps[0]?.getD undef = .slice (some ⟨g, 0, none⟩) l.length c := hF 0 (by kernel_rfl)
      clear hF hD
      go_simp
      exact hK.out _ _ (Kp.refl _) rfl
    · intro a w' hk hF hD K hK
      simp only [List.getElem?_toArray, List.getElem?_cons_zero, List.getElem?_cons_succ, Option.map_some, Option.getD_some]
      have h1 : a.tmps[1]?.getD undef = .int .i64 (i : Int) := hF 1 (by kernel_rfl)
      clear hF hD
      go_simp
      exact hK.out _ _ (Kp.refl _) rfl
    · intro a w' hk hF hD K hK
      simp only [List.getElem?_toArray, List.getElem?_cons_zero, List.getElem?_cons_succ, Option.map_some, Option.getD_some]
      have h14 : a.tmps[14]?.getD undef = .slice (some ⟨g, 0, none⟩) l.length c := hD 8 (by kernel_rfl)
      have h15 : a.tmps[15]?.getD undef = .int .i64 (i : Int) := hD 9 (by kernel_rfl)
      clear hF hD
      go_simp
      exact hK.out _ _ (Kp.refl _) rfl
    · intro a w' hk hF hD K hK
      simp only [List.getElem?_toArray, List.getElem?_cons_zero, List.getElem?_cons_succ, Option.map_some, Option.getD_some]
      have h16 : a.tmps[16]?.getD undef = .pointer (some ⟨g, i * 5, none⟩) := hD 10 (by kernel_rfl)
      clear hF hD
      have z0 := hk.cellS i0
      have z1 := hk.cellS i1
      have z2 := hk.cellS i2
      have z3 := hk.cellS i3
      have z4 := hk.cellS i4
      go_simp
      exact hK.out _ _ (Kp.refl _) rfl
    · intro a w' hk hF hD K hK
      simp only [List.getElem?_toArray, List.getElem?_cons_zero, List.getElem?_cons_succ, Option.map_some, Option.getD_some]
      have h6 : a.tmps[6]?.getD undef = .slice (some ⟨g, 0, none⟩) l.length c := hD 0 (by kernel_rfl)
      have h7 : a.tmps[7]?.getD undef = .int .i64 (i : Int) := hD 1 (by kernel_rfl)
      clear hF hD
      go_simp
      exact hK.out _ _ (Kp.refl _) rfl
  · intro i0 hi0
    have hi' : i0 = 2 ∨ i0 = 3 := by simpa using hi0
    rcases hi' with rfl | rfl
    · refine ⟨by omega, fun a w' hk hF hD => ?_⟩
      simp only [List.getElem?_toArray, List.getElem?_cons_zero, List.getElem?_cons_succ, Option.map_some, Option.getD_some]
      have h0 : a.tmps[0]?.getD undef = .slice (some ⟨g, 0, none⟩) l.length c := hF 0 (by kernel_rfl)
      clear hF hD
      exact ⟨.slice (some ⟨g, 0, none⟩) l.length c, rfl, Or.inl ⟨by simp [Region.wanted], fun w => by go_simp⟩⟩
    · refine ⟨by omega, fun a w' hk hF hD => ?_⟩
      simp only [List.getElem?_toArray, List.getElem?_cons_zero, List.getElem?_cons_succ, Option.map_some, Option.getD_some]
      have h2 : a.tmps[2]?.getD undef = .int .i64 (j : Int) := hF 2 (by kernel_rfl)
      clear hF hD
      exact ⟨.int .i64 (j : Int), rfl, Or.inl ⟨by simp [Region.wanted], fun w => by go_simp⟩⟩
  intro v w9 k9 hv
  have v12 : v 12 = .pointer (some ⟨g, i * 5, none⟩) := hv 12 (by omega)
  have v7 : v 7 = .agg (encPar y).toArray := hv 7 (by omega)
  have v2 : v 2 = .slice (some ⟨g, 0, none⟩) l.length c := hv 2 (by omega)
  have v3 : v 3 = .int .i64 (j : Int) := hv 3 (by omega)
  have v11 : v 11 = .agg (encPar x).toArray := hv 11 (by omega)
  clear hv
  simp only [G2.growPut, G2.gSlot, List.getElem?_toArray, List.getElem?_cons_zero, List.getElem?_cons_succ, Option.bind_some, List.setIfInBounds_toArray, List.set_cons_zero, List.set_cons_succ, List.drop_succ_cons, List.drop_zero, v12, v7, v2, v3, v11]
  have own9 := h.kp k9
  have hg9 := (own9.thereRow encPar_len rfl hi)
  have own1 := own9.setRow encPar_len rfl hi y
  have hth := (own9.thereRow encPar_len rfl hj)
  have hth2 := World.there_setCells hth g (i * 5) (encPar y)
  have own2 := own1.setRow (k := j) encPar_len (by simp) (by simpa using hj) x
  have hkg := Kg.setCells (encPar x) (j * 5) _ (Kg.setCells (encPar y) (i * 5) _ (k9.kg g))
  refine wpList_store_mid rfl 105 (.tmp 18) (.tmp 13) rfl g (i * 5) (encPar y).toArray rfl rfl hg9 (by kernel_rfl) (all_oneCell_toArray (encPar_one y)) ?_
  generalize w9.setCells g (i * 5) (encPar y).toArray.toList = w10 at *
  clear i0 i1 i2 i3 i4 j0 j1 j2 j3 j4 hg9 hth own1 own9
  go_wp2_with (refine wpList_store_mid rfl 105 (.tmp 19) (.tmp 17) rfl g (j * 5) (encPar x).toArray rfl rfl hth2 (by kernel_rfl) (all_oneCell_toArray (encPar_one x)) ?_)
  go_end0
  exact ⟨rfl, by rw [HS.out]; exact own2, hkg⟩
end Go.Proofs.Ytmokpnkpfodppaa
