
/-
slices.IndexFunc and slices.DeleteFunc at needs: the walks.
-/
import Derived.Test.YtbcekihjcgnhkaaBkK
import Derived.Lib.SmallJoins
namespace Go.Proofs.Ytbcekihjcgnhkaa
set_option linter.unusedSimpArgs false
set_option linter.unusedVariables false
open Go.RowKit

def idxF {α : Type} (p : α → Bool) : Nat → List α → Int
  | _, [] => -1
  | k, x :: l => if p x then (k : Int) else idxF p (k + 1) l
theorem idxF_spec {α : Type} (p : α → Bool) : ∀ (l : List α) (k : Nat), (idxF p k l = -1 ∧ ∀ x ∈ l, p x = false) ∨ ∃ j, ∃ h : j < l.length, idxF p k l = ((k + j : Nat) : Int) ∧ p l[j] = true ∧ ∀ x ∈ l.take j, p x = false
  | [], k => .inl ⟨rfl, fun x hx => by cases hx⟩
  | x :: l, k => by
    unfold idxF
    by_cases hx : p x = true
    · rw [if_pos hx]
      exact .inr ⟨0, by simp, rfl, hx, fun y hy => by cases hy⟩
    · rw [if_neg hx]
      have hx : p x = false := by simpa using hx
      rcases idxF_spec p l (k + 1) with ⟨h1, h2⟩ | ⟨j, h, h1, h2, h3⟩
      · refine .inl ⟨h1, fun y hy => ?_⟩
        rcases List.mem_cons.1 hy with rfl | hy
        · exact hx
        · exact h2 y hy
      · refine .inr ⟨j + 1, by simpa using h, by rw [h1]; congr 1; omega, by simpa using h2, fun y hy => ?_⟩
        rw [List.take_succ_cons] at hy
        rcases List.mem_cons.1 hy with rfl | hy
        · exact hx
        · exact h3 y hy
set_option maxHeartbeats 400000 in
theorem IndexFuncNd_any (p : Nd → Bool) (F : FuncId) (cap : List Value) (v : Value) (l : List Nd) (w : World) (hS : Nds w v l) (hr : Real Try.prog F)
    (hf : ∀ (w' : World) (x1 x2 x3 x4 : Int), Kp w w' →  Calls Try.prog F (.agg #[.int .i64 x1, .int .i64 x2, .int .i64 x3, .int .i64 x4] :: cap).toArray w' fun e w'' => e = .returned (.bool (p ⟨⟨x1, x2, x3⟩, x4⟩)) ∧ Kp w' w'') :
    Calls Try.prog 33 #[v, .func (.func F) #[] cap.toArray] w fun e w' => e = .returned (.int .i64 (idxF p 0 l)) ∧ Kp w w' := by
  have HC := hid hf
  clear hf
  have hcf := fun args w => hr.run args w
  obtain ⟨A, c, rfl, hc, hm⟩ := hS.form
  go_enter Try.func33, Try.ntmps33
  go_wp2
  go_loopw [8] (fun i wr => ∃ k : Nat, k ≤ l.length ∧ i = .int .i64 k ∧ Hid (idxF p 0 l = idxF p k (l.drop k)) ∧ Kp w wr) (fun i _ => l.length - (intOf i).toNat)
  case atStart => exact ⟨0, Nat.zero_le _, rfl, rfl, Kp.refl _⟩
  case round =>
    obtain ⟨k, hk, rfl, HB, hbel⟩ := hrel
    by_cases hlt : k < l.length
    · obtain ⟨b, o, rfl, hb, i0, i1, i2, i3⟩ := (hS.keep (pl_stable _) hbel).nd hlt
      have HD := hid (List.drop_eq_getElem_cons hlt)
      generalize l[k] = r at *
      obtain ⟨⟨x1, x2, x3⟩, x4⟩ := r
      clear hS
      try dsimp only at *
      by_cases hp : p ⟨⟨x1, x2, x3⟩, x4⟩ = true
      · have HF : Hid (idxF p 0 l = k) := hid (by rw [HB.out, HD.out, idxF, if_pos hp])
        have HP := hid hp
        clear hp
        go_wp2_with fail
        refine (HC.out wr x1 x2 x3 x4 hbel).mono ?_
        rintro e w1 ⟨rfl, hk1⟩
        have hbel1 := hbel.trans hk1
        rw [HP.out]
        go_wp2
        go_ret
        exact ⟨ret_int HF.out.symm, (by repeat (first | assumption | exact Kp.refl _ | apply Kp.alloc | apply Kp.drew | apply Kp.drewN))⟩
      · have HF : Hid (idxF p 0 l = idxF p (k + 1) (l.drop (k + 1))) := hid (by rw [HB.out, HD.out, idxF, if_neg hp])
        have HP := hid (show p ⟨⟨x1, x2, x3⟩, x4⟩ = false by simpa using hp)
        clear hp
        go_wp2_with fail
        refine (HC.out wr x1 x2 x3 x4 hbel).mono ?_
        rintro e w1 ⟨rfl, hk1⟩
        have hbel1 := hbel.trans hk1
        rw [HP.out]
        go_wp2
        go_roundw
        case rel => exact ⟨k + 1, by omega, by go_num, HF, (by repeat (first | assumption | exact Kp.refl _ | apply Kp.alloc | apply Kp.drew | apply Kp.drewN))⟩
        case measure => simp [intOf]; omega
    · have HF : Hid (idxF p 0 l = -1) := hid (by rw [HB.out, List.drop_of_length_le (by omega)]; rfl)
      go_wp2
      go_ret
      exact ⟨ret_int HF.out.symm, (by repeat (first | assumption | exact Kp.refl _ | apply Kp.alloc | apply Kp.drew | apply Kp.drewN))⟩
theorem take_set_snoc {α : Type} {m : List α} {i : Nat} {r : α} (h : i < m.length) : (m.set i r).take (i + 1) = m.take i ++ [r] := by
  rw [List.take_succ_eq_append_getElem (by rw [List.length_set]; exact h), List.getElem_set_self]
  congr 1
  refine List.ext_getElem (by simp) fun k h1 h2 => ?_
  rw [List.length_take] at h1
  rw [List.getElem_take, List.getElem_take, List.getElem_set_ne (by omega)]
theorem drop_next {α : Type} {l m : List α} {j : Nat} (h : l.drop j = m.drop j) : l.drop (j + 1) = m.drop (j + 1) := by
  rw [← List.drop_drop, ← List.drop_drop, h]
theorem drop_at {α : Type} {l m : List α} {j : Nat} (h : l.drop j = m.drop j) (h1 : j < l.length) (h2 : j < m.length) : l[j] = m[j] := by
  rw [List.drop_eq_getElem_cons h1, List.drop_eq_getElem_cons h2] at h
  injection h

theorem run_clear_n {P : Program} (w : World) (t e ty : TypeId) (z : Value) (ht : P.underlying t = some (.slice e)) (hv : ∀ w, (zeroValue e).run P w = .ok z w) (h1 : ∀ u ∈ z.cells.toList, u.oneCell' = true) (hs : 0 < z.cells.size) (b o n c : Nat) (hn : 0 < n)
    (hc : ∀ j, j < n * z.cells.size → (w.cell? ⟨b, o + j, none⟩).isSome = true) (hf : ∀ j, j < n * z.cells.size → w.frozen? ⟨b, o + j, none⟩ = false) :
    (Builtin.clear_ #[t] ty #[.slice (some ⟨b, o, none⟩) n c]).run P w = .ok (.tuple #[]) (w.setCells b o (Builtin.zeroCells z.cells n).toList) := by
  have hst := run_storeCells_cells (P := P) b o (Builtin.zeroCells z.cells n).toList 0 w (by simpa [Builtin.zeroCells] using hc) (by simpa [Builtin.zeroCells] using hf) (by
    intro v hv'
    unfold Builtin.zeroCells at hv'
    simp only [Array.toList_map, List.mem_map, Array.mem_toList_iff] at hv'
    obtain ⟨i, -, rfl⟩ := hv'
    have hm : i % z.cells.size < z.cells.size := Nat.mod_lt _ hs
    rw [getElem!_pos z.cells _ hm]
    exact h1 _ (by simp))
  simp only [Nat.add_zero] at hst
  obtain ⟨m, rfl⟩ : ∃ m, n = m + 1 := ⟨n - 1, by omega⟩
  simp [Builtin.clear_, run_underlying ht, hv, hst]
theorem zrN (w : World) : (zeroValue 41).run Try.prog w = .ok (.agg #[.int .i64 0, .int .i64 0, .int .i64 0, .int .i64 0]) w := by kernel_rfl
theorem slice_fromN {P : Program} {t e size bytes : Nat} (hT : SliceT P t e size bytes) (g n c i : Nat) (h1 : i < n) (h2 : n ≤ c) (w : World) : (Instr.slice t (.slice (some ⟨g, 0, none⟩) n c) (some (.int .i64 (i : Int))) none none).run P w = .ok (.slice (some ⟨g, i * size, none⟩) (n - i) (c - i)) w := by
  obtain ⟨ti, z, hi, hz, hs, hb, hzs⟩ := hT.info
  have hsz : Sem.run P (sizeOf e) w = .ok size w := by simp [sizeOf, typeInfo, hi, hs]
  have hk : (i : Int) ≤ (n : Int) := by omega
  have hc : ¬ c = i := by omega
  have hc2 : ¬ c - i = 0 := by omega
  have ha : (⟨g, 0, none⟩ : Addr).add (i * size) = ⟨g, i * size, none⟩ := by unfold Addr.add; split <;> simp_all
  have hni : ¬ n < i := by omega
  unfold Instr.slice Instr.sliceBounds Instr.sliceBound
  simp [run_underlying hT.ht, hsz, hk, asIntOf, hc, hc2, ha, hni]
/-- a slice lies in one block -/
theorem nds_owB {w : World} {A : Option Addr} {n c : Nat} {l : List Nd} (h : Nds w (.slice A n c) l) {T : Nat → Prop} (hT : ∀ q, (Value.slice A n c).ownBlock = some q → T q) (ho : ∀ p, A = some p → p.off = 0 ∧ p.spot = none) : Sx T w (.slice A n c) l := by
  intro w' h1 h2
  have h' := h
  obtain ⟨A', c', he, h3, h4, h5⟩ := h'
  injection he with e1 e2 e3
  subst e1 e2 e3
  refine ⟨_, _, rfl, h3, h4, fun k hk => ?_⟩
  obtain ⟨b, o, cs, hA, hb, hcs, hc, hr⟩ := h5 k hk
  subst hA
  obtain ⟨ho1, -⟩ := ho _ rfl
  simp only at ho1
  subst ho1
  refine ⟨b, 0, cs, rfl, Nat.lt_of_lt_of_le hb h1, hcs, fun j u hj => ?_, hr⟩
  have := h2 b (hT b (by simp [Value.ownBlock])) hb
  exact (World.cell?_of_block (a := ⟨b, 0 + k * 4 + j, none⟩) this).trans (hc j u hj)
theorem nds_setCells {w : World} {g n c i : Nat} {l : List Nd} (h : Nds w (.slice (some ⟨g, 0, none⟩) n c) l) (hi : l.length ≤ i) (vs : List Value) : Nds (w.setCells g (i * 4) vs) (.slice (some ⟨g, 0, none⟩) n c) l := by
  obtain ⟨A, c', he, h1, h2, h3⟩ := h
  injection he with e1 e2 e3
  subst e1 e2 e3
  refine ⟨_, _, rfl, h1, h2, fun k hk => ?_⟩
  obtain ⟨b, o, cs, hA, hb, hcs, hc, hr⟩ := h3 k hk
  injection hA with hA
  injection hA with a1 a2
  subst a1 a2
  refine ⟨g, 0, cs, rfl, by rw [setCells_size]; exact hb, hcs, fun j u hj => ?_, hr⟩
  have hj1 : j < 4 := by rw [← hcs]; exact (List.getElem?_eq_some_iff.1 hj).1
  rw [World.cell?_setCells_out]
  · exact hc j u hj
  · intro _ _
    exact .inl (by show 0 + k * 4 + j < i * 4; omega)
theorem own_len4 {base : Nat} {w : World} {A : Option Addr} {n c : Nat} {l : List Nd} (h : Own encNd 41 4 base w (.slice A n c) l) : l.length = n := by
  obtain ⟨A', c', e, -⟩ := h.form
  injection e with _ e _
  exact e.symm
theorem bGrants1_any (x1 x2 x3 x4 : Int) (w : World) : Calls Try.prog 47 #[.agg #[.int .i64 x1, .int .i64 x2, .int .i64 x3, .int .i64 x4]] w fun e w' => e = .returned (.bool (x4 == 0)) ∧ Kp w w' := by
  go_enter Try.func47, Try.ntmps47
  go_wp2
  go_ret
  exact ⟨rfl, (Kp.refl w).alloc _⟩
theorem own_put4 {base g c k : Nat} {w : World} {l : List Nd} {x1 x2 x3 x4 : Int} (h : Own encNd 41 4 base w (.slice (some ⟨g, 0, none⟩) l.length c) l) (hk : k < l.length) :
    Own encNd 41 4 base (w.setCells g (k * 4) [.int .i64 x1, .int .i64 x2, .int .i64 x3, .int .i64 x4]) (.slice (some ⟨g, 0, none⟩) l.length c) (l.set k ((x1, x2, x3), x4)) := by
  have h0 := Own.set (k := k) (j := 0) (u := .int .i64 x1) (x := ((x1, l[k].1.2.1, l[k].1.2.2), l[k].2)) encNd_len h hk (by omega) (fun _ => rfl)
  rw [show l.length = (l.set k ((x1, l[k].1.2.1, l[k].1.2.2), l[k].2)).length by simp] at h0
  have h1 := Own.set (k := k) (j := 1) (u := .int .i64 x2) (x := ((x1, x2, l[k].1.2.2), l[k].2)) encNd_len h0 (by simpa using hk) (by omega) (fun _ => by simp [encNd])
  rw [List.set_set, show (l.set k ((x1, l[k].1.2.1, l[k].1.2.2), l[k].2)).length = (l.set k ((x1, x2, l[k].1.2.2), l[k].2)).length by simp] at h1
  have h2 := Own.set (k := k) (j := 2) (u := .int .i64 x3) (x := ((x1, x2, x3), l[k].2)) encNd_len h1 (by simpa using hk) (by omega) (fun _ => by simp [encNd])
  rw [List.set_set, show (l.set k ((x1, x2, l[k].1.2.2), l[k].2)).length = (l.set k ((x1, x2, x3), l[k].2)).length by simp] at h2
  have h3 := Own.set (k := k) (j := 3) (u := .int .i64 x4) (x := ((x1, x2, x3), x4)) encNd_len h2 (by simpa using hk) (by omega) (fun _ => by simp [encNd])
  rw [List.set_set, show (l.set k ((x1, x2, x3), l[k].2)).length = l.length by simp] at h3
  exact h3
theorem own_cells4 {base g n c j : Nat} {w : World} {l : List Nd} (h : Own encNd 41 4 base w (.slice (some ⟨g, 0, none⟩) n c) l) (hn : l.length = n) (hj : j < n * 4) : (w.cell? ⟨g, j, none⟩).isSome = true := by
  subst hn
  have hk : j / 4 < l.length := by omega
  have h1 := Own.cellAt encNd_len h rfl hk (j := j % 4) (by omega)
  rw [show j / 4 * 4 + j % 4 = j by omega] at h1
  rw [h1]
  have : j % 4 < (encNd l[j / 4]).length := by rw [encNd_len]; omega
  rw [List.getElem?_eq_getElem this]
  rfl
theorem Sl.take {α : Type} {R : Rd α} {size : Nat} {w : World} {A : Option Addr} {n c : Nat} {l : List α} (h : Sl R size w (.slice A n c) l) (m : Nat) (hm : m ≤ l.length) : Sl R size w (.slice A m c) (l.take m) := by
  obtain ⟨A', c', he, h1, h2, h3⟩ := h
  injection he with e1 e2 e3
  subst e1 e3
  refine ⟨A, c, by rw [List.length_take, Nat.min_eq_left hm], by rw [List.length_take]; omega, h2, fun k hk => ?_⟩
  have hk' : k < l.length := by rw [List.length_take] at hk; omega
  obtain ⟨b, o, cs, hA, had, hcs, hc, hr⟩ := h3 k hk'
  exact ⟨b, o, cs, hA, had, hcs, hc, by rw [List.getElem_take]; exact hr⟩
/-- what DeleteFunc leaves -/
def DeleteR (p : Nd → Bool) (v : Value) (css : List Nd) (w : World) (e : Ending) (w' : World) : Prop :=
  ∃ v', e = .returned v' ∧ (∃ A n c, v' = .slice A n c) ∧ (∀ T : Nat → Prop, (∀ q, v.ownBlock = some q → T q) → Sx T w' v' (css.filter fun r => !p r)) ∧ w.grownBy w' v.ownBlock
set_option maxRecDepth 8000 in
set_option maxHeartbeats 4000000 in
theorem DeleteNd_any (p : Nd → Bool) (F : FuncId) (A : Option Addr) (cp base : Nat) (css : List Nd) (w : World) (own : Own encNd 41 4 base w (.slice A css.length cp) css) (hr : Real Try.prog F)
    (hf : ∀ (w' : World) (x1 x2 x3 x4 : Int), Calls Try.prog F #[.agg #[.int .i64 x1, .int .i64 x2, .int .i64 x3, .int .i64 x4]] w' fun e w'' => e = .returned (.bool (p ((x1, x2, x3), x4))) ∧ Kp w' w'') :
    Calls Try.prog 36 #[.slice A css.length cp, .func (.func F) #[] #[]] w (DeleteR p (.slice A css.length cp) css w) := by
  have HC := hid hf
  clear hf
  have hcf := fun args w => hr.run args w
  obtain ⟨A', cp', he, hcc, hcm⟩ := own.form
  injection he with e1 e2 e3
  subst e1 e3
  have HIX := hid (IndexFuncNd_any p F [] _ css w (own.sl encNd_len) hr (fun w' x1 x2 x3 x4 hk => HC.out w' x1 x2 x3 x4))
  rcases idxF_spec p css 0 with ⟨h1, h2⟩ | ⟨k0, hk, h1, h2, h3⟩
  · have HF : Hid (css.filter (fun r => !p r) = css) := hid (List.filter_eq_self.2 fun x hx => by rw [h2 x hx]; rfl)
    have HS := hid own
    rw [h1] at HIX
    clear h1 h2 own
    go_enter Try.func36, Try.ntmps36
    go_wp2_with fail
    refine HIX.out.mono ?_
    rintro e w1 ⟨rfl, k1⟩
    go_wp2
    go_ret
    refine ⟨_, rfl, ⟨_, _, _, rfl⟩, fun T hT => ?_, ⟨k1.os, k1.tape, k1.output, k1.size, fun _ hi _ => k1.block hi⟩⟩
    rw [HF.out]
    exact (OwS.imp (HS.out.kp k1).owS fun _ h => h.sl encNd_len).mono hT
  · obtain ⟨g, rfl, hgb, hgw⟩ := own.at_ (by omega)
    rw [h1] at HIX
    rw [Nat.zero_add] at HIX
    have HT0 : Hid (css.take k0 = (css.take (k0 + 1)).filter fun r => !p r) := hid (by
      rw [List.take_succ_eq_append_getElem hk, List.filter_append, List.filter_eq_self.2 (fun x hx => by rw [h3 x hx]; rfl)]
      simp [h2])
    have hkl : (k0 : Int) < (css.length : Int) := by omega
    have HOWN := hid own
    have hne : ¬ (k0 : Int) = -1 := by omega
    have hcl : (css.length : Int) ≤ 9223372036854775807 := by omega
    clear own h1 h2 h3
    go_enter Try.func36, Try.ntmps36
    go_wp2_with fail
    refine HIX.out.mono ?_
    rintro e w1 ⟨rfl, k1⟩
    have own1 := HOWN.out.kp k1
    clear HIX
    go_wp2_with fail
    go_loopw [5, 6] (fun iv jv wr => ∃ (i j : Nat) (m : List Nd), i < j ∧ j ≤ css.length ∧ iv = .int .i64 (i : Int) ∧ jv = .int .i64 (j : Int) ∧ Hid (m.take i = (css.take j).filter fun r => !p r) ∧ Hid (m.drop j = css.drop j) ∧ Own encNd 41 4 base wr (.slice (some ⟨g, 0, none⟩) css.length cp) m ∧ Kg w wr g) (fun _ jv _ => css.length - (intOf jv).toNat)
    case atStart => exact ⟨k0, k0 + 1, css, by omega, by omega, rfl, by go_num, HT0, hid rfl, own1, k1.kg g⟩
    case round =>
      clear own1
      obtain ⟨i, j, m, hij, hj, rfl, rfl, HT, HD, own, kr⟩ := hrel
      have hml : m.length = css.length := own_len4 own
      by_cases hjl : j < css.length
      · have hji : (j : Int) < (css.length : Int) := by omega
        have hii : (i : Int) < (css.length : Int) := by omega
        obtain ⟨b, o, hA, hb, i0, i1, i2, i3⟩ := (own.sl encNd_len).nd (k := j) (by omega)
        injection hA with hA
        injection hA with a1 a2
        subst a1 a2
        simp only [Nat.zero_add] at i0 i1 i2 i3
        have hme := drop_at HD.out (by omega) hjl
        rw [hme] at i0 i1 i2 i3
        have HTK := hid (List.take_succ_eq_append_getElem hjl)
        have HDN := hid (drop_next HD.out)
        have HML := hid hml
        clear hme hml
        generalize css[j] = r at *
        obtain ⟨⟨x1, x2, x3⟩, x4⟩ := r
        dsimp only at i0 i1 i2 i3
        have HCR := hid (fun W => HC.out W x1 x2 x3 x4)
        have hB := Bx.new wr #[.int .i64 x1, .int .i64 x2, .int .i64 x3, .int .i64 x4] 41
        have kb := (Kp.refl wr).alloc (.cells #[.int .i64 x1, .int .i64 x2, .int .i64 x3, .int .i64 x4] 41)
        have ownb := own.alloc (.cells #[.int .i64 x1, .int .i64 x2, .int .i64 x3, .int .i64 x4] 41)
        have hgr := (Kg.size kr)
        go_upto_region 8 with (fail)
        generalize wr.alloc (.cells #[.int .i64 x1, .int .i64 x2, .int .i64 x3, .int .i64 x4] 41) = wb at *
        have hbl := hB.lt (by simp)
        generalize wr.heap.size = bb at *
        have d0 := hB.cell (j := 0) rfl
        have d1 := hB.cell (j := 1) rfl
        have d2 := hB.cell (j := 2) rfl
        have d3 := hB.cell (j := 3) rfl
        cases hp : p ((x1, x2, x3), x4) with
        | true =>
          have HT2 : Hid (m.take i = (css.take (j + 1)).filter fun r => !p r) := hid (by rw [HT.out, HTK.out, List.filter_append]; simp [hp])
          replace hp := hid hp
          go_wp2_with fail
          refine (HCR.out _).mono ?_
          rintro e w2 ⟨rfl, k2⟩
          rw [hp.out]
          have own2 := ownb.kp k2
          have kr2 := (kr.kp kb).kp k2
          go_wp2_with fail
          go_roundw
          case rel =>
            repeat apply Exists.intro
            refine ⟨?_, rfl⟩
            exact ⟨i, j + 1, m, by omega, by omega, rfl, by go_num, HT2, HDN, own2, kr2⟩
          case measure => simp [intOf]; omega
        | false =>
          have HT2 : Hid ((m.set i ((x1, x2, x3), x4)).take (i + 1) = (css.take (j + 1)).filter fun r => !p r) := hid (by rw [take_set_snoc (by rw [HML.out]; omega), HT.out, HTK.out, List.filter_append]; simp [hp])
          have HD2 : Hid ((m.set i ((x1, x2, x3), x4)).drop (j + 1) = css.drop (j + 1)) := hid (by rw [List.drop_set_of_lt (by omega)]; exact HDN.out)
          replace hp := hid hp
          go_wp2_with fail
          refine (HCR.out _).mono ?_
          rintro e w2 ⟨rfl, k2⟩
          rw [hp.out]
          have own2 := ownb.kp k2
          have kr2 := (kr.kp kb).kp k2
          replace hB := hB.keep (k2.block hbl)
          clear d0 d1 d2 d3 own ownb kr kb
          have d0 := hB.cell (j := 0) rfl
          have d1 := hB.cell (j := 1) rfl
          have d2 := hB.cell (j := 2) rfl
          have d3 := hB.cell (j := 3) rfl
          obtain ⟨b', o', hA', hb', c0, c1, c2, c3⟩ := (own2.sl encNd_len).nd (k := i) (by rw [HML.out]; omega)
          injection hA' with hA'
          injection hA' with a1 a2
          subst a1 a2
          simp only [Nat.zero_add] at c0 c1 c2 c3
          have fz := fun q => own2.frozen HML.out.symm q
          have hth : w2.there g (i * 4) 4 := fun q hq => ⟨by
            match q, hq with
            | 0, _ => rw [Nat.add_zero, c0]; rfl
            | 1, _ => rw [c1]; rfl
            | 2, _ => rw [c2]; rfl
            | 3, _ => rw [c3]; rfl, fz _⟩
          have own3 : Own encNd 41 4 base (w2.setCells g (i * 4) [.int .i64 x1, .int .i64 x2, .int .i64 x3, .int .i64 x4]) (.slice (some ⟨g, 0, none⟩) css.length cp) (m.set i ((x1, x2, x3), x4)) := by
            have h0 := own2
            rw [← HML.out] at h0 ⊢
            exact own_put4 h0 (by rw [HML.out]; omega)
          have kr3 := Kg.setCells (g := g) (.inl rfl) [.int .i64 x1, .int .i64 x2, .int .i64 x3, .int .i64 x4] (i * 4) kr2
          clear own2 c0 c1 c2 c3 fz
          go_wp2_with (refine wpList_store_mid rfl 41 (.tmp 33) (.tmp 32) rfl g (i * 4) #[.int .i64 x1, .int .i64 x2, .int .i64 x3, .int .i64 x4] rfl rfl hth (by kernel_rfl) (all_oneCell_toArray (by simp [Value.oneCell'])) ?_)
          go_roundw
          case rel =>
            repeat apply Exists.intro
            refine ⟨?_, rfl⟩
            exact ⟨i + 1, j + 1, m.set i ((x1, x2, x3), x4), by omega, by omega, by go_num, by go_num, HT2, HD2, own3, kr3⟩
          case measure => simp [intOf]; omega
      · obtain rfl : j = css.length := by omega
        have hji : ¬ (css.length : Int) < (css.length : Int) := by omega
        have HTT : Hid (m.take i = css.filter fun r => !p r) := hid (by rw [HT.out, List.take_length])
        have hsl := (own.sl encNd_len).take i (by omega)
        have hs1 := fun wx => slice_fromN (P := Try.prog) slnd g css.length cp i hij hcc wx
        have hclr := fun ty => run_clear_n (P := Try.prog) wr 27 41 ty (.agg #[.int .i64 0, .int .i64 0, .int .i64 0, .int .i64 0]) Try.underlying27 zrN (by simp [Value.cells, Value.oneCell']) (by decide) g (i * 4) (css.length - i) (cp - i) (by omega)
          (fun k hk => own_cells4 own hml (by have h4 : k < (css.length - i) * 4 := hk; omega)) (fun k _ => own.frozen hml.symm (i * 4 + k))
        have hii : (i : Int) ≤ (cp : Int) := by omega
        have HML := hid hml
        have HLEN : Hid ((m.take i).length = i) := hid (by rw [List.length_take]; omega)
        have HSL := hid hsl
        clear hml own hsl
        go_wp2_with fail
        go_ret
        have hfin : Nds (wr.setCells g (i * 4) (Builtin.zeroCells (Value.agg #[.int .i64 0, .int .i64 0, .int .i64 0, .int .i64 0]).cells (css.length - i)).toList) (.slice (some ⟨g, 0, none⟩) i cp) (css.filter fun r => !p r) := by
          rw [← HTT.out]
          exact nds_setCells HSL.out (by rw [HLEN.out]; exact Nat.le_refl _) _
        refine ⟨_, rfl, ⟨_, _, _, rfl⟩, fun T hT => nds_owB hfin (fun q hq => hT q hq) (fun p hp => by injection hp with hp; subst hp; exact ⟨rfl, rfl⟩), Kg.setCells (.inl rfl) _ _ kr⟩
end Go.Proofs.Ytbcekihjcgnhkaa
