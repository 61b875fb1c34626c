
/-
slices.IndexFunc and DeleteFunc at a row of rows of the call's own: the walks.
-/
import Derived.Test.YtlkabhjkncklnaaDgMn
import Derived.Test.YtlkabhjkncklnaaDgWk
import Derived.Lib.SliceRun
namespace Go.Proofs.Ytlkabhjkncklnaa
set_option linter.unusedSimpArgs false
set_option linter.unusedVariables false
open Go.RowKit

/-- an element's only cell -/
def e0 (r : Elm 1) : Value := r.val.getD 0 (.slice none 0 0)
theorem e0_eq (r : Elm 1) : r.val = [e0 r] := by
  obtain ⟨cs, h1, h2⟩ := r
  match cs, h1 with
  | [x], _ => rfl
theorem e0_one (r : Elm 1) : (e0 r).oneCell' = true := r.property.2 _ (by rw [e0_eq r]; simp)
theorem Sl.elms {w : World} {A : Option Addr} {n c : Nat} {l : List (Elm 1)} (h : Sl (Pl encC) 1 w (.slice A n c) l) {k : Nat} (hk : k < l.length) :
    ∃ b o, A = some ⟨b, o, none⟩ ∧ b < w.heap.size ∧ w.cell? ⟨b, o + k, none⟩ = some (e0 l[k]) := by
  obtain ⟨b, o, cs, hA, had, hcs, hc, hr⟩ := h.at_ hk
  unfold Pl encC at hr
  subst hr
  exact ⟨b, o, hA, had, by simpa using hc 0 _ (by rw [e0_eq]; rfl)⟩
/-- the first one that p takes, and how many stand before it; -1 if there is none -/
def idxG (p : Elm 1 → Bool) : Nat → List (Elm 1) → Int
  | _, [] => -1
  | k, x :: l => if p x then (k : Int) else idxG p (k + 1) l
theorem idxG_spec (p : Elm 1 → Bool) : ∀ (l : List (Elm 1)) (k : Nat), (idxG p k l = -1 ∧ ∀ x ∈ l, p x = false) ∨ ∃ j, ∃ h : j < l.length, idxG p k l = ((k + j : Nat) : Int) ∧ p l[j] = true ∧ ∀ x ∈ l.take j, p x = false
  | [], k => .inl ⟨rfl, fun x hx => by cases hx⟩
  | x :: l, k => by
    unfold idxG
    by_cases hx : p x = true
    · rw [if_pos hx]
      exact .inr ⟨0, by simp, rfl, hx, fun y hy => by cases hy⟩
    · rw [if_neg hx]
      have hx : p x = false := by simpa using hx
      rcases idxG_spec p l (k + 1) with ⟨h1, h2⟩ | ⟨j, h, h1, h2, h3⟩
      · refine .inl ⟨h1, fun y hy => ?_⟩
        rcases List.mem_cons.1 hy with rfl | hy
        · exact hx
        · exact h2 y hy
      · refine .inr ⟨j + 1, by simpa using h, by rw [h1]; congr 1; omega, by simpa using h2, fun y hy => ?_⟩
        rw [List.take_succ_cons] at hy
        rcases List.mem_cons.1 hy with rfl | hy
        · exact hx
        · exact h3 y hy
set_option maxHeartbeats 1000000 in
theorem IndexFuncLL_any (p : Elm 1 → Bool) (F : FuncId) (cap : List Value) (v : Value) (l : List (Elm 1)) (w : World) (hS : Sl (Pl encC) 1 w v l) (hr : Real Try.prog F)
    (hf : ∀ (w' : World) (r : Elm 1), Kp w w' → r ∈ l → Calls Try.prog F (e0 r :: cap).toArray w' fun e w'' => e = .returned (.bool (p r)) ∧ Kp w' w'') :
    Calls Try.prog 55 #[v, .func (.func F) #[] cap.toArray] w fun e w' => e = .returned (.int .i64 (idxG p 0 l)) ∧ Kp w w' := by
  have HC := hid hf
  clear hf
  have hcf := fun args w => hr.run args w
  obtain ⟨A, c, rfl, hc, hm⟩ := hS.form
  have HS := hid hS
  clear hS
  generalize hR : idxG p 0 l = R
  have HR := hid hR
  clear hR
  go_enter Try.func55, Try.ntmps55
  go_wp2
  go_loopw [8] (fun i wr => ∃ k : Nat, k ≤ l.length ∧ i = .int .i64 (k : Int) ∧ Hid (R = idxG p k (l.drop k)) ∧ Kp w wr) (fun i _ => l.length - (intOf i).toNat)
  case atStart => exact ⟨0, Nat.zero_le _, rfl, hid HR.out.symm, Kp.refl _⟩
  case round =>
    obtain ⟨k, hk, rfl, HB, kr⟩ := hrel
    by_cases hlt : k < l.length
    · obtain ⟨b, o, rfl, hb, h1⟩ := (HS.out.keep (pl_stable _) kr).elms hlt
      have HMEM := hid (List.getElem_mem (l := l) hlt)
      have HD := hid (List.drop_eq_getElem_cons hlt)
      have hkl : (k : Int) < (l.length : Int) := by omega
      generalize l[k] = r at *
      cases hp : p r with
      | true =>
        have HF : Hid (R = (k : Int)) := hid (by rw [HB.out, HD.out, idxG, if_pos hp])
        replace hp := hid hp
        go_wp2_with fail
        refine (HC.out wr r kr HMEM.out).mono ?_
        rintro e w1 ⟨rfl, hk1⟩
        rw [hp.out]
        go_wp2
        go_ret
        exact ⟨by rw [HF.out]; rfl, kr.trans hk1⟩
      | false =>
        have HF : Hid (R = idxG p (k + 1) (l.drop (k + 1))) := hid (by rw [HB.out, HD.out, idxG, if_neg (by rw [hp]; simp)])
        replace hp := hid hp
        go_wp2_with fail
        refine (HC.out wr r kr HMEM.out).mono ?_
        rintro e w1 ⟨rfl, hk1⟩
        rw [hp.out]
        go_wp2_with fail
        go_roundw
        case rel => exact ⟨k + 1, by omega, by go_num, HF, kr.trans hk1⟩
        case measure => simp [intOf]; omega
    · have HF : Hid (R = -1) := hid (by rw [HB.out, List.drop_of_length_le (by omega)]; rfl)
      obtain rfl : k = l.length := by omega
      have hkl : ¬ (l.length : Int) < (l.length : Int) := by omega
      go_wp2
      go_ret
      exact ⟨by rw [HF.out]; rfl, kr⟩
theorem kp_setCells {a : World} {g : Nat} (hg : a.heap.size ≤ g) : ∀ (vs : List Value) (o : Nat) (w : World), Kp a w → Kp a (w.setCells g o vs)
  | [], _, _, h => h
  | v :: r, o, w, h => kp_setCells hg r (o + 1) _ (h.set (p := ⟨g, o, none⟩) hg v)
theorem sl_setCells {w : World} {g n c i : Nat} {l : List (Elm 1)} (h : Sl (Pl encC) 1 w (.slice (some ⟨g, 0, none⟩) n c) l) (hi : l.length ≤ i) (vs : List Value) : Sl (Pl encC) 1 (w.setCells g i vs) (.slice (some ⟨g, 0, none⟩) n c) l := by
  obtain ⟨A, c', he, h1, h2, h3⟩ := h
  injection he with e1 e2 e3
  subst e1 e2 e3
  refine ⟨_, _, rfl, h1, h2, fun k hk => ?_⟩
  obtain ⟨b, o, cs, hA, hb, hcs, hc, hr⟩ := h3 k hk
  injection hA with hA
  injection hA with a1 a2
  subst a1 a2
  refine ⟨g, 0, cs, rfl, by rw [setCells_size]; exact hb, hcs, fun j u hj => ?_, hr⟩
  have hj1 : j < 1 := by rw [← hcs]; exact (List.getElem?_eq_some_iff.1 hj).1
  rw [World.cell?_setCells_out]
  · exact hc j u hj
  · intro _ _
    exact .inl (by show 0 + k * 1 + j < i; omega)
theorem slice_from {P : Program} {t e bytes : Nat} (hT : SliceT P t e 1 bytes) (g n c i : Nat) (h1 : i < n) (h2 : n ≤ c) (w : World) : (Instr.slice t (.slice (some ⟨g, 0, none⟩) n c) (some (.int .i64 (i : Int))) none none).run P w = .ok (.slice (some ⟨g, i, none⟩) (n - i) (c - i)) w := by
  obtain ⟨ti, z, hi, hz, hs, hb, hzs⟩ := hT.info
  have hsz : Sem.run P (sizeOf e) w = .ok 1 w := by simp [sizeOf, typeInfo, hi, hs]
  have hk : (i : Int) ≤ (n : Int) := by omega
  have hc : ¬ c = i := by omega
  have hc2 : ¬ c - i = 0 := by omega
  have ha : (⟨g, 0, none⟩ : Addr).add i = ⟨g, i, none⟩ := by unfold Addr.add; split <;> simp_all
  have hni : ¬ n < i := by omega
  unfold Instr.slice Instr.sliceBounds Instr.sliceBound
  simp [run_underlying hT.ht, hsz, hk, asIntOf, hc, hc2, ha, hni]
theorem take_set_snoc {α : Type} {m : List α} {i : Nat} {r : α} (h : i < m.length) : (m.set i r).take (i + 1) = m.take i ++ [r] := by
  rw [List.take_succ_eq_append_getElem (by rw [List.length_set]; exact h), List.getElem_set_self]
  congr 1
  refine List.ext_getElem (by simp) fun k h1 h2 => ?_
  rw [List.length_take] at h1
  rw [List.getElem_take, List.getElem_take, List.getElem_set_ne (by omega)]
theorem drop_next {α : Type} {l m : List α} {j : Nat} (h : l.drop j = m.drop j) : l.drop (j + 1) = m.drop (j + 1) := by
  rw [← List.drop_drop, ← List.drop_drop, h]
theorem drop_at {α : Type} {l m : List α} {j : Nat} (h : l.drop j = m.drop j) (h1 : j < l.length) (h2 : j < m.length) : l[j] = m[j] := by
  rw [List.drop_eq_getElem_cons h1, List.drop_eq_getElem_cons h2] at h
  injection h
theorem zrI (w : World) : (zeroValue 28).run Try.prog w = .ok (.slice none 0 0) w := by rfl
set_option maxRecDepth 8000 in
set_option maxHeartbeats 4000000 in
theorem DeleteLL_any (p : Elm 1 → Bool) (F : FuncId) (cap : List Value) (A : Option Addr) (cp : Nat) (css : List (Elm 1)) (w0 w : World) (hk0 : Kp w0 w) (own : Own encC 28 1 w0.heap.size w (.slice A css.length cp) css) (hr : Real Try.prog F)
    (hsc : ∀ r ∈ css, ∃ A n c, e0 r = .slice A n c)
    (hf : ∀ (w' : World) (r : Elm 1), r ∈ css → Kp w0 w' → Calls Try.prog F (e0 r :: cap).toArray w' fun e w'' => e = .returned (.bool (p r)) ∧ Kp w' w'') :
    Calls Try.prog 39 #[.slice A css.length cp, .func (.func F) #[] cap.toArray] w fun e w' => ∃ v', e = .returned v' ∧ Sl (Pl encC) 1 w' v' (css.filter fun r => !p r) ∧ Kp w0 w' := by
  have HC := hid hf
  have HSC := hid hsc
  clear hf hsc
  have hcf := fun args w => hr.run args w
  obtain ⟨A', cp', he, hcc, hcm⟩ := own.form
  injection he with e1 e2 e3
  subst e1 e3
  have HIX := hid (IndexFuncLL_any p F cap _ css w (own.sl encC_len) hr (fun w' r hk hm => HC.out w' r hm (hk0.trans hk)))
  rcases idxG_spec p css 0 with ⟨h1, h2⟩ | ⟨k0, hk, h1, h2, h3⟩
  · have HF : Hid (css.filter (fun r => !p r) = css) := hid (List.filter_eq_self.2 fun x hx => by rw [h2 x hx]; rfl)
    have HS := hid (own.sl encC_len)
    rw [h1] at HIX
    clear h1 h2 own
    go_enter Try.func39, Try.ntmps39
    go_wp2_with fail
    refine HIX.out.mono ?_
    rintro e w1 ⟨rfl, k1⟩
    go_wp2
    go_ret
    exact ⟨_, rfl, by rw [HF.out]; exact HS.out.keep (pl_stable _) k1, hk0.trans k1⟩
  · obtain ⟨g, rfl, hgb, hgw⟩ := own.at_ (by omega)
    rw [h1] at HIX
    rw [Nat.zero_add] at HIX
    have hlen := own.sl encC_len
    have HT0 : Hid (css.take k0 = (css.take (k0 + 1)).filter fun r => !p r) := hid (by
      rw [List.take_succ_eq_append_getElem hk, List.filter_append, List.filter_eq_self.2 (fun x hx => by rw [h3 x hx]; rfl)]
      simp [h2])
    have hkl : (k0 : Int) < (css.length : Int) := by omega
    have HOWN := hid own
    have hne : ¬ (k0 : Int) = -1 := by omega
    have hcl : (css.length : Int) ≤ 9223372036854775807 := by omega
    clear own h1 h2 h3 hlen
    go_enter Try.func39, Try.ntmps39
    go_wp2_with fail
    refine HIX.out.mono ?_
    rintro e w1 ⟨rfl, k1⟩
    have own1 := HOWN.out.kp k1
    have k01 := hk0.trans k1
    clear HIX
    go_wp2_with fail
    go_loopw [5, 6] (fun iv jv wr => ∃ (i j : Nat) (m : List (Elm 1)), i < j ∧ j ≤ css.length ∧ iv = .int .i64 (i : Int) ∧ jv = .int .i64 (j : Int) ∧ Hid (m.take i = (css.take j).filter fun r => !p r) ∧ Hid (m.drop j = css.drop j) ∧ Own encC 28 1 w0.heap.size wr (.slice (some ⟨g, 0, none⟩) css.length cp) m ∧ Kp w0 wr) (fun _ jv _ => css.length - (intOf jv).toNat)
    case atStart => exact ⟨k0, k0 + 1, css, by omega, by omega, rfl, by go_num, HT0, hid rfl, own1, k01⟩
    case round =>
      clear own1 k01
      obtain ⟨i, j, m, hij, hj, rfl, rfl, HT, HD, own, kr⟩ := hrel
      have hml : m.length = css.length := own_len own
      by_cases hjl : j < css.length
      · have hji : (j : Int) < (css.length : Int) := by omega
        have hii : (i : Int) < (css.length : Int) := by omega
        obtain ⟨b, o, hA, hb, h1⟩ := (own.sl encC_len).elms (k := j) (by omega)
        injection hA with hA
        injection hA with a1 a2
        subst a1 a2
        rw [Nat.zero_add] at h1
        have hme := drop_at HD.out (by omega) hjl
        rw [hme] at h1
        have HMEM := hid (List.getElem_mem (l := css) hjl)
        have HTK := hid (List.take_succ_eq_append_getElem hjl)
        have HDN := hid (drop_next HD.out)
        have HML := hid hml
        clear hme hml
        generalize css[j] = r at *
        have HCR := hid (HC.out wr r HMEM.out kr)
        obtain ⟨Ar, nr, cr, her⟩ := HSC.out r HMEM.out
        have HER := hid her
        rw [her] at h1 HCR
        clear her
        cases hp : p r with
        | true =>
          have HT2 : Hid (m.take i = (css.take (j + 1)).filter fun r => !p r) := hid (by rw [HT.out, HTK.out, List.filter_append]; simp [hp])
          replace hp := hid hp
          go_wp2_with fail
          refine HCR.out.mono ?_
          rintro e w2 ⟨rfl, k2⟩
          rw [hp.out]
          have own2 := own.kp k2
          go_wp2_with fail
          go_roundw
          case rel =>
            refine ⟨_, _, _, _, _, _, _, _, _, _, _, _, _, _, _, _, _, _, _, _, _, _, _, ?_, rfl⟩
            exact ⟨i, j + 1, m, by omega, by omega, rfl, by go_num, HT2, HDN, own2, kr.trans k2⟩
          case measure => simp [intOf]; omega
        | false =>
          have HT2 : Hid ((m.set i r).take (i + 1) = (css.take (j + 1)).filter fun r => !p r) := hid (by rw [take_set_snoc (by rw [HML.out]; omega), HT.out, HTK.out, List.filter_append]; simp [hp])
          have HD2 : Hid ((m.set i r).drop (j + 1) = css.drop (j + 1)) := hid (by rw [List.drop_set_of_lt (by omega)]; exact HDN.out)
          replace hp := hid hp
          go_wp2_with fail
          refine HCR.out.mono ?_
          rintro e w2 ⟨rfl, k2⟩
          rw [hp.out]
          have own2 := own.kp k2
          have d0 := (own2.sl encC_len).elms (k := i) (by rw [HML.out]; omega)
          obtain ⟨b', o', hA', hb', d0⟩ := d0
          injection hA' with hA'
          injection hA' with a1 a2
          subst a1 a2
          rw [Nat.zero_add] at d0
          have fz := own2.frozen HML.out.symm i
          have own3 : Own encC 28 1 w0.heap.size (w2.setCell ⟨g, i, none⟩ (.slice Ar nr cr)) (.slice (some ⟨g, 0, none⟩) css.length cp) (m.set i r) := by
            have := own2
            rw [← HML.out] at this ⊢
            have h4 := Own.set (k := i) (j := 0) (u := e0 r) (x := r) encC_len this (by rw [HML.out]; omega) (by omega) (fun _ => by unfold encC; rw [e0_eq, e0_eq r]; rfl)
            rw [HER.out] at h4
            simpa using h4
          have kr3 := (kr.trans k2).set (p := ⟨g, i, none⟩) hgb (.slice Ar nr cr)
          clear own own2
          go_wp2_with fail
          go_roundw
          case rel =>
            refine ⟨_, _, _, _, _, _, _, _, _, _, _, _, _, _, _, _, _, _, _, _, _, _, _, ?_, rfl⟩
            exact ⟨i + 1, j + 1, m.set i r, by omega, by omega, by go_num, by go_num, HT2, HD2, own3, kr3⟩
          case measure => simp [intOf]; omega
      · obtain rfl : j = css.length := by omega
        have hji : ¬ (css.length : Int) < (css.length : Int) := by omega
        have HTT : Hid (m.take i = css.filter fun r => !p r) := hid (by rw [HT.out, List.take_length])
        have hsl := (own.sl encC_len).take (k := i) (by omega)
        have hs1 := fun wx => slice_from (P := Try.prog) stIntsM g css.length cp i hij hcc wx
        have hclr := fun ty => Lib.run_clear_slice (P := Try.prog) wr 35 28 ty (.slice none 0 0) Try.underlying35 (zrI) rfl rfl g i (css.length - i) (cp - i) (by omega)
          (fun k hk => by
            obtain ⟨b, o, hA, -, h1⟩ := (own.sl encC_len).elms (k := i + k) (by omega)
            injection hA with hA
            injection hA with a1 a2
            subst a1 a2
            rw [Nat.zero_add] at h1
            rw [h1]
            rfl) (fun k _ => own.frozen hml.symm (i + k))
        have hii : (i : Int) ≤ (cp : Int) := by omega
        have HML := hid hml
        have HLEN : Hid ((m.take i).length = i) := hid (by rw [List.length_take]; omega)
        have HSL := hid hsl
        clear hml own hsl
        go_wp2_with fail
        go_ret
        exact ⟨_, rfl, by rw [← HTT.out]; exact sl_setCells HSL.out (by rw [HLEN.out]; exact Nat.le_refl _) _, kp_setCells hgb _ _ _ kr⟩
end Go.Proofs.Ytlkabhjkncklnaa
