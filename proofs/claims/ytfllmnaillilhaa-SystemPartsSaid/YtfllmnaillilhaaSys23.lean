
/-
Substitute: the walk.
-/
import Derived.Test.YtfllmnaillilhaaSys22
import Derived.Test.YtfllmnaillilhaaSys19
namespace Go.Proofs.Ytfllmnaillilhaa
set_option linter.unusedSimpArgs false
set_option linter.unusedVariables false
open Go.RowKit

theorem mapd_step' {α : Type} (f : α → α) (l : List α) (m : Nat) (h : m < l.length) : (l.take (m + 1)).map f ++ l.drop (m + 1) = ((l.take m).map f ++ l.drop m).set m (f l[m]) := by
  rw [List.take_succ_eq_append_getElem h, List.drop_eq_getElem_cons h, List.map_append, List.set_append]
  have e : ((l.take m).map f).length = m := by simp; omega
  rw [if_neg (by omega), e, Nat.sub_self, List.set_cons_zero, List.append_assoc]
  rfl
def subRow (c x : Int) (r : Row) : Row := ⟨dropC c r.terms, subB c x r.bound r.terms⟩
def fineL (c x : Int) (l : List Row) : Bool := l.all fun r => inBd (subB c x r.bound r.terms)
def subS (s : Sys) (c x : Int) : Sys := ⟨s.box.set c.toNat ⟨x, x⟩, s.rows.map (subRow c x), s.graphs, s.cases.map fun l => l.map (subRow c x)⟩
/-- what Substitute returns -/
def SubR (s : Sys) (c x : Int) : Sys × Int :=
  if validS s then (if 0 ≤ c ∧ c < s.box.length ∧ (pick s.box c).lo ≤ x ∧ x ≤ (pick s.box c).hi then (if (s.rows :: s.cases).all (fineL c x) then (subS s c x, 0) else (zSys, 8)) else (zSys, 2)) else (zSys, 1)
set_option maxRecDepth 8000 in
set_option maxHeartbeats 16000000 in
theorem sSubstitute_any (va : Value) (s : Sys) (c x : Int) (w : World) (hs : SysV w va s) :
    Calls Try.prog 30 #[va, .int .i64 c, .int .i64 x] w fun e w' => ∃ v, e = .returned (.tuple #[v, .int .i64 (SubR s c x).2]) ∧ SysV w' v (SubR s c x).1 ∧ Kp w w' := by
  have hs' := hs
  obtain ⟨Ab, cb, Ar, cr, Ag, cg, Ac, cc, rfl, hb, hr, hg, hc⟩ := hs'
  obtain ⟨l1, m1⟩ := hb.caps
  obtain ⟨l2, m2⟩ := hr.caps
  obtain ⟨l3, m3⟩ := hg.caps
  obtain ⟨l4, m4⟩ := hc.caps
  have k0 := ((Kp.refl w).alloc (.cells #[.slice Ab s.box.length cb, .slice Ar s.rows.length cr, .slice Ag s.graphs.length cg, .slice Ac s.cases.length cc] 27)).alloc (.cells #[.slice none 0 0, .slice none 0 0, .slice none 0 0, .slice none 0 0] 27)
  have B0 := (SysB.new w #[.slice Ab s.box.length cb, .slice Ar s.rows.length cr, .slice Ag s.graphs.length cg, .slice Ac s.cases.length cc] 27).keep ((Kp.refl _).alloc (.cells #[.slice none 0 0, .slice none 0 0, .slice none 0 0, .slice none 0 0] 27))
  have hR := Bx.new (w.alloc (.cells #[.slice Ab s.box.length cb, .slice Ar s.rows.length cr, .slice Ag s.graphs.length cg, .slice Ac s.cases.length cc] 27)) #[.slice none 0 0, .slice none 0 0, .slice none 0 0, .slice none 0 0] 27
  rw [World.size_alloc] at hR
  have hzw : ((w.alloc (.cells #[.slice Ab s.box.length cb, .slice Ar s.rows.length cr, .slice Ag s.graphs.length cg, .slice Ac s.cases.length cc] 27)).alloc (.cells #[.slice none 0 0, .slice none 0 0, .slice none 0 0, .slice none 0 0] 27)).heap.size = w.heap.size + 2 := by simp
  go_enter Try.func30, Try.ntmps30
  go_wp2_with fail
  generalize (w.alloc (.cells #[.slice Ab s.box.length cb, .slice Ar s.rows.length cr, .slice Ag s.graphs.length cg, .slice Ac s.cases.length cc] 27)).alloc (.cells #[.slice none 0 0, .slice none 0 0, .slice none 0 0, .slice none 0 0] 27) = w0 at *
  generalize hbw : w.heap.size = b at *
  replace hbw := hid hbw
  replace hzw := hid hzw
  refine (sValid_any _ s _ (hs.keep k0)).mono ?_
  rintro e w1 ⟨rfl, k1⟩
  have hb1 : b + 1 < w1.heap.size := by have := k1.size; have := hzw.out; omega
  have hRx := hR.kp k1 (by have := hzw.out; omega)
  replace B0 := B0.keep k1
  have hz1 : b + 2 ≤ w1.heap.size := by have := k1.size; have := hzw.out; omega
  have kx := k0.trans k1
  clear k1
  obtain ⟨c0, c1, c2, c3⟩ := B0.cells
  have hgl := block_lt_of_cell c0
  cases hV : validS s with
  | false =>
    have HN : Hid (SubR s c x = (zSys, 1)) := hid (by unfold SubR; rw [hV]; rfl)
    clear hV
    have f0 := hRx.free (j := 0) (by simp)
    have f1 := hRx.free (j := 1) (by simp)
    have f2 := hRx.free (j := 2) (by simp)
    have f3 := hRx.free (j := 3) (by simp)
    have y0 := hRx.cell (j := 0) rfl
    have y1 := hRx.cell (j := 1) rfl
    have y2 := hRx.cell (j := 2) rfl
    have y3 := hRx.cell (j := 3) rfl
    have hBF := hRx.set4 (.slice none 0 0) (.slice none 0 0) (.slice none 0 0) (.slice none 0 0)
    have kF := Kg.to_kp kx (Kg.set4 w1 (b + 1) (.slice none 0 0) (.slice none 0 0) (.slice none 0 0) (.slice none 0 0)) (by have := hbw.out; omega)
    clear hRx hR
    go_wp2
    refine bodyPost_ret (results_cell_bx2 rfl _ _ (b + 1) [.slice none 0 0, .slice none 0 0, .slice none 0 0, .slice none 0 0] _ rfl hBF.range Try.underlying27 rfl (by kernel_rfl)) rfl ?_
    exact ⟨_, by rw [HN.out]; rfl, by rw [HN.out]; exact zSys_v _, kF⟩
  | true =>
    have HS2 : Hid (¬ (0 ≤ c ∧ c < s.box.length ∧ (pick s.box c).lo ≤ x ∧ x ≤ (pick s.box c).hi) → SubR s c x = (zSys, 2)) := hid (fun h => by unfold SubR; rw [hV, if_pos rfl, if_neg h])
    by_cases g1 : c < 0
    · have HN : Hid (SubR s c x = (zSys, 2)) := hid (HS2.out (fun h => by omega))
      have e1 : decide (c < 0) = true := decide_eq_true g1
      clear hV
      have f0 := hRx.free (j := 0) (by simp)
      have f1 := hRx.free (j := 1) (by simp)
      have f2 := hRx.free (j := 2) (by simp)
      have f3 := hRx.free (j := 3) (by simp)
      have y0 := hRx.cell (j := 0) rfl
      have y1 := hRx.cell (j := 1) rfl
      have y2 := hRx.cell (j := 2) rfl
      have y3 := hRx.cell (j := 3) rfl
      have hBF := hRx.set4 (.slice none 0 0) (.slice none 0 0) (.slice none 0 0) (.slice none 0 0)
      have kF := Kg.to_kp kx (Kg.set4 w1 (b + 1) (.slice none 0 0) (.slice none 0 0) (.slice none 0 0) (.slice none 0 0)) (by have := hbw.out; omega)
      clear hRx hR
      go_wp2
      refine bodyPost_ret (results_cell_bx2 rfl _ _ (b + 1) [.slice none 0 0, .slice none 0 0, .slice none 0 0, .slice none 0 0] _ rfl hBF.range Try.underlying27 rfl (by kernel_rfl)) rfl ?_
      exact ⟨_, by rw [HN.out]; rfl, by rw [HN.out]; exact zSys_v _, kF⟩
    have e1 : decide (c < 0) = false := decide_eq_false g1
    by_cases g2 : (s.box.length : Int) ≤ c
    · have HN : Hid (SubR s c x = (zSys, 2)) := hid (HS2.out (fun h => by omega))
      have e2 : decide ((s.box.length : Int) ≤ c) = true := decide_eq_true g2
      clear hV
      have f0 := hRx.free (j := 0) (by simp)
      have f1 := hRx.free (j := 1) (by simp)
      have f2 := hRx.free (j := 2) (by simp)
      have f3 := hRx.free (j := 3) (by simp)
      have y0 := hRx.cell (j := 0) rfl
      have y1 := hRx.cell (j := 1) rfl
      have y2 := hRx.cell (j := 2) rfl
      have y3 := hRx.cell (j := 3) rfl
      have hBF := hRx.set4 (.slice none 0 0) (.slice none 0 0) (.slice none 0 0) (.slice none 0 0)
      have kF := Kg.to_kp kx (Kg.set4 w1 (b + 1) (.slice none 0 0) (.slice none 0 0) (.slice none 0 0) (.slice none 0 0)) (by have := hbw.out; omega)
      clear hRx hR
      go_wp2
      refine bodyPost_ret (results_cell_bx2 rfl _ _ (b + 1) [.slice none 0 0, .slice none 0 0, .slice none 0 0, .slice none 0 0] _ rfl hBF.range Try.underlying27 rfl (by kernel_rfl)) rfl ?_
      exact ⟨_, by rw [HN.out]; rfl, by rw [HN.out]; exact zSys_v _, kF⟩
    have e2 : decide ((s.box.length : Int) ≤ c) = false := decide_eq_false g2
    obtain ⟨i, rfl⟩ := Int.eq_ofNat_of_zero_le (show 0 ≤ c by omega)
    have hi : i < s.box.length := by omega
    have e2n : decide (s.box.length ≤ i) = false := decide_eq_false (by omega)
    obtain ⟨q, o, rfl, hq, h1', h2'⟩ := (hb.keep (pl_stable _) kx).rng hi
    rw [pick_at s.box i hi] at HS2
    have hnb := (validB_ok (validS_parts hV).2.2.1.2).1 s.box[i] (List.getElem_mem hi)
    have hpk : Hid (pick s.box (i : Int) = s.box[i]) := hid (pick_at s.box i hi)
    have hsetB : Hid (s.box.set i ⟨x, x⟩ = s.box.set i ⟨x, x⟩) := hid rfl
    have j1 : (0 : Int) ≤ i := by omega
    have j2 : (i : Int) < s.box.length := by omega
    clear g1 g2
    generalize s.box[i] = r at *
    obtain ⟨lo, hi'⟩ := r
    dsimp only at h1' h2' HS2 hnb
    by_cases g3 : x < lo
    · have HN : Hid (SubR s (i : Int) x = (zSys, 2)) := hid (HS2.out (fun h => by omega))
      have e3 : decide (x < lo) = true := decide_eq_true g3
      clear hV
      have f0 := hRx.free (j := 0) (by simp)
      have f1 := hRx.free (j := 1) (by simp)
      have f2 := hRx.free (j := 2) (by simp)
      have f3 := hRx.free (j := 3) (by simp)
      have y0 := hRx.cell (j := 0) rfl
      have y1 := hRx.cell (j := 1) rfl
      have y2 := hRx.cell (j := 2) rfl
      have y3 := hRx.cell (j := 3) rfl
      have hBF := hRx.set4 (.slice none 0 0) (.slice none 0 0) (.slice none 0 0) (.slice none 0 0)
      have kF := Kg.to_kp kx (Kg.set4 w1 (b + 1) (.slice none 0 0) (.slice none 0 0) (.slice none 0 0) (.slice none 0 0)) (by have := hbw.out; omega)
      clear hRx hR
      go_wp2
      refine bodyPost_ret (results_cell_bx2 rfl _ _ (b + 1) [.slice none 0 0, .slice none 0 0, .slice none 0 0, .slice none 0 0] _ rfl hBF.range Try.underlying27 rfl (by kernel_rfl)) rfl ?_
      exact ⟨_, by rw [HN.out]; rfl, by rw [HN.out]; exact zSys_v _, kF⟩
    have e3 : decide (x < lo) = false := decide_eq_false g3
    by_cases g4 : hi' < x
    · have HN : Hid (SubR s (i : Int) x = (zSys, 2)) := hid (HS2.out (fun h => by omega))
      have e4 : decide (hi' < x) = true := decide_eq_true g4
      clear hV
      have f0 := hRx.free (j := 0) (by simp)
      have f1 := hRx.free (j := 1) (by simp)
      have f2 := hRx.free (j := 2) (by simp)
      have f3 := hRx.free (j := 3) (by simp)
      have y0 := hRx.cell (j := 0) rfl
      have y1 := hRx.cell (j := 1) rfl
      have y2 := hRx.cell (j := 2) rfl
      have y3 := hRx.cell (j := 3) rfl
      have hBF := hRx.set4 (.slice none 0 0) (.slice none 0 0) (.slice none 0 0) (.slice none 0 0)
      have kF := Kg.to_kp kx (Kg.set4 w1 (b + 1) (.slice none 0 0) (.slice none 0 0) (.slice none 0 0) (.slice none 0 0)) (by have := hbw.out; omega)
      clear hRx hR
      go_wp2
      refine bodyPost_ret (results_cell_bx2 rfl _ _ (b + 1) [.slice none 0 0, .slice none 0 0, .slice none 0 0, .slice none 0 0] _ rfl hBF.range Try.underlying27 rfl (by kernel_rfl)) rfl ?_
      exact ⟨_, by rw [HN.out]; rfl, by rw [HN.out]; exact zSys_v _, kF⟩
    have e4 : decide (hi' < x) = false := decide_eq_false g4
    have hxb : -1000000 ≤ x ∧ x ≤ 1000000 := by
      unfold bad at hnb
      dsimp only at hnb
      omega
    have HS : Hid (SubR s (i : Int) x = if (s.rows :: s.cases).all (fineL i x) then (subS s i x, 0) else (zSys, 8)) := hid (by
      unfold SubR
      rw [hV, if_pos rfl, hpk.out, if_pos ⟨by omega, by omega, by dsimp only; omega, by dsimp only; omega⟩])
    have HFIT := hid (show ∀ l ∈ s.rows :: s.cases, ∀ r ∈ l, fitsB s.box.length r = true from fun l hl r hr => by
      rcases List.mem_cons.1 hl with rfl | hl
      · exact (validB_ok (validS_parts hV).2.2.1.2).2.2 r hr
      · exact (validB_ok ((validS_parts hV).2.2.2.2.2.2 l hl).2).2.2 r hr)
    have hsz := size_of hV
    have HLEN := hid (show ∀ l ∈ s.rows :: s.cases, l.length ≤ 1024 from fun l hl => by
      rcases List.mem_cons.1 hl with rfl | hl
      · exact hsz.rows
      · have := (hsz.case l hl).1
        omega)
    have hlb := hsz.box
    have hlc := hsz.cases
    clear hV HS2 hnb g3 g4 hpk
    go_wp2_with fail
    refine (sClone_any _ s _ (hs.keep kx) hsz).mono ?_
    rintro e w3 ⟨vb, vr, vg, vc, τ, rfl, hT, hO, k3⟩
    obtain ⟨A1, a1, rfl, _, _⟩ := hO.box.form
    obtain ⟨A2, a2, rfl, _, _⟩ : ∃ A c, vr = .slice A s.rows.length c ∧ s.rows.length ≤ c ∧ c ≤ 9223372036854775807 := by
      obtain ⟨css, hr0⟩ := hO.rows
      exact hr0.form
    obtain ⟨A3, a3, rfl, _, _⟩ := hO.graphs.here.form
    obtain ⟨A4, a4, rfl, _, _⟩ : ∃ A c, vc = .slice A s.cases.length c ∧ s.cases.length ≤ c ∧ c ≤ 9223372036854775807 := by
      obtain ⟨vs, o4, l4, -, -⟩ := hO.cases
      rw [← l4]
      exact o4.form
    have kA := (Kp.refl w3).alloc (.cells #[.slice A1 s.box.length a1, .slice A2 s.rows.length a2, .slice A3 s.graphs.length a3, .slice A4 s.cases.length a4] 27)
    have hB := Bx.new w3 #[.slice A1 s.box.length a1, .slice A2 s.rows.length a2, .slice A3 s.graphs.length a3, .slice A4 s.cases.length a4] 27
    have hbo := alloc_lt w3 (.cells #[.slice A1 s.box.length a1, .slice A2 s.rows.length a2, .slice A3 s.graphs.length a3, .slice A4 s.cases.length a4] 27)
    obtain ⟨VV, hVl, hV0, hI⟩ := SubI.of (hT.grow kA.size) (hO.kp kA _ hT)
    have hR4 := (hRx.kp k3 (by omega)).kp kA (by have := k3.size; omega)
    have k4 := (kx.trans k3).trans kA
    have hτ : τ w3.heap.size = 0 := by
      by_cases h : τ w3.heap.size = 0
      · exact h
      · have := (hT _ h).2
        omega
    have hτb : τ (b + 1) = 0 := by
      by_cases h : τ (b + 1) = 0
      · exact h
      · have := (hT _ h).1
        omega
    have h14 := (k3.trans kA).size
    have hlo : b + 2 ≤ w3.heap.size := by have := k3.size; omega
    have hlo1 : b + 2 ≤ w1.heap.size := hz1
    obtain ⟨gb, rfl, -, hgb⟩ := hI.box.at_ (by omega)
    have hgbt := hI.boxT gb rfl
    have hbc0 := hI.box.cellAt encRng_len rfl hi (j := 0) (by omega)
    have hbc1 := hI.box.cellAt encRng_len rfl hi (j := 1) (by omega)
    have hbf0 := hI.box.frozen rfl (i * 2)
    have hbf1 := hI.box.frozen rfl (i * 2 + 1)
    rw [Nat.add_zero] at hbc0
    replace hbc0 := hbc0.trans (show (encRng s.box[i])[0]? = some (Value.int .i64 s.box[i].lo) from rfl)
    replace hbc1 := hbc1.trans (show (encRng s.box[i])[1]? = some (Value.int .i64 s.box[i].hi) from rfl)
    replace B0 := B0.keep k3
    clear c0 c1 c2 c3 hgl hO hRx hR k3 kA hT kx hz1 h1' h2' hq
    obtain ⟨c0, c1, c2, c3⟩ := B0.cells
    have hgl := block_lt_of_cell c0
    replace hVl := hid hVl
    replace hV0 := hid hV0
    go_upto_region 6 with (fail)
    clear c0 c1 c2 c3 hgl B0
    generalize w3.alloc (.cells #[.slice (some ⟨gb, 0, none⟩) s.box.length a1, .slice A2 s.rows.length a2, .slice A3 s.graphs.length a3, .slice A4 s.cases.length a4] 27) = w4 at *
    generalize w3.heap.size = bo at *
    have hgbo : gb ≠ bo := fun e => by rw [e] at hgbt; omega
    have hgbb : gb ≠ b + 1 := fun e => by rw [e] at hgbt; omega
    have hglo := (hI.tags gb (by omega)).1
    have p0 := hB.cell (j := 0) rfl
    have hI5 := hI.setBox (lo := x) (hi := x) rfl hi
    have hKg : Kg w4 ((w4.setCell ⟨gb, i * 2, none⟩ (.int .i64 x)).setCell ⟨gb, i * 2 + 1, none⟩ (.int .i64 x)) gb := ((Kg.refl w4 gb).set (p := ⟨gb, i * 2, none⟩) (.inl rfl) _).set (p := ⟨gb, i * 2 + 1, none⟩) (.inl rfl) _
    have hB5 := hB.kg hKg hbo (fun e => hgbo e.symm)
    have hR5 := hR4.kg hKg (by omega) (fun e => hgbb e.symm)
    have k5 := Kg.to_kp k4 hKg (by have := hbw.out; omega)
    have hz5 : ((w4.setCell ⟨gb, i * 2, none⟩ (.int .i64 x)).setCell ⟨gb, i * 2 + 1, none⟩ (.int .i64 x)).heap.size = w4.heap.size := by simp only [set_size]
    clear hI hB hR4 k4 hKg
    go_upto_region 7 with (fail)
    generalize (w4.setCell ⟨gb, i * 2, none⟩ (.int .i64 x)).setCell ⟨gb, i * 2 + 1, none⟩ (.int .i64 x) = w5 at *
    clear hbc0 hbc1 hbf0 hbf1 p0 hgbt hgb
    have q1 := hB5.cell (j := 1) rfl
    have q3 := hB5.cell (j := 3) rfl
    have hbo5 : bo < w5.heap.size := by omega
    replace hz5 := hid hz5
    obtain ⟨vs, o4, t4, l4, n4⟩ := hI5.ca
    obtain ⟨el, hel⟩ : ∃ el : Elm 1, el.val = [.slice A2 s.rows.length a2] := ⟨⟨[.slice A2 s.rows.length a2], rfl, by simp [Value.oneCell']⟩, rfl⟩
    have own0 : Own encC 23 1 w5.heap.size (w5.alloc (.cells #[.slice A2 s.rows.length a2] 23)) (.slice (some ⟨w5.heap.size, 0, none⟩) 1 1) [el] := Own.lit (base := w5.heap.size) encC (e := 23) (size := 1) w5 #[.slice A2 s.rows.length a2] [el] (Nat.le_refl _) (by simp) rfl (by simp [flat, encC, hel])
    replace hel := hid hel
    have src0 := (o4.sl encC_len).keep (pl_stable _) ((Kp.refl w5).alloc (.cells #[.slice A2 s.rows.length a2] 23))
    have k56 := (Kp.refl w5).alloc (.cells #[.slice A2 s.rows.length a2] 23)
    have HLL : Hid (([el] ++ vs).length = s.cases.length + 1) := hid (by have := hVl.out; simp; omega)
    have HLE := hid (show ∀ j (h1 : j < ([el] ++ vs).length) (h2 : j < VV.length), ([el] ++ vs)[j].val = [VV[j]] from fun j h1 h2 => by
      cases j with
      | zero =>
        have h3 := hV0.out
        rw [List.getElem?_eq_getElem h2] at h3
        have h4 := Option.some.inj h3
        show el.val = _
        rw [hel.out, h4]
      | succ j =>
        show vs[j].val = _
        exact n4 j (by simpa using h1) h2)
    replace l4 := hid l4
    replace n4 := hid n4
    go_wp2_with (at_builtin; refine wpl_append_flat (l := [el]) (m := vs) rfl (.tmp 62) (.tmp 64) rfl stRowsM encC_len encC_one rfl own0 rfl src0 (by have := l4.out; have := hVl.out; simp; omega) (by have := l4.out; have := hVl.out; simp; omega) (by simp) ?_; intro v6 w6 hown6 hgrow6 hat6 hnil6; generalize ([el] ++ vs : List (Elm 1)) = LE at *; obtain ⟨A6, c6, hv6, hc6, hm6⟩ := hown6.form; subst hv6)
    have k6 : Kp w5 w6 := k56.grown hgrow6 (fun q hq => by cases hq; exact Nat.le_refl _)
    have hτ5 : τ w5.heap.size = 0 := by
      by_cases h : τ w5.heap.size = 0
      · exact h
      · have := (hI5.tags _ h).2
        omega
    have hI6 := hI5.kg (k6.kg w5.heap.size) hτ5
    have hB6 := hB5.kp k6 hbo5
    have hR6 := hR5.kp k6 (by omega)
    have kw6 := k5.trans k6
    have hz6 := k6.size
    obtain ⟨g6, rfl, hg6, hg6l⟩ := hown6.at_ (by have := HLL.out; omega)
    have hτ6 : τ g6 = 0 := by
      by_cases h : τ g6 = 0
      · exact h
      · have := (hI5.tags _ h).2
        omega
    have h16 : w1.heap.size ≤ w6.heap.size := by have := hz5.out; omega
    clear hI5 hB5 hR5 k5 k56 own0 src0 o4 t4 l4 n4 hel hgrow6 hat6 hnil6 q1 q3
    generalize hL0 : s.rows :: s.cases = LL0 at *
    have hLL0 : LL0.length = LE.length := by have := HLL.out; rw [← hL0]; simp; omega
    have hLLe := hid hLL0
    have hVLL := hid hI6.len
    replace hL0 := hid hL0
    have hcasebd : LE.length ≤ 1025 := by have := HLL.out; omega
    clear hLL0
    go_loopw [67, 9] (fun iv fv wr => ∃ (m : Nat) (τm : Nat → Nat) (LLm : List (List Row)), m ≤ LE.length ∧ iv = .int .i64 m ∧ fv = .bool ((LL0.take m).all (fineL i x)) ∧ SubI w1.heap.size τm wr (.slice (some ⟨gb, 0, none⟩) s.box.length a1) (.slice A3 s.graphs.length a3) (.slice A4 s.cases.length a4) VV (s.box.set i ⟨x, x⟩) s.graphs LLm ∧
      Hid (LLm = (LL0.take m).map (fun l => l.map (subRow i x)) ++ LL0.drop m) ∧ Kp w wr ∧ w6.heap.size ≤ wr.heap.size ∧ (∀ q, q < w6.heap.size → τ q = 0 → wr.heap[q]? = w6.heap[q]? ∧ τm q = 0)) (fun iv _ _ => LE.length - (intOf iv).toNat)
    case atStart => exact ⟨0, τ, LL0, Nat.zero_le _, rfl, by simp, hI6, hid (by simp), kw6, Nat.le_refl _, fun q _ h => ⟨rfl, h⟩⟩
    case round =>
      clear hI6
      obtain ⟨m, τm, LLm, hm, rfl, rfl, hIm, HLm, hkm, hzm, hU⟩ := hrel
      have hLmlen : LLm.length = LL0.length := by rw [HLm.out]; simp; have := hLLe.out; omega
      by_cases hlt : m < LE.length
      · have hm0 : m < LL0.length := by have := hLLe.out; omega
        have hmV : m < VV.length := by have := hVLL.out; omega
        have hcm : wr.cell? ⟨g6, m, none⟩ = some VV[m] := by
          have h1 := hown6.cellAt encC_len rfl hlt (j := 0) (by omega)
          rw [Nat.mul_one, Nat.add_zero] at h1
          refine (World.cell?_of_block (hU g6 hg6l hτ6).1).trans (h1.trans ?_)
          show LE[m].val[0]? = _
          rw [HLE.out m hlt hmV]
          rfl
        have hg6r : g6 < wr.heap.size := by omega
        have hLm0 : LLm[m]'(by omega) = LL0[m] := by
          have : LLm[m]? = some LL0[m] := by
            rw [HLm.out, List.getElem?_append_right (by simp; omega)]
            simp
            have : m - min m LL0.length = 0 := by omega
            rw [this, Nat.add_zero, List.getElem?_eq_getElem hm0]
          rw [List.getElem?_eq_getElem (by omega)] at this
          exact Option.some.inj this
        have HT1 : Hid ((LL0.take (m + 1)).all (fineL i x) = ((LL0.take m).all (fineL i x) && fineL i x LL0[m])) := hid (by rw [List.take_succ_eq_append_getElem hm0, List.all_append]; simp)
        have HF1 := hid (HFIT.out LL0[m] (List.getElem_mem hm0))
        obtain ⟨cssm, hNm⟩ := hIm.els m hmV (by omega)
        rw [hLm0] at hNm
        obtain ⟨Am, cm, hVm, _, _⟩ := hNm.form
        rw [hVm] at hcm
        have HLs : Hid ((LL0.take (m + 1)).map (fun l => l.map (subRow i x)) ++ LL0.drop (m + 1) = LLm.set m (LL0[m].map (subRow i x))) := hid (by rw [HLm.out]; exact mapd_step' (fun l : List Row => l.map (subRow i x)) LL0 m hm0)
        have HVm : Hid (VV[m]? = some (.slice Am LL0[m].length cm)) := hid (by rw [List.getElem?_eq_getElem hmV, hVm])
        have hlmax := HLEN.out LL0[m] (List.getElem_mem hm0)
        replace hLm0 := hid hLm0
        replace hLmlen := hid hLmlen
        replace hm0 := hid hm0
        clear hNm hVm
        generalize hfm : (LL0.take m).all (fineL i x) = fm at *
        clear hfm
        obtain ⟨L, hL⟩ : ∃ L, L = LL0[m]'hm0.out := ⟨_, rfl⟩
        rw [← hL] at HT1 HF1 HLs HVm hcm hlmax hLm0
        clear hL
        obtain ⟨wo, hwo⟩ : ∃ wo : World, wo = wr := ⟨_, rfl⟩
        subst hwo
        go_wp2
        clear hcm hg6r
        go_loopw [73, 9] (fun iv fv wr => ∃ (j : Nat) (τi : Nat → Nat) (LLi : List (List Row)), j ≤ L.length ∧ iv = .int .i64 j ∧ fv = .bool (fm && (L.take j).all (fun r => inBd (subB i x r.bound r.terms))) ∧ SubI w1.heap.size τi wr (.slice (some ⟨gb, 0, none⟩) s.box.length a1) (.slice A3 s.graphs.length a3) (.slice A4 s.cases.length a4) VV (s.box.set i ⟨x, x⟩) s.graphs LLi ∧
          Hid (LLi = LLm.set m ((L.take j).map (subRow i x) ++ L.drop j)) ∧ Kp w wr ∧ w6.heap.size ≤ wr.heap.size ∧ (∀ q, q < w6.heap.size → τ q = 0 → wr.heap[q]? = w6.heap[q]? ∧ τi q = 0)) (fun iv _ _ => L.length - (intOf iv).toNat)
        case atStart => exact ⟨0, τm, LLm, Nat.zero_le _, rfl, by simp, hIm, hid (by simp only [List.take_zero, List.map_nil, List.nil_append, List.drop_zero]; rw [← hLm0.out, List.set_getElem_self]), hkm, hzm, hU⟩
        case round =>
          clear hIm hkm hzm hU
          obtain ⟨j, τi, LLi, hj, rfl, rfl, hIi, HLi, hki, hzi, hUi⟩ := hrel
          by_cases hjl : j < L.length
          · have hmi : m < LLi.length := by rw [HLi.out]; have := hLmlen.out; have := hm0.out; simp; omega
            have hmV : m < VV.length := by have := hVLL.out; have := hm0.out; omega
            have hLi : LLi[m] = (L.take j).map (subRow i x) ++ L.drop j := by
              have h1 : LLi[m]? = some ((L.take j).map (subRow i x) ++ L.drop j) := by
                rw [HLi.out, List.getElem?_set_self (by have := hLmlen.out; have := hm0.out; omega)]
              rw [List.getElem?_eq_getElem hmi] at h1
              exact Option.some.inj h1
            have hLil : LLi[m].length = L.length := by rw [hLi]; simp; omega
            have hji : j < LLi[m].length := by omega
            have hLij : LLi[m][j] = L[j] := by
              have h1 : LLi[m][j]? = some L[j] := by
                rw [hLi, List.getElem?_append_right (by simp; omega)]
                simp
                have : j - min j L.length = 0 := by omega
                rw [this, Nat.add_zero, List.getElem?_eq_getElem hjl]
              rw [List.getElem?_eq_getElem hji] at h1
              exact Option.some.inj h1
            obtain ⟨cssi, hNi⟩ := hIi.els m hmV hmi
            have hVi : VV[m] = .slice Am L.length cm := by
              have := HVm.out
              rw [List.getElem?_eq_getElem hmV] at this
              exact Option.some.inj this
            rw [hVi] at hNi
            have hcl := hNi.len
            obtain ⟨gr, rfl, -, hgr⟩ := hNi.own.at_ (by omega)
            have hjc : j < cssi.length := by omega
            obtain ⟨T, hTj, hoj⟩ := hNi.els j hjc hji
            obtain ⟨tv, hcs, ht⟩ := hoj.here
            rw [hLij] at hcs ht
            have hfit := HF1.out L[j] (List.getElem_mem hjl)
            have HPL : Hid (LLi.set m (LLi[m].set j (subRow i x L[j])) = LLm.set m ((L.take (j + 1)).map (subRow i x) ++ L.drop (j + 1))) := hid (by rw [mapd_step' (subRow i x) L j hjl, hLi]; rw [HLi.out, List.set_set])
            have HA1 : Hid ((L.take (j + 1)).all (fun r => inBd (subB i x r.bound r.terms)) = ((L.take j).all (fun r => inBd (subB i x r.bound r.terms)) && inBd (subB i x L[j].bound L[j].terms))) := hid (by rw [List.take_succ_eq_append_getElem hjl, List.all_append]; simp)
            have cj0 : wr.cell? ⟨gr, j * 2, none⟩ = some tv := by
              have := hNi.own.cellAt encC_len (by omega) hjc (j := 0) (by omega)
              refine this.trans ?_
              show cssi[j].val[0]? = _
              rw [hcs]; rfl
            have cj1 : wr.cell? ⟨gr, j * 2 + 1, none⟩ = some (.int .i64 L[j].bound) := by
              have := hNi.own.cellAt encC_len (by omega) hjc (j := 1) (by omega)
              refine this.trans ?_
              show cssi[j].val[1]? = _
              rw [hcs]; rfl
            have hNo := hNi.own
            have hfa := fitsn_all hfit
            obtain ⟨-, hf2, hf3, hf4⟩ := fitsB_ok hfit
            have hj1 : (0 : Int) ≤ j := by omega
            have hj2 : (j : Int) < L.length := by omega
            have HPUT := hid (fun (w8 w9 : World) (vx : Value) (k8 : Kp wr w8) (ox : Own encTerm 49 2 wr.heap.size w8 vx (dropC i L[j].terms)) (k9 : Kp w8 w9) => hIi.put (bd := subB i x L[j].bound L[j].terms) (by omega) hmi hji HVm.out (by omega) k8 ox k9)
            clear hNi hTj hoj hcs hfit hLij hLi
            generalize L[j] = r at *
            obtain ⟨ts, bd⟩ := r
            dsimp only at *
            obtain ⟨At, ct, rfl, _, _⟩ := ht.form
            generalize hga : (L.take j).all (fun r => inBd (subB i x r.bound r.terms)) = ga at *
            clear hga
            go_wp2_with fail
            refine (sReplaced_any _ ts bd i x _ ht (by omega) (fun t ht => by have := (hfa t ht).1; unfold okT at this; omega) hf3 hf4 hxb.1 hxb.2).mono ?_
            rintro e w8 ⟨vx, rfl, ox, k8⟩
            obtain ⟨Ax, cx, rfl, _, _⟩ := ox.form
            have k9 := (Kp.refl w8).alloc (.cells #[.slice Ax (dropC i ts).length cx, .int .i64 (subB i x bd ts)] 30)
            obtain ⟨hI9, hg9, hτg, hglt⟩ := HPUT.out w8 _ _ k8 ox k9
            have hO9 := (hNo.kp k8).kp k9
            replace cj0 := (k8.trans k9).cellS cj0
            replace cj1 := (k8.trans k9).cellS cj1
            have hfr0 := hO9.frozen (by omega) (j * 2)
            have hfr1 := hO9.frozen (by omega) (j * 2 + 1)
            have n0 := alloc_cell w8 #[.slice Ax (dropC i ts).length cx, .int .i64 (subB i x bd ts)] 30 0 rfl
            have n1 := alloc_cell w8 #[.slice Ax (dropC i ts).length cx, .int .i64 (subB i x bd ts)] 30 1 rfl
            have hkF := hki.trans (k8.trans k9)
            have hs8 := k8.size
            have hs9 := k9.size
            clear hO9 hNo ox
            generalize hfl : (fm && ga) = fl at *
            replace hfl := hid hfl
            generalize hbd : subB i x bd ts = nb at *
            replace hbd := hid hbd
            generalize hng : (dropC i ts).length = ng at *
            replace hng := hid hng
            have hgrw : w1.heap.size ≤ gr := (hIi.tags gr (by rw [hτg]; exact tg_ne.1)).1
            have hkF2 := Kg.to_kp hkF hg9 (by have := hbw.out; omega)
            have hsF := hg9.size
            have hUF := hid (fun (q : Nat) (h1 : q < w6.heap.size) (h2 : τ q = 0) => show (((w8.alloc (.cells #[.slice Ax ng cx, .int .i64 nb] 30)).setCell ⟨gr, j * 2, none⟩ (.slice Ax ng cx)).setCell ⟨gr, j * 2 + 1, none⟩ (.int .i64 nb)).heap[q]? = w6.heap[q]? ∧ tagN τi wr.heap.size (tg m) (w8.alloc (.cells #[.slice Ax ng cx, .int .i64 nb] 30)).heap.size q = 0 from by
              obtain ⟨u1, u2⟩ := hUi q h1 h2
              refine ⟨?_, ?_⟩
              · rw [hg9.block q (by omega) (fun e => by rw [Option.some.inj e, hτg] at u2; exact tg_ne.1 u2), k9.block (by omega), k8.block (by omega)]
                exact u1
              · unfold tagN
                rw [if_neg (by omega)]
                exact u2)
            have HPL2 : Hid (LLi.set m (LLi[m].set j ⟨dropC i ts, nb⟩) = LLm.set m ((L.take (j + 1)).map (subRow i x) ++ L.drop (j + 1))) := hid (by rw [← HPL.out]; unfold subRow; rw [hbd.out])
            have HFL : Hid ((fm && (L.take (j + 1)).all (fun r => inBd (subB i x r.bound r.terms))) = (fl && inBd nb)) := hid (by rw [HA1.out, ← Bool.and_assoc, hfl.out])
            clear HPUT hIi HPL HA1 hfl hbd hUi hg9 k8 k9 hkF hki hfa ht
            have hFIN : ∀ bv, bv = (fl && inBd nb) → ∃ (j' : Nat) (τi : Nat → Nat) (LLi : List (List Row)), j' ≤ L.length ∧ Value.int .i64 ((j : Int) + 1) = .int .i64 j' ∧ Value.bool bv = .bool (fm && (L.take j').all (fun r => inBd (subB i x r.bound r.terms))) ∧ SubI w1.heap.size τi (((w8.alloc (.cells #[.slice Ax ng cx, .int .i64 nb] 30)).setCell ⟨gr, j * 2, none⟩ (.slice Ax ng cx)).setCell ⟨gr, j * 2 + 1, none⟩ (.int .i64 nb)) (.slice (some ⟨gb, 0, none⟩) s.box.length a1) (.slice A3 s.graphs.length a3) (.slice A4 s.cases.length a4) VV (s.box.set i ⟨x, x⟩) s.graphs LLi ∧
              Hid (LLi = LLm.set m ((L.take j').map (subRow i x) ++ L.drop j')) ∧ Kp w (((w8.alloc (.cells #[.slice Ax ng cx, .int .i64 nb] 30)).setCell ⟨gr, j * 2, none⟩ (.slice Ax ng cx)).setCell ⟨gr, j * 2 + 1, none⟩ (.int .i64 nb)) ∧ w6.heap.size ≤ (((w8.alloc (.cells #[.slice Ax ng cx, .int .i64 nb] 30)).setCell ⟨gr, j * 2, none⟩ (.slice Ax ng cx)).setCell ⟨gr, j * 2 + 1, none⟩ (.int .i64 nb)).heap.size ∧ (∀ q, q < w6.heap.size → τ q = 0 → (((w8.alloc (.cells #[.slice Ax ng cx, .int .i64 nb] 30)).setCell ⟨gr, j * 2, none⟩ (.slice Ax ng cx)).setCell ⟨gr, j * 2 + 1, none⟩ (.int .i64 nb)).heap[q]? = w6.heap[q]? ∧ τi q = 0) :=
              fun bv hbv => ⟨j + 1, _, _, by omega, by go_num, by rw [hbv, HFL.out], hI9, HPL2, hkF2, by omega, hUF.out⟩
            replace hFIN := hid hFIN
            clear hI9 HPL2 hkF2 hUF HFL
            cases fl with
            | true =>
              go_wp2
              all_goals (refine ⟨hFIN.out _ ?_, ?_⟩)
              all_goals (first | (simp [intOf]; omega) | (cases inBd nb <;> first | rfl | contradiction))
            | false =>
              go_wp2
              refine ⟨hFIN.out _ ?_, ?_⟩
              · rfl
              · simp [intOf]; omega
          · have HLf : Hid (LLi = (LL0.take (m + 1)).map (fun l => l.map (subRow i x)) ++ LL0.drop (m + 1)) := hid (by rw [HLi.out, HLs.out, List.take_of_length_le (by omega), List.drop_of_length_le (by omega), List.append_nil])
            have htk : L.take j = L := List.take_of_length_le (by omega)
            simp only [htk]
            have HFL : Hid ((fm && L.all (fun r => inBd (subB i x r.bound r.terms))) = (LL0.take (m + 1)).all (fineL i x)) := hid HT1.out.symm
            generalize (fm && L.all (fun r => inBd (subB i x r.bound r.terms))) = ff at *
            clear htk hj
            go_wp2
            refine ⟨⟨m + 1, τi, LLi, by omega, by go_num, by rw [HFL.out], hIi, HLf, hki, hzi, hUi⟩, ?_⟩
            simp [intOf]; omega
      · have hme : LL0.length ≤ m := by have := hLLe.out; omega
        have HLf : LLm = s.rows.map (subRow i x) :: s.cases.map (fun l => l.map (subRow i x)) := by rw [HLm.out, List.take_of_length_le hme, List.drop_of_length_le hme, List.append_nil, ← hL0.out]; rfl
        have htk : LL0.take m = LL0 := List.take_of_length_le hme
        obtain ⟨uR, uT⟩ := hU (b + 1) (by omega) hτb
        have hRx := hR6.keep uR
        have hBz := hB6.keep (hU bo (by omega) hτ).1
        have hVz := hV0
        rw [HLf] at hIm
        have kx := hkm
        simp only [htk]
        clear htk HLf hme hU
        cases hff : LL0.all (fineL i x) with
        | false =>
          have HN : Hid (SubR s (i : Int) x = (zSys, 8)) := hid (by rw [HS.out, hff]; rfl)
          clear hff
          have hR := True.intro
          have f0 := hRx.free (j := 0) (by simp)
          have f1 := hRx.free (j := 1) (by simp)
          have f2 := hRx.free (j := 2) (by simp)
          have f3 := hRx.free (j := 3) (by simp)
          have y0 := hRx.cell (j := 0) rfl
          have y1 := hRx.cell (j := 1) rfl
          have y2 := hRx.cell (j := 2) rfl
          have y3 := hRx.cell (j := 3) rfl
          have hBF := hRx.set4 (.slice none 0 0) (.slice none 0 0) (.slice none 0 0) (.slice none 0 0)
          have kF := Kg.to_kp kx (Kg.set4 wr (b + 1) (.slice none 0 0) (.slice none 0 0) (.slice none 0 0) (.slice none 0 0)) (by have := hbw.out; omega)
          clear hRx hR
          go_wp2
          refine bodyPost_ret (results_cell_bx2 rfl _ _ (b + 1) [.slice none 0 0, .slice none 0 0, .slice none 0 0, .slice none 0 0] _ rfl hBF.range Try.underlying27 rfl (by kernel_rfl)) rfl ?_
          exact ⟨_, by rw [HN.out]; rfl, by rw [HN.out]; exact zSys_v _, kF⟩
        | true =>
          have HN : Hid (SubR s (i : Int) x = (subS s i x, 0)) := hid (by rw [HS.out, hff]; rfl)
          clear hff
          have f0 := hRx.free (j := 0) (by simp)
          have f1 := hRx.free (j := 1) (by simp)
          have f2 := hRx.free (j := 2) (by simp)
          have f3 := hRx.free (j := 3) (by simp)
          have y0 := hRx.cell (j := 0) rfl
          have y1 := hRx.cell (j := 1) rfl
          have y2 := hRx.cell (j := 2) rfl
          have y3 := hRx.cell (j := 3) rfl
          have p0 := hBz.cell (j := 0) rfl
          have p1 := hBz.cell (j := 1) rfl
          have p2 := hBz.cell (j := 2) rfl
          have p3 := hBz.cell (j := 3) rfl
          have hBF := hRx.set4 (.slice (some ⟨gb, 0, none⟩) s.box.length a1) (.slice A2 s.rows.length a2) (.slice A3 s.graphs.length a3) (.slice A4 s.cases.length a4)
          have hKF := Kg.set4 wr (b + 1) (.slice (some ⟨gb, 0, none⟩) s.box.length a1) (.slice A2 s.rows.length a2) (.slice A3 s.graphs.length a3) (.slice A4 s.cases.length a4)
          have kF := Kg.to_kp kx hKF (by have := hbw.out; omega)
          have hSV := (hIm.kg hKF uT).sysv hVz.out
          clear hRx hIm hBz hKF
          go_wp2
          refine bodyPost_ret (results_cell_bx2 rfl _ _ (b + 1) [.slice (some ⟨gb, 0, none⟩) s.box.length a1, .slice A2 s.rows.length a2, .slice A3 s.graphs.length a3, .slice A4 s.cases.length a4] _ rfl hBF.range Try.underlying27 rfl (by kernel_rfl)) rfl ?_
          refine ⟨_, by rw [HN.out]; rfl, ?_, kF⟩
          rw [HN.out]
          exact hSV
end Go.Proofs.Ytfllmnaillilhaa
