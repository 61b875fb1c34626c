/-
What Tighten returns, for any input.
What Tighten and Clone return, for any input.
What Next returns, for any input.
What Fix returns, for any input.
What Fix returns, for any input: the walk.
-/
import Derived.Test.YtlbhidiliogflaaGreatIA
import Derived.Deep.LoopGhost
namespace Go.Proofs.YtlbhidiliogflaaGreat
set_option linter.unusedSimpArgs false
set_option linter.unusedVariables false
open Go.RowKit

set_option maxHeartbeats 400000 in
theorem tighten1_any (g : Nat) (cell ce fa : Int) (w : World) (hg : w.cell? ⟨g, 0, none⟩ = some (.int .i64 cell)) :
    Calls Tryz.prog 93 #[.agg #[.int .i64 ce, .int .i64 fa], .pointer (some ⟨g, 0, none⟩)] w fun e w' => e = .returned (.bool (ce == cell)) ∧ Kp w w' := by
  have hgl : g < w.heap.size := block_lt_of_cell hg
  go_enter Tryz.func93, Tryz.ntmps93
  go_wp2
  go_ret
  exact ⟨rfl, (Kp.refl w).alloc _⟩
theorem tighten1_real : Real Tryz.prog 93 := ⟨_, Tryz.func93, by kernel_rfl, by kernel_rfl⟩

theorem idxF_find {α : Type} (p : α → Bool) : ∀ (k : Nat) (l : List α), (idxF p k l = -1 ∧ l.find? p = none) ∨ ∃ (i : Nat) (h : i < l.length), idxF p k l = ((k + i : Nat) : Int) ∧ l.find? p = some l[i]
  | k, [] => .inl ⟨rfl, rfl⟩
  | k, x :: l => by
    unfold idxF
    by_cases hp : p x = true
    · exact .inr ⟨0, by simp, by rw [if_pos hp]; rfl, by simp [hp]⟩
    · rw [if_neg hp]
      rcases idxF_find p (k + 1) l with ⟨h1, h2⟩ | ⟨i, h, h1, h2⟩
      · exact .inl ⟨h1, by simp [hp, h2]⟩
      · exact .inr ⟨i + 1, by simpa using h, by rw [h1]; congr 1; omega, by simp [hp, h2]⟩

def tightR (r : Row) (b : List Rng) (cell : Int) : Rng :=
  match r.terms.find? (fun t => t.cell == cell) with
  | none => pick b cell
  | some t =>
    let rest := r.bound - boundL b cell 1 0 r.terms
    let o : Rng := if 0 < t.factor then ⟨(pick b cell).lo, min (pick b cell).hi (rest / t.factor)⟩ else ⟨max (pick b cell).lo (-(rest / -t.factor)), (pick b cell).hi⟩
    if emptyR o then ⟨1, 0⟩ else o
theorem boundL_bd (b : List Rng) (without sign : Int) (hbox : ∀ r ∈ b, ¬ bad r) : ∀ (l : List Term) (acc : Int), (∀ t ∈ l, okT b.length t) → acc - 1000000000 * l.length ≤ boundL b without sign acc l ∧ boundL b without sign acc l ≤ acc + 1000000000 * l.length
  | [], acc, _ => by simp [boundL]
  | t :: l, acc, hok => by
    obtain ⟨o1, o2, o3, o4⟩ := hok t (by simp)
    have h := boundL_bd b without sign hbox l (acc + termV b without sign t) (fun t ht => hok t (by simp [ht]))
    have hv : -1000000000 ≤ termV b without sign t ∧ termV b without sign t ≤ 1000000000 := by
      obtain ⟨j, hj⟩ := Int.eq_ofNat_of_zero_le o1
      have hjl : j < b.length := by omega
      have hp := not_bad (hbox b[j] (List.getElem_mem hjl))
      unfold termV
      rw [hj, pick_at b j hjl]
      have m1 := mul_bd t.factor b[j].lo o3 o4 hp.1 hp.2.1
      have m2 := mul_bd t.factor b[j].hi o3 o4 hp.2.2.1 hp.2.2.2
      split
      · omega
      · split <;> omega
    unfold boundL
    rw [List.length_cons]
    omega

set_option maxHeartbeats 4000000 in
theorem tighten_any (vt vb : Value) (r : Row) (b : List Rng) (j : Nat) (w : World) (ht : Terms w vt r.terms) (hb : Rngs w vb b)
    (hj : j < b.length) (hok : ∀ t ∈ r.terms, okT b.length t ∧ t.factor ≠ 0) (hbox : ∀ r ∈ b, ¬ bad r) (hl : r.terms.length ≤ 128) (hbd : -1000000000 ≤ r.bound ∧ r.bound ≤ 1000000000) :
    Calls Tryz.prog 84 #[.agg #[vt, .int .i64 r.bound], vb, .int .i64 j] w fun e w' => e = .returned (.agg #[.int .i64 (tightR r b j).lo, .int .i64 (tightR r b j).hi]) ∧ Kp w w' := by
  obtain ⟨A, c, rfl, hc, hm⟩ := ht.form
  obtain ⟨A', c', rfl, hc', hm'⟩ := hb.form
  obtain ⟨ts, bd⟩ := r
  dsimp only at *
  obtain ⟨hbd1, hbd2⟩ := hbd
  obtain ⟨g', o', rfl, hg', h1, h2⟩ := hb.rng hj
  have HP := hid (pick_at b j hj)
  have hnb := not_bad (hbox b[j] (List.getElem_mem hj))
  generalize b[j] = x at *
  obtain ⟨lo, hi⟩ := x
  dsimp only at h1 h2 hnb
  obtain ⟨n1, n2, n3, n4⟩ := hnb
  have HOK := hid (fun t ht => (hok t ht).1)
  have HNZ := hid (fun t ht => (hok t ht).2)
  have HBX := hid hbox
  obtain ⟨bb1, bb2⟩ := boundL_bd b j 1 hbox ts 0 (fun t ht => (hok t ht).1)
  have HFD := hid (idxF_find (fun t : Term => t.cell == (j : Int)) 0 ts)
  have HT : Hid (tightR ⟨ts, bd⟩ b j = match ts.find? (fun t => t.cell == (j : Int)) with
    | none => (⟨lo, hi⟩ : Rng)
    | some t =>
      let rest := bd - boundL b j 1 0 ts
      let o : Rng := if 0 < t.factor then ⟨lo, min hi (rest / t.factor)⟩ else ⟨max lo (-(rest / -t.factor)), hi⟩
      if emptyR o then ⟨1, 0⟩ else o) := hid (by unfold tightR; rw [HP.out])
  clear hok hbox
  have y1 : g' < w.heap.size + 1 := by omega
  have y2 : g' < w.heap.size + 1 + 1 := by omega
  have y3 : g' < w.heap.size + 1 + 1 + 1 := by omega
  go_enter Tryz.func84, Tryz.ntmps84
  go_wp2_with fail
  have hkA := ((((Kp.refl w).alloc (.cells #[.slice A ts.length c, .int .i64 bd] 51)).alloc (.cells #[.int .i64 j] 3)).alloc (.cells #[.int .i64 0, .int .i64 0] 57)).alloc (.cells #[.int .i64 lo, .int .i64 hi] 57)
  refine (IndexFuncTerm_any (fun t => t.cell == (j : Int)) 93 [.pointer (some ⟨w.heap.size + 1, 0, none⟩)] _ ts _ (ht.keep (pl_stable _) hkA) tighten1_real (fun w' ce fa hk => tighten1_any _ j ce fa w' (hk.cellS (by go_simp)))).mono ?_
  rintro e w1 ⟨rfl, hk1⟩
  have hbel1 := hkA.trans hk1
  have hz := hk1.size
  simp only [World.size_alloc] at hz
  have z0 : w.heap.size < w1.heap.size := by omega
  have z1 : w.heap.size + 1 < w1.heap.size := by omega
  have z2 : w.heap.size + 1 + 1 < w1.heap.size := by omega
  have z3 : w.heap.size + 1 + 1 + 1 < w1.heap.size := by omega
  have c0 : w1.cell? ⟨w.heap.size, 0, none⟩ = some (.slice A ts.length c) := hk1.cellS (by go_simp)
  have c1 : w1.cell? ⟨w.heap.size, 1, none⟩ = some (.int .i64 bd) := hk1.cellS (by go_simp)
  have c2 : w1.cell? ⟨w.heap.size + 1, 0, none⟩ = some (.int .i64 j) := hk1.cellS (by go_simp)
  have c3 : w1.cell? ⟨w.heap.size + 1 + 1, 0, none⟩ = some (.int .i64 0) := hk1.cellS (by go_simp)
  have c4 : w1.cell? ⟨w.heap.size + 1 + 1, 1, none⟩ = some (.int .i64 0) := hk1.cellS (by go_simp)
  have c5 : w1.cell? ⟨w.heap.size + 1 + 1 + 1, 0, none⟩ = some (.int .i64 lo) := hk1.cellS (by go_simp)
  have c6 : w1.cell? ⟨w.heap.size + 1 + 1 + 1, 1, none⟩ = some (.int .i64 hi) := hk1.cellS (by go_simp)
  have f3 : ∀ o, w1.frozen? ⟨w.heap.size + 1 + 1, o, none⟩ = false := fun o => by rw [(kcell hk1).2 _ _ (by simp)]; go_simp
  have f5 : ∀ o, w1.frozen? ⟨w.heap.size + 1 + 1 + 1, o, none⟩ = false := fun o => by rw [(kcell hk1).2 _ _ (by simp)]; go_simp
  rcases HFD.out with ⟨hi1, hi2⟩ | ⟨i, hil, hi1, hi2⟩
  · rw [hi1]
    have HF : Hid (tightR ⟨ts, bd⟩ b j = ⟨lo, hi⟩) := hid (by rw [HT.out, hi2])
    clear hi1 hi2 hkA hk1
    go_wp2
    refine bodyPost_agg2 (by simp [results, Tryz.results84, go_sem, c3, c4]; exact ⟨rfl, rfl⟩) rfl ⟨ret_agg2 (by rw [HF.out]) (by rw [HF.out]), ?_⟩
    exact (hbel1.set (by show _ ≤ _; simp; omega) _).set (by show _ ≤ _; simp; omega) _
  · rw [hi1, Nat.zero_add]
    obtain ⟨gt, ot, rfl, hgt, t1, t2⟩ := (ht.keep (pl_stable _) hbel1).term hil
    have HNZi := hid (HNZ.out ts[i] (List.getElem_mem hil))
    obtain ⟨o1, o2, o3, o4⟩ := HOK.out ts[i] (List.getElem_mem hil)
    have HF := hid (hi2 ▸ HT.out)
    have htS := ht.keep (pl_stable _) hbel1
    have hbS := hb.keep (pl_stable _) hbel1
    generalize ts[i] = t at *
    obtain ⟨ce, fa⟩ := t
    dsimp only at t1 t2 o1 o2 o3 o4
    clear hi1 hi2 hkA hk1 ht hb HFD HT HNZ HP h1 h2
    have q1 : (0 : Int) ≤ i := by omega
    have q2 : (i : Int) < ts.length := by omega
    go_wp2
    refine wp_region_kw (by kernel_rfl) (by kernel_rfl) ?_
    repeat (go_big_quiet_step (((go_at_call 94; refine quiet_kw (bound_any _ _ ts _ b _ _ _ (htS.keep (pl_stable _) (kw_kp _ _)) (hbS.keep (pl_stable _) (kw_kp _ _)) (by simp) HOK.out HBX.out hl)))))
    refine wpQuiet_nil ?_
    intro _ hw'
    obtain ⟨u, hw''⟩ := hw'
    subst hw''
    have hk2 := kw_kp w1 u
    generalize Kw w1 u = w2 at *
    have hz2 := hk2.size
    have e2 : w2.cell? ⟨w.heap.size + 1 + 1, 0, none⟩ = some (.int .i64 0) := hk2.cellS c3
    have e3 : w2.cell? ⟨w.heap.size + 1 + 1, 1, none⟩ = some (.int .i64 0) := hk2.cellS c4
    have e5 : w2.cell? ⟨w.heap.size + 1 + 1 + 1, 0, none⟩ = some (.int .i64 lo) := hk2.cellS c5
    have e6 : w2.cell? ⟨w.heap.size + 1 + 1 + 1, 1, none⟩ = some (.int .i64 hi) := hk2.cellS c6
    have e7 : ∀ o, w2.frozen? ⟨w.heap.size + 1 + 1, o, none⟩ = false := fun o => by rw [(kcell hk2).2 _ _ z2]; exact f3 o
    have e8 : ∀ o, w2.frozen? ⟨w.heap.size + 1 + 1 + 1, o, none⟩ = false := fun o => by rw [(kcell hk2).2 _ _ z3]; exact f5 o
    have hbel2 := hbel1.trans hk2
    have y2 : w.heap.size + 1 + 1 < w2.heap.size := by omega
    have y3 : w.heap.size + 1 + 1 + 1 < w2.heap.size := by omega
    clear c0 c1 c2 c3 c4 c5 c6 f3 f5 htS hbS t1 t2 HOK HBX
    generalize boundL b j 1 0 ts = s at *
    have s1 : -128000000000 ≤ s := by omega
    have s2 : s ≤ 128000000000 := by omega
    clear bb1 bb2
    have hnz : fa ≠ 0 := HNZi.out
    clear HNZi
    obtain ⟨q, HQ⟩ : ∃ q, q = tightR ⟨ts, bd⟩ b j := ⟨_, rfl⟩
    rw [← HQ] at HF
    have HQ' := hid HQ
    clear HQ
    by_cases h0 : 0 < fa
    · obtain ⟨d1, d2⟩ := ediv_bd (bd - s) fa h0 (by omega) (by omega)
      by_cases hm : (bd - s) / fa < hi
      · have HG : Hid (q = if emptyR ⟨lo, (bd - s) / fa⟩ then ⟨1, 0⟩ else ⟨lo, (bd - s) / fa⟩) := hid (by rw [HF.out, if_pos h0, Int.min_eq_right (by omega)])
        go_wp2
        refine wp_region_kw_tail 7 (by kernel_rfl) (by kernel_rfl) ?_
        simp only [List.take_succ_cons, List.take_zero, List.drop_succ_cons, List.drop_zero]
        repeat (go_big_quiet_step (((go_at_call 70; refine quiet_kw (floor_any _ _ _ (by omega) (by omega) (by omega) (by omega))))))
        refine wpQuiet_nil ?_
        intro _ hw'
        obtain ⟨u2, hw''⟩ := hw'
        subst hw''
        go_wp2_with fail
        have hk3 := (kw_kp w2 u2)
        refine (empty_any _ _ _).mono ?_
        rintro e w4 ⟨rfl, hk4⟩
        have g2 : w4.cell? ⟨w.heap.size + 1 + 1, 0, none⟩ = some (.int .i64 0) := hk4.cellS (by go_simp)
        have g3 : w4.cell? ⟨w.heap.size + 1 + 1, 1, none⟩ = some (.int .i64 0) := hk4.cellS (by go_simp)
        have g4 : w4.cell? ⟨w.heap.size + 1 + 1 + 1, 0, none⟩ = some (.int .i64 (lo)) := hk4.cellS (by go_simp)
        have g5 : w4.cell? ⟨w.heap.size + 1 + 1 + 1, 1, none⟩ = some (.int .i64 ((bd - s) / fa)) := hk4.cellS (by go_simp)
        have g6 : ∀ o, w4.frozen? ⟨w.heap.size + 1 + 1, o, none⟩ = false := fun o => by rw [(kcell hk4).2 _ _ (by simp [World.setCell]; have := hk3.size; omega)]; go_simp
        have hbel4 : Kp w w4 := ((hbel2.trans hk3).set (p := ⟨w.heap.size + 1 + 1 + 1, _, none⟩) (by show _ ≤ _; simp; omega) _).trans hk4
        cases hE : emptyR ⟨lo, (bd - s) / fa⟩ with
        | true =>
          have HH : Hid (tightR ⟨ts, bd⟩ b j = ⟨1, 0⟩) := hid (by rw [← HQ'.out, HG.out, hE]; rfl)
          clear hE
          go_wp2
          refine bodyPost_agg2 (by simp [results, Tryz.results84, go_sem, g2, g3]; exact ⟨rfl, rfl⟩) rfl ⟨ret_agg2 (by rw [HH.out]) (by rw [HH.out]), ?_⟩
          exact (hbel4.set (by show _ ≤ _; simp; omega) _).set (by show _ ≤ _; simp; omega) _
        | false =>
          have HH : Hid (tightR ⟨ts, bd⟩ b j = ⟨lo, (bd - s) / fa⟩) := hid (by rw [← HQ'.out, HG.out, hE]; rfl)
          clear hE
          go_wp2
          refine bodyPost_agg2 (by simp [results, Tryz.results84, go_sem, g2, g3]; exact ⟨rfl, rfl⟩) rfl ⟨ret_agg2 (by rw [HH.out]) (by rw [HH.out]), ?_⟩
          exact (hbel4.set (by show _ ≤ _; simp; omega) _).set (by show _ ≤ _; simp; omega) _
      · have HG : Hid (q = if emptyR ⟨lo, hi⟩ then ⟨1, 0⟩ else ⟨lo, hi⟩) := hid (by rw [HF.out, if_pos h0, Int.min_eq_left (by omega)])
        go_wp2
        refine wp_region_kw_tail 7 (by kernel_rfl) (by kernel_rfl) ?_
        simp only [List.take_succ_cons, List.take_zero, List.drop_succ_cons, List.drop_zero]
        repeat (go_big_quiet_step (((go_at_call 70; refine quiet_kw (floor_any _ _ _ (by omega) (by omega) (by omega) (by omega))))))
        refine wpQuiet_nil ?_
        intro _ hw'
        obtain ⟨u2, hw''⟩ := hw'
        subst hw''
        go_wp2_with fail
        have hk3 := (kw_kp w2 u2)
        refine (empty_any _ _ _).mono ?_
        rintro e w4 ⟨rfl, hk4⟩
        have g2 : w4.cell? ⟨w.heap.size + 1 + 1, 0, none⟩ = some (.int .i64 0) := hk4.cellS (by go_simp)
        have g3 : w4.cell? ⟨w.heap.size + 1 + 1, 1, none⟩ = some (.int .i64 0) := hk4.cellS (by go_simp)
        have g4 : w4.cell? ⟨w.heap.size + 1 + 1 + 1, 0, none⟩ = some (.int .i64 (lo)) := hk4.cellS (by go_simp)
        have g5 : w4.cell? ⟨w.heap.size + 1 + 1 + 1, 1, none⟩ = some (.int .i64 (hi)) := hk4.cellS (by go_simp)
        have g6 : ∀ o, w4.frozen? ⟨w.heap.size + 1 + 1, o, none⟩ = false := fun o => by rw [(kcell hk4).2 _ _ (by simp [World.setCell]; have := hk3.size; omega)]; go_simp
        have hbel4 : Kp w w4 := ((hbel2.trans hk3).set (p := ⟨w.heap.size + 1 + 1 + 1, _, none⟩) (by show _ ≤ _; simp; omega) _).trans hk4
        cases hE : emptyR ⟨lo, hi⟩ with
        | true =>
          have HH : Hid (tightR ⟨ts, bd⟩ b j = ⟨1, 0⟩) := hid (by rw [← HQ'.out, HG.out, hE]; rfl)
          clear hE
          go_wp2
          refine bodyPost_agg2 (by simp [results, Tryz.results84, go_sem, g2, g3]; exact ⟨rfl, rfl⟩) rfl ⟨ret_agg2 (by rw [HH.out]) (by rw [HH.out]), ?_⟩
          exact (hbel4.set (by show _ ≤ _; simp; omega) _).set (by show _ ≤ _; simp; omega) _
        | false =>
          have HH : Hid (tightR ⟨ts, bd⟩ b j = ⟨lo, hi⟩) := hid (by rw [← HQ'.out, HG.out, hE]; rfl)
          clear hE
          go_wp2
          refine bodyPost_agg2 (by simp [results, Tryz.results84, go_sem, g2, g3]; exact ⟨rfl, rfl⟩) rfl ⟨ret_agg2 (by rw [HH.out]) (by rw [HH.out]), ?_⟩
          exact (hbel4.set (by show _ ≤ _; simp; omega) _).set (by show _ ≤ _; simp; omega) _
    · have h0' : 0 < -fa := by omega
      have hn := Int.ediv_neg (bd - s) fa
      obtain ⟨d1, d2⟩ := ediv_bd (bd - s) (-fa) h0' (by omega) (by omega)
      rw [hn] at d1 d2
      have HF2 : Hid (q = if emptyR ⟨max lo ((bd - s) / fa), hi⟩ then ⟨1, 0⟩ else ⟨max lo ((bd - s) / fa), hi⟩) := hid (by rw [HF.out, if_neg h0, hn, Int.neg_neg])
      clear hn HF
      have d3 : -1000000000000000 ≤ (bd - s) / fa := by omega
      have d4 : (bd - s) / fa ≤ 1000000000000000 := by omega
      clear d1 d2
      by_cases hm : lo < (bd - s) / fa
      · have HG : Hid (q = if emptyR ⟨(bd - s) / fa, hi⟩ then ⟨1, 0⟩ else ⟨(bd - s) / fa, hi⟩) := hid (by rw [HF2.out, Int.max_eq_right (by omega)])
        go_wp2
        refine wp_region_kw_tail 9 (by kernel_rfl) (by kernel_rfl) ?_
        simp only [List.take_succ_cons, List.take_zero, List.drop_succ_cons, List.drop_zero]
        repeat (go_big_quiet_step (((go_at_call 70; refine quiet_kw (floor_any _ _ _ (by omega) (by omega) (by omega) (by omega))))))
        refine wpQuiet_nil ?_
        intro _ hw'
        obtain ⟨u2, hw''⟩ := hw'
        subst hw''
        go_wp2_with fail
        have hk3 := (kw_kp w2 u2)
        refine (empty_any _ _ _).mono ?_
        rintro e w4 ⟨rfl, hk4⟩
        have g2 : w4.cell? ⟨w.heap.size + 1 + 1, 0, none⟩ = some (.int .i64 0) := hk4.cellS (by go_simp)
        have g3 : w4.cell? ⟨w.heap.size + 1 + 1, 1, none⟩ = some (.int .i64 0) := hk4.cellS (by go_simp)
        have g4 : w4.cell? ⟨w.heap.size + 1 + 1 + 1, 0, none⟩ = some (.int .i64 ((bd - s) / fa)) := hk4.cellS (by go_simp)
        have g5 : w4.cell? ⟨w.heap.size + 1 + 1 + 1, 1, none⟩ = some (.int .i64 (hi)) := hk4.cellS (by go_simp)
        have g6 : ∀ o, w4.frozen? ⟨w.heap.size + 1 + 1, o, none⟩ = false := fun o => by rw [(kcell hk4).2 _ _ (by simp [World.setCell]; have := hk3.size; omega)]; go_simp
        have hbel4 : Kp w w4 := ((hbel2.trans hk3).set (p := ⟨w.heap.size + 1 + 1 + 1, _, none⟩) (by show _ ≤ _; simp; omega) _).trans hk4
        cases hE : emptyR ⟨(bd - s) / fa, hi⟩ with
        | true =>
          have HH : Hid (tightR ⟨ts, bd⟩ b j = ⟨1, 0⟩) := hid (by rw [← HQ'.out, HG.out, hE]; rfl)
          clear hE
          go_wp2
          refine bodyPost_agg2 (by simp [results, Tryz.results84, go_sem, g2, g3]; exact ⟨rfl, rfl⟩) rfl ⟨ret_agg2 (by rw [HH.out]) (by rw [HH.out]), ?_⟩
          exact (hbel4.set (by show _ ≤ _; simp; omega) _).set (by show _ ≤ _; simp; omega) _
        | false =>
          have HH : Hid (tightR ⟨ts, bd⟩ b j = ⟨(bd - s) / fa, hi⟩) := hid (by rw [← HQ'.out, HG.out, hE]; rfl)
          clear hE
          go_wp2
          refine bodyPost_agg2 (by simp [results, Tryz.results84, go_sem, g2, g3]; exact ⟨rfl, rfl⟩) rfl ⟨ret_agg2 (by rw [HH.out]) (by rw [HH.out]), ?_⟩
          exact (hbel4.set (by show _ ≤ _; simp; omega) _).set (by show _ ≤ _; simp; omega) _
      · have HG : Hid (q = if emptyR ⟨lo, hi⟩ then ⟨1, 0⟩ else ⟨lo, hi⟩) := hid (by rw [HF2.out, Int.max_eq_left (by omega)])
        go_wp2
        refine wp_region_kw_tail 9 (by kernel_rfl) (by kernel_rfl) ?_
        simp only [List.take_succ_cons, List.take_zero, List.drop_succ_cons, List.drop_zero]
        repeat (go_big_quiet_step (((go_at_call 70; refine quiet_kw (floor_any _ _ _ (by omega) (by omega) (by omega) (by omega))))))
        refine wpQuiet_nil ?_
        intro _ hw'
        obtain ⟨u2, hw''⟩ := hw'
        subst hw''
        go_wp2_with fail
        have hk3 := (kw_kp w2 u2)
        refine (empty_any _ _ _).mono ?_
        rintro e w4 ⟨rfl, hk4⟩
        have g2 : w4.cell? ⟨w.heap.size + 1 + 1, 0, none⟩ = some (.int .i64 0) := hk4.cellS (by go_simp)
        have g3 : w4.cell? ⟨w.heap.size + 1 + 1, 1, none⟩ = some (.int .i64 0) := hk4.cellS (by go_simp)
        have g4 : w4.cell? ⟨w.heap.size + 1 + 1 + 1, 0, none⟩ = some (.int .i64 (lo)) := hk4.cellS (by go_simp)
        have g5 : w4.cell? ⟨w.heap.size + 1 + 1 + 1, 1, none⟩ = some (.int .i64 (hi)) := hk4.cellS (by go_simp)
        have g6 : ∀ o, w4.frozen? ⟨w.heap.size + 1 + 1, o, none⟩ = false := fun o => by rw [(kcell hk4).2 _ _ (by simp [World.setCell]; have := hk3.size; omega)]; go_simp
        have hbel4 : Kp w w4 := ((hbel2.trans hk3).set (p := ⟨w.heap.size + 1 + 1 + 1, _, none⟩) (by show _ ≤ _; simp; omega) _).trans hk4
        cases hE : emptyR ⟨lo, hi⟩ with
        | true =>
          have HH : Hid (tightR ⟨ts, bd⟩ b j = ⟨1, 0⟩) := hid (by rw [← HQ'.out, HG.out, hE]; rfl)
          clear hE
          go_wp2
          refine bodyPost_agg2 (by simp [results, Tryz.results84, go_sem, g2, g3]; exact ⟨rfl, rfl⟩) rfl ⟨ret_agg2 (by rw [HH.out]) (by rw [HH.out]), ?_⟩
          exact (hbel4.set (by show _ ≤ _; simp; omega) _).set (by show _ ≤ _; simp; omega) _
        | false =>
          have HH : Hid (tightR ⟨ts, bd⟩ b j = ⟨lo, hi⟩) := hid (by rw [← HQ'.out, HG.out, hE]; rfl)
          clear hE
          go_wp2
          refine bodyPost_agg2 (by simp [results, Tryz.results84, go_sem, g2, g3]; exact ⟨rfl, rfl⟩) rfl ⟨ret_agg2 (by rw [HH.out]) (by rw [HH.out]), ?_⟩
          exact (hbel4.set (by show _ ≤ _; simp; omega) _).set (by show _ ≤ _; simp; omega) _
end Go.Proofs.YtlbhidiliogflaaGreat
namespace Go.Proofs.YtlbhidiliogflaaGreat
set_option linter.unusedSimpArgs false
set_option linter.unusedVariables false
open Go.RowKit

theorem fits_all {b : List Rng} {r : Row} (h : fitsB b.length r = true) : ∀ t ∈ r.terms, okT b.length t ∧ t.factor ≠ 0 := by
  unfold fitsB at h
  rw [Bool.and_eq_true] at h
  obtain ⟨h1, -⟩ := fitsL_ok b.length r.terms (-1) (by omega) h.1
  intro t ht
  have := h1 t ht
  unfold okT
  omega
def tightenB (r : Row) (b : List Rng) (cell : Int) : Rng := if validB b [r] = true ∧ 0 ≤ cell ∧ cell < b.length then tightR r b cell else ⟨0, 0⟩
set_option maxHeartbeats 1000000 in
theorem Tighten_any (vt vb : Value) (r : Row) (b : List Rng) (cell : Int) (w : World) (ht : Terms w vt r.terms) (hb : Rngs w vb b) :
    Calls Tryz.prog 75 #[.agg #[vt, .int .i64 r.bound], vb, .int .i64 cell] w fun e w' => e = .returned (.agg #[.int .i64 (tightenB r b cell).lo, .int .i64 (tightenB r b cell).hi]) ∧ Kp w w' := by
  obtain ⟨A, c, rfl, hc, hm⟩ := ht.form
  obtain ⟨A', c', rfl, hc', hm'⟩ := hb.form
  obtain ⟨ts, bd⟩ := r
  dsimp only at *
  go_enter Tryz.func75, Tryz.ntmps75
  have hk0 := ((Kp.refl w).alloc (.cells #[.slice A ts.length c, .int .i64 bd] 51)).alloc (.cells #[.int .i64 0, .int .i64 0] 57)
  have HR := rowLit ((w.alloc (.cells #[.slice A ts.length c, .int .i64 bd] 51)).alloc (.cells #[.int .i64 0, .int .i64 0] 57)) _ ⟨ts, bd⟩ (ht.keep (pl_stable _) hk0)
  rw [World.size_alloc, World.size_alloc] at HR
  dsimp only at HR
  have hk1 := hk0.alloc (.cells #[.slice A ts.length c, .int .i64 bd] 51)
  go_wp2_with fail
  refine (Valid_any _ _ b _ _ (hb.keep (pl_stable _) hk1) HR).mono ?_
  rintro e w1 ⟨rfl, hk2⟩
  have hbel1 := (hk1).trans hk2
  have c0 : w1.cell? ⟨w.heap.size, 0, none⟩ = some (.slice A ts.length c) := hk2.cellS (by go_simp)
  have c1 : w1.cell? ⟨w.heap.size, 1, none⟩ = some (.int .i64 bd) := hk2.cellS (by go_simp)
  have c2 : w1.cell? ⟨w.heap.size + 1, 0, none⟩ = some (.int .i64 0) := hk2.cellS (by go_simp)
  have c3 : w1.cell? ⟨w.heap.size + 1, 1, none⟩ = some (.int .i64 0) := hk2.cellS (by go_simp)
  have f1 : ∀ o, w1.frozen? ⟨w.heap.size + 1, o, none⟩ = false := fun o => by rw [(kcell hk2).2 _ _ (by simp)]; go_simp
  have hz := hk2.size
  simp only [World.size_alloc] at hz
  clear hk0 HR hk1 hk2
  cases hV : validB b [⟨ts, bd⟩] with
  | false =>
    have HF : Hid (tightenB ⟨ts, bd⟩ b cell = ⟨0, 0⟩) := hid (by simp [tightenB, hV])
    clear hV
    go_wp2
    refine bodyPost_agg2 (by simp [results, Tryz.results75, go_sem, c2, c3]; exact ⟨rfl, rfl⟩) rfl ⟨ret_agg2 (by rw [HF.out]) (by rw [HF.out]), ?_⟩
    exact (hbel1.set (by show _ ≤ _; simp) _).set (by show _ ≤ _; simp) _
  | true =>
    have HV := hid hV
    by_cases h0 : 0 ≤ cell
    · by_cases h1 : cell < b.length
      · have HF : Hid (tightenB ⟨ts, bd⟩ b cell = tightR ⟨ts, bd⟩ b cell) := hid (by unfold tightenB; rw [if_pos ⟨hV, h0, h1⟩])
        obtain ⟨v1, v2, v3⟩ := validB_ok hV
        have v4 := v3 ⟨ts, bd⟩ (by simp)
        obtain ⟨f1', f2, f3, f4⟩ := fitsB_ok v4
        have f5 := fits_all v4
        obtain ⟨j, rfl⟩ := Int.eq_ofNat_of_zero_le h0
        have H1 := hid f5
        have H2 := hid v1
        have H3 : Hid (j < b.length ∧ ts.length ≤ 128) := hid ⟨by omega, by dsimp only at f2; omega⟩
        have H4 := hid (And.intro f3 f4)
        clear hV v1 v2 v3 v4 f1' f2 f3 f4 f5
        go_wp2_with fail
        refine (tighten_any _ _ ⟨ts, bd⟩ b j _ (ht.keep (pl_stable _) hbel1) (hb.keep (pl_stable _) hbel1) H3.out.1 H1.out H2.out H3.out.2 H4.out).mono ?_
        rintro e w2 ⟨rfl, hk3⟩
        have hbel2 := (hbel1).trans hk3
        have d2 := hk3.cellS c2
        have d3 := hk3.cellS c3
        have f2 : ∀ o, w2.frozen? ⟨w.heap.size + 1, o, none⟩ = false := fun o => by rw [(kcell hk3).2 _ _ (by omega)]; exact f1 o
        clear c0 c1 c2 c3 f1 hk3
        go_wp2
        refine bodyPost_agg2 (by simp [results, Tryz.results75, go_sem, d2, d3]; exact ⟨rfl, rfl⟩) rfl ⟨ret_agg2 (by rw [HF.out]) (by rw [HF.out]), ?_⟩
        exact (hbel2.set (by show _ ≤ _; simp) _).set (by show _ ≤ _; simp) _
      · have HF : Hid (tightenB ⟨ts, bd⟩ b cell = ⟨0, 0⟩) := hid (by unfold tightenB; rw [if_neg (by omega)])
        clear hV
        go_wp2
        refine bodyPost_agg2 (by simp [results, Tryz.results75, go_sem, c2, c3]; exact ⟨rfl, rfl⟩) rfl ⟨ret_agg2 (by rw [HF.out]) (by rw [HF.out]), ?_⟩
        exact (hbel1.set (by show _ ≤ _; simp) _).set (by show _ ≤ _; simp) _
    · have HF : Hid (tightenB ⟨ts, bd⟩ b cell = ⟨0, 0⟩) := hid (by unfold tightenB; rw [if_neg (by omega)])
      clear hV
      go_wp2
      refine bodyPost_agg2 (by simp [results, Tryz.results75, go_sem, c2, c3]; exact ⟨rfl, rfl⟩) rfl ⟨ret_agg2 (by rw [HF.out]) (by rw [HF.out]), ?_⟩
      exact (hbel1.set (by show _ ≤ _; simp) _).set (by show _ ≤ _; simp) _

/-! Clone -/
theorem stRange : SliceT Tryz.prog 22 57 2 16 := SliceT.mk' Tryz.underlying22 (z := .agg #[.int .i64 0, .int .i64 0]) (by kernel_rfl) rfl (by omega)
theorem stInt : SliceT Tryz.prog 30 3 1 8 := SliceT.mk' Tryz.underlying30 (z := .int .i64 0) (by kernel_rfl) rfl (by omega)
set_option maxHeartbeats 1000000 in
theorem CloneRange_any (v : Value) (l : List Rng) (w : World) (hS : Rngs w v l) (hl : l.length ≤ 1000000000) :
    Calls Tryz.prog 21 #[v] w fun e w' => ∃ v', e = .returned v' ∧ Own encRng 57 2 w.heap.size w' v' l ∧ Kp w w' := by
  obtain ⟨A, c, rfl, hc, hm⟩ := hS.form
  rcases A with _ | A
  · have hl0 : l = [] := by
      cases l with
      | nil => rfl
      | cons x l =>
        obtain ⟨_, _, _, hA, _⟩ := hS.at_ (k := 0) (by simp)
        cases hA
    subst hl0
    rw [List.length_nil]
    have hnil := fun (W : World) => Lib.run_eql_slice_nil (P := Tryz.prog) W 22 57 none 0 c 0 0 Tryz.underlying22
    go_enter Tryz.func21, Tryz.ntmps21
    go_wp2
    go_ret
    exact ⟨_, rfl, Own.nil _ _ _ _ _, Kp.refl _⟩
  · have hnil := fun (W : World) => Lib.run_eql_slice_nil (P := Tryz.prog) W 22 57 (some A) l.length c 0 0 Tryz.underlying22
    go_enter Tryz.func21, Tryz.ntmps21
    go_wp2_with (at_builtin; refine wpl_append_flat rfl (.tmp 5) (.tmp 6) rfl stRange encRng_len encRng_one rfl (Own.lit (base := w.heap.size) encRng w #[] [] (Nat.le_refl _) (by simp) rfl rfl) rfl (hS.keep (pl_stable _) ((Kp.refl w).alloc _)) (by simp; omega) (by simp; omega) (by simp) ?_; intro v' w' hown hgrow hat hnil')
    go_ret
    exact ⟨_, rfl, by simpa using hown, ((Kp.refl w).alloc _).grown hgrow (fun k hk => by cases hk; exact Nat.le_refl _)⟩
set_option maxHeartbeats 1000000 in
theorem CloneInt_any (v : Value) (l : List Int) (w : World) (hS : Ints w v l) (hl : l.length ≤ 1000000000) :
    Calls Tryz.prog 34 #[v] w fun e w' => ∃ v', e = .returned v' ∧ Own encInt 3 1 w.heap.size w' v' l ∧ Kp w w' := by
  obtain ⟨A, c, rfl, hc, hm⟩ := hS.form
  rcases A with _ | A
  · have hl0 : l = [] := by
      cases l with
      | nil => rfl
      | cons x l =>
        obtain ⟨_, _, _, hA, _⟩ := hS.at_ (k := 0) (by simp)
        cases hA
    subst hl0
    rw [List.length_nil]
    have hnil := fun (W : World) => Lib.run_eql_slice_nil (P := Tryz.prog) W 30 3 none 0 c 0 0 Tryz.underlying30
    go_enter Tryz.func34, Tryz.ntmps34
    go_wp2
    go_ret
    exact ⟨_, rfl, Own.nil _ _ _ _ _, Kp.refl _⟩
  · have hnil := fun (W : World) => Lib.run_eql_slice_nil (P := Tryz.prog) W 30 3 (some A) l.length c 0 0 Tryz.underlying30
    go_enter Tryz.func34, Tryz.ntmps34
    go_wp2_with (at_builtin; refine wpl_append_flat rfl (.tmp 5) (.tmp 6) rfl stInt encInt_len encInt_one rfl (Own.lit (base := w.heap.size) encInt w #[] [] (Nat.le_refl _) (by simp) rfl rfl) rfl (hS.keep (pl_stable _) ((Kp.refl w).alloc _)) (by simp; omega) (by simp; omega) (by simp) ?_; intro v' w' hown hgrow hat hnil')
    go_ret
    exact ⟨_, rfl, by simpa using hown, ((Kp.refl w).alloc _).grown hgrow (fun k hk => by cases hk; exact Nat.le_refl _)⟩
end Go.Proofs.YtlbhidiliogflaaGreat
namespace Go.Proofs.YtlbhidiliogflaaGreat
set_option linter.unusedSimpArgs false
set_option linter.unusedVariables false
open Go.RowKit

def nextF (b : List Rng) : List Int → Nat → Option (List Int)
  | _, 0 => none
  | out, i + 1 => if out.getD i 0 < (pick b i).hi then some (out.set i (out.getD i 0 + 1)) else nextF b (out.set i (pick b i).lo) i
def nextB (b : List Rng) (vs : List Int) : Option (List Int) := if boxB b = true ∧ containsB b vs = true then nextF b vs vs.length else none
theorem ret_next {v v' : Value} {a b : Bool} (h : v = v') (h' : a = b) : Ending.returned (.tuple #[v, .bool a]) = .returned (.tuple #[v', .bool b]) := by rw [h, h']
theorem contL_at : ∀ (b : List Rng) (vs : List Int), b.length = vs.length → contL b vs = true → ∀ k, k < vs.length → ¬ badV (pick b k) (vs.getD k 0)
  | [], [], _, _, k, hk => absurd hk (by simp)
  | r :: b, x :: vs, hl, h, k, hk => by
    unfold contL at h
    split at h
    · simp at h
    · rename_i hb
      cases k with
      | zero => simpa [pick] using hb
      | succ k =>
        have := contL_at b vs (by simpa using hl) h k (by simpa using hk)
        simpa [pick] using this
set_option maxHeartbeats 2000000 in
theorem Next_any (vb vv : Value) (b : List Rng) (vs : List Int) (w : World) (hb : Rngs w vb b) (hv : Ints w vv vs) :
    Calls Tryz.prog 32 #[vb, vv] w fun e w' => ∃ v', e = .returned (.tuple #[v', .bool (nextB b vs).isSome]) ∧ Own encInt 3 1 w.heap.size w' v' ((nextB b vs).getD []) ∧ Kp w w' := by
  obtain ⟨A, c, rfl, hc, hm⟩ := hb.form
  obtain ⟨A', c', rfl, hc', hm'⟩ := hv.form
  go_enter Tryz.func32, Tryz.ntmps32
  go_wp2_with fail
  refine (box_any _ b _ hb).mono ?_
  rintro e w1 ⟨rfl, hk1⟩
  have hbel1 := ((Kp.refl _)).trans hk1
  cases hB : boxB b with
  | false =>
    have HF : Hid (nextB b vs = none) := hid (by simp [nextB, hB])
    clear hB
    go_wp2
    go_ret2
    exact ⟨_, ret_next rfl (by rw [HF.out]; rfl), by rw [HF.out]; exact Own.nil _ _ _ _ _, hbel1⟩
  | true =>
    have HB := hid hB
    clear hB
    go_wp2_with fail
    refine (Contains_any _ _ b vs _ (hb.keep (pl_stable _) hbel1) (hv.keep (pl_stable _) hbel1)).mono ?_
    rintro e w2 ⟨rfl, hk2⟩
    have hbel2 := (hbel1).trans hk2
    cases hC : containsB b vs with
    | false =>
      have HF : Hid (nextB b vs = none) := hid (by simp [nextB, hC])
      clear hC
      go_wp2
      go_ret2
      exact ⟨_, ret_next rfl (by rw [HF.out]; rfl), by rw [HF.out]; exact Own.nil _ _ _ _ _, hbel2⟩
    | true =>
      have HF : Hid (nextB b vs = nextF b vs vs.length) := hid (by simp [nextB, hC, HB.out])
      obtain ⟨hall, h128⟩ := boxB_all HB.out
      have HA := hid hall
      have hlen : b.length = vs.length := by
        unfold containsB at hC
        rw [Bool.and_eq_true] at hC
        simpa using hC.1
      have HL := hid hlen
      have l1 : vs.length ≤ 128 := by omega
      have HCT : Hid (∀ k, k < vs.length → ¬ badV (pick b k) (vs.getD k 0)) := hid (contL_at b vs hlen (by unfold containsB at hC; rw [Bool.and_eq_true] at hC; exact hC.2))
      clear hC hall hlen h128
      go_wp2_with fail
      refine (CloneInt_any _ vs _ (hv.keep (pl_stable _) hbel2) (by omega)).mono ?_
      rintro e w3 ⟨v3, rfl, hown0, hk3⟩
      have hbel3 := hbel2.trans hk3
      have hown := hown0.less (base' := w.heap.size) hbel2.size
      obtain ⟨A3, c3, rfl, h31, h32⟩ := hown.form
      clear hown0 hk1 hk2 hk3
      go_wp2
      go_loopw [7] (fun i wr => ∃ (j : Nat) (out : List Int), j ≤ vs.length ∧ i = .int .i64 ((j : Int) - 1) ∧ Hid (out.length = vs.length) ∧ Hid (∀ k, k < j → out.getD k 0 = vs.getD k 0) ∧ Own encInt 3 1 w.heap.size wr (.slice A3 vs.length c3) out ∧ Hid (nextB b vs = nextF b out j) ∧ Kp w wr) (fun i _ => (intOf i + 1).toNat)
      case atStart => exact ⟨vs.length, vs, Nat.le_refl _, rfl, rfl, fun _ _ => rfl, hown, HF, hbel3⟩
      case round =>
        obtain ⟨j, out, hj, rfl, HO, HS, hownr, HN, hbel⟩ := hrel
        rcases j with _ | k
        · have HE : Hid (nextB b vs = none) := hid (by rw [HN.out, nextF])
          go_wp2
          go_ret2
          exact ⟨_, ret_next rfl (by rw [HE.out]; rfl), by rw [HE.out]; exact Own.nil _ _ _ _ _, hbel⟩
        · have hku : k < vs.length := by omega
          have hko : k < out.length := by rw [HO.out]; exact hku
          have hkb : k < b.length := by rw [HL.out]; exact hku
          have hi : (((k + 1 : Nat) : Int) - 1) = (k : Int) := by omega
          rw [hi]
          obtain ⟨g, rfl, hg1, hg2⟩ := hownr.at_ (by omega)
          have x1 := hownr.intCell HO.out.symm hko
          have x2 := hownr.frozen HO.out.symm k
          obtain ⟨g', o', rfl, hg', y1', y2'⟩ := hb.rng hkb
          have y1 := hbel.cellS y1'
          have y2 := hbel.cellS y2'
          have hne : g' ≠ g := by omega
          have hg3 : g' < wr.heap.size := by have := hbel.size; omega
          have HP := hid (pick_at b k hkb)
          have hnb := not_bad (HA.out b[k] (List.getElem_mem hkb))
          have hnv := HCT.out k hku
          rw [← HS.out k (by omega), HP.out] at hnv
          have HQ : Hid (out.getD k 0 = out[k]) := hid (by simp [List.getD, hko])
          rw [HQ.out] at hnv
          have HX : Hid (nextF b out (k + 1) = if out[k] < b[k].hi then some (out.set k (out[k] + 1)) else nextF b (out.set k b[k].lo) k) := hid (by rw [nextF, HQ.out, HP.out])
          have s1 := hownr.intSet HO.out.symm hko (out[k] + 1)
          have s2 := hownr.intSet HO.out.symm hko b[k].lo
          have S1 := hid s1
          have S2 := hid s2
          clear y1' y2' hb hv hown hownr HQ HP s1 s2
          generalize out[k] = x at *
          generalize b[k] = r at *
          obtain ⟨lo, hi'⟩ := r
          dsimp only at y1 y2 hnb
          unfold badV at hnv
          dsimp only at hnv
          obtain ⟨n1, n2, n3, n4⟩ := hnb
          have m1 : lo ≤ x := by omega
          have m2 : x ≤ hi' := by omega
          have q1 : (0 : Int) ≤ k := by omega
          have q2 : (k : Int) < vs.length := by omega
          have q3 : (k : Int) < b.length := by omega
          clear hnv hi
          by_cases hx : x < hi'
          · have HE : Hid (nextB b vs = some (out.set k (x + 1))) := hid (by rw [HN.out, HX.out, if_pos hx])
            go_wp2
            go_quiet (fail)
            go_wp2
            go_ret2
            exact ⟨_, ret_next rfl (by rw [HE.out]; rfl), by rw [HE.out]; exact Own.less S1.out (Nat.le_refl _), (hbel.drewN _).set (p := ⟨g, k, none⟩) hg1 _⟩
          · have HE : Hid (nextB b vs = nextF b (out.set k lo) k) := hid (by rw [HN.out, HX.out, if_neg hx])
            go_wp2
            go_quiet (fail)
            go_wp2
            go_roundw
            case rel => exact ⟨k, out.set k lo, by omega, by go_num, hid (by rw [List.length_set]; exact HO.out), hid (fun k' hk' => by rw [← HS.out k' (by omega)]; simp [List.getD, show k ≠ k' by omega]), S2.out, HE, (hbel.drewN _).set (p := ⟨g, k, none⟩) hg1 _⟩
            case measure => simp [intOf]
end Go.Proofs.YtlbhidiliogflaaGreat
namespace Go.Proofs.YtlbhidiliogflaaGreat
set_option linter.unusedSimpArgs false
set_option linter.unusedVariables false
open Go.RowKit

section
variable {e base : Nat} {w : World} {g n c : Nat} {l : List Rng}
theorem Own.rngCell (h : Own encRng e 2 base w (.slice (some ⟨g, 0, none⟩) n c) l) (hn : n = l.length) {k : Nat} (hk : k < l.length) :
    w.cell? ⟨g, k * 2, none⟩ = some (.int .i64 l[k].lo) ∧ w.cell? ⟨g, k * 2 + 1, none⟩ = some (.int .i64 l[k].hi) := by
  have h0 := h.cellAt encRng_len hn hk (j := 0) (by omega)
  have h1 := h.cellAt encRng_len hn hk (j := 1) (by omega)
  exact ⟨by simpa [encRng] using h0, by simpa [encRng] using h1⟩
theorem Own.rngSet (h : Own encRng e 2 base w (.slice (some ⟨g, 0, none⟩) n c) l) (hn : n = l.length) {k : Nat} (hk : k < l.length) (x : Rng) :
    Own encRng e 2 base ((w.setCell ⟨g, k * 2, none⟩ (.int .i64 x.lo)).setCell ⟨g, k * 2 + 1, none⟩ (.int .i64 x.hi)) (.slice (some ⟨g, 0, none⟩) n c) (l.set k x) := by
  subst hn
  have h1 := Own.set (k := k) (j := 0) (u := .int .i64 x.lo) (x := ⟨x.lo, l[k].hi⟩) encRng_len h hk (by omega) (fun _ => rfl)
  have h2 := Own.set (l := l.set k ⟨x.lo, l[k].hi⟩) (g := g) (c := c) (k := k) (j := 1) (u := .int .i64 x.hi) (x := x) encRng_len (by simpa using h1) (by simpa using hk) (by omega) (fun _ => by simp [encRng])
  simpa using h2
end

/-! what the code computes -/
abbrev RngEq (a b : Rng) : Prop := a.lo = b.lo ∧ a.hi = b.hi
def termsPass (r : Row) : List Term → List Rng → Bool → Option (List Rng × Bool)
  | [], out, ch => some (out, ch)
  | t :: ts, out, ch =>
    let x := tightR r out t.cell
    if emptyR x then none
    else if RngEq x (pick out t.cell) then termsPass r ts out ch
    else termsPass r ts (out.set t.cell.toNat x) true
def rowsPass : List Row → List Rng → Bool → Option (List Rng × Bool)
  | [], out, ch => some (out, ch)
  | r :: rs, out, ch => match termsPass r r.terms out ch with
    | none => none
    | some (o, c) => rowsPass rs o c
def fixF (rows : List Row) : Nat → List Rng → Option (List Rng)
  | 0, _ => none
  | n + 1, out => match rowsPass rows out false with
    | none => none
    | some (o, false) => some o
    | some (o, true) => fixF rows n o
def width : List Rng → Nat
  | [] => 0
  | r :: l => (r.hi - r.lo).toNat + width l
def noSol (rows : List Row) : Bool := rows.any fun r => r.terms.isEmpty && decide (r.bound < 0)
def fixB (b : List Rng) (rows : List Row) : Option (List Rng) :=
  if validB b rows = true ∧ b.any emptyR = false ∧ noSol rows = false then fixF rows (width b + 1) b else none

theorem tight_sub (r : Row) (b : List Rng) (cell : Int) (h : emptyR (tightR r b cell) = false) :
    (pick b cell).lo ≤ (tightR r b cell).lo ∧ (tightR r b cell).lo ≤ (tightR r b cell).hi ∧ (tightR r b cell).hi ≤ (pick b cell).hi := by
  have h0 : (tightR r b cell).lo ≤ (tightR r b cell).hi := by unfold emptyR at h; simpa using h
  unfold tightR at h h0 ⊢
  cases hf : r.terms.find? (fun t => t.cell == cell) with
  | none => rw [hf] at h0; exact ⟨Int.le_refl _, h0, Int.le_refl _⟩
  | some t =>
    rw [hf] at h h0
    dsimp only at h h0 ⊢
    by_cases h1 : 0 < t.factor
    · simp only [h1, if_true] at h h0 ⊢
      split at h
      · simp [emptyR] at h
      · rename_i he
        simp only [he, Bool.false_eq_true, if_false] at h0 ⊢
        exact ⟨Int.le_refl _, h0, Int.min_le_left _ _⟩
    · simp only [h1, if_false] at h h0 ⊢
      split at h
      · simp [emptyR] at h
      · rename_i he
        simp only [he, Bool.false_eq_true, if_false] at h0 ⊢
        exact ⟨Int.le_max_left _ _, h0, Int.le_refl _⟩
theorem width_set : ∀ (l : List Rng) (k : Nat) (x : Rng), k < l.length → (pick l k).lo ≤ x.lo → x.lo ≤ x.hi → x.hi ≤ (pick l k).hi → ¬ RngEq x (pick l k) → width (l.set k x) < width l
  | [], k, _, hk, _, _, _, _ => absurd hk (by simp)
  | r :: l, 0, x, _, h1, h2, h3, h4 => by
    simp only [List.set_cons_zero, width]
    simp [pick, RngEq] at h1 h3 h4
    omega
  | r :: l, k + 1, x, hk, h1, h2, h3, h4 => by
    simp only [List.set_cons_succ, width]
    have := width_set l k x (by simpa using hk) (by simpa [pick] using h1) h2 (by simpa [pick] using h3) (by simpa [pick] using h4)
    omega
end Go.Proofs.YtlbhidiliogflaaGreat
namespace Go.Proofs.YtlbhidiliogflaaGreat
set_option linter.unusedSimpArgs false
set_option linter.unusedVariables false
open Go.RowKit

def noSolR (r : Row) : Bool := r.terms.isEmpty && decide (r.bound < 0)
/-- the boxes that occur: all of their ranges are small, and none is empty -/
def fineBox (n : Nat) (out : List Rng) : Prop := out.length = n ∧ (∀ r ∈ out, ¬ bad r) ∧ ∀ r ∈ out, r.lo ≤ r.hi
theorem fineBox_set {n k : Nat} {out : List Rng} {x : Rng} (h : fineBox n out) (hk : k < n) (h1 : (pick out k).lo ≤ x.lo) (h2 : x.lo ≤ x.hi) (h3 : x.hi ≤ (pick out k).hi) : fineBox n (out.set k x) := by
  obtain ⟨hl, hb, he⟩ := h
  have hk' : k < out.length := by omega
  rw [pick_at out k hk'] at h1 h3
  have hx := not_bad (hb out[k] (List.getElem_mem hk'))
  refine ⟨by rw [List.length_set]; exact hl, fun r hr => ?_, fun r hr => ?_⟩
  · rcases List.mem_or_eq_of_mem_set hr with hr | rfl
    · exact hb r hr
    · unfold bad; omega
  · rcases List.mem_or_eq_of_mem_set hr with hr | rfl
    · exact he r hr
    · exact h2

theorem fitsn_all {n : Nat} {r : Row} (h : fitsB n r = true) : ∀ t ∈ r.terms, okT n t ∧ t.factor ≠ 0 := by
  unfold fitsB at h
  rw [Bool.and_eq_true] at h
  obtain ⟨h1, -⟩ := fitsL_ok n r.terms (-1) (by omega) h.1
  intro t ht
  have := h1 t ht
  unfold okT
  omega
def rngNe (a b c d : Int) : Bool := !(a == c && b == d)
set_option maxRecDepth 100000 in
theorem run_neq_rng (w : World) (a b c d : Int) : (binOp .neq 57 (.agg #[.int .i64 a, .int .i64 b]) (.agg #[.int .i64 c, .int .i64 d])).run Tryz.prog w = .ok (.bool (rngNe a b c d)) w := by
  unfold rngNe
  have hu : Tryz.prog.underlying 57 = some (.struct (Tryz.prog.fieldsOf 57)) := by kernel_rfl
  have hf := run_equalIn_struct (P := Tryz.prog) w 9999 57 #[.int .i64 a, .int .i64 b] #[.int .i64 c, .int .i64 d] hu (by kernel_rfl)
  simp only [binOp]
  have hfs : (Tryz.prog.fieldsOf 57).toList = (match Tryz.prog.underlying 57 with | some (.struct fs) => fs.toList | _ => []) := rfl
  rw [Tryz.underlying57] at hfs
  simp only [Op.equal, Op.maxDepth, Sem.run_bind, hf, hfs]
  go_simp
  by_cases h1 : a = c
  · by_cases h2 : b = d <;> simp [h1, h2]
  · simp [h1]
end Go.Proofs.YtlbhidiliogflaaGreat
