
/-
What Tighten returns, for any input.
-/
import Derived.Test.YtmecjjfpgjpeoaaInt5
namespace Go.Proofs.Ytmecjjfpgjpeoaa
open Go.RowKit

set_option maxHeartbeats 400000 in
theorem tighten1_any (g : Nat) (cell ce fa : Int) (w : World) (hg : w.cell? ⟨g, 0, none⟩ = some (.int .i64 cell)) :
    Calls Try.prog 63 #[.agg #[.int .i64 ce, .int .i64 fa], .pointer (some ⟨g, 0, none⟩)] w fun e w' => e = .returned (.bool (ce == cell)) ∧ Kp w w' := by
  have hgl : g < w.heap.size := block_lt_of_cell hg
  go_enter Try.func63, Try.ntmps63
  go_wp2
  go_ret
  exact ⟨rfl, (Kp.refl w).alloc _⟩
theorem tighten1_real : Real Try.prog 63 := ⟨_, Try.func63, by kernel_rfl, by kernel_rfl⟩

theorem idxF_find {α : Type} (p : α → Bool) : ∀ (k : Nat) (l : List α), (idxF p k l = -1 ∧ l.find? p = none) ∨ ∃ (i : Nat) (h : i < l.length), idxF p k l = ((k + i : Nat) : Int) ∧ l.find? p = some l[i]
  | k, [] => .inl ⟨rfl, rfl⟩
  | k, x :: l => by
    unfold idxF
    by_cases hp : p x = true
    · exact .inr ⟨0, by simp, by rw [if_pos hp]; rfl, by simp [hp]⟩
    · rw [if_neg hp]
      rcases idxF_find p (k + 1) l with ⟨h1, h2⟩ | ⟨i, h, h1, h2⟩
      · exact .inl ⟨h1, by simp [hp, h2]⟩
      · exact .inr ⟨i + 1, by simpa using h, by rw [h1]; congr 1; omega, by simp [hp, h2]⟩

def tightR (r : Row) (b : List Rng) (cell : Int) : Rng :=
  match r.terms.find? (fun t => t.cell == cell) with
  | none => pick b cell
  | some t =>
    let rest := r.bound - boundL b cell 1 0 r.terms
    let o : Rng := if 0 < t.factor then ⟨(pick b cell).lo, min (pick b cell).hi (rest / t.factor)⟩ else ⟨max (pick b cell).lo (-(rest / -t.factor)), (pick b cell).hi⟩
    if emptyR o then ⟨1, 0⟩ else o
theorem boundL_bd (b : List Rng) (without sign : Int) (hbox : ∀ r ∈ b, ¬ bad r) : ∀ (l : List Term) (acc : Int), (∀ t ∈ l, okT b.length t) → acc - 1000000000 * l.length ≤ boundL b without sign acc l ∧ boundL b without sign acc l ≤ acc + 1000000000 * l.length
  | [], acc, _ => by simp [boundL]
  | t :: l, acc, hok => by
    obtain ⟨o1, o2, o3, o4⟩ := hok t (by simp)
    have h := boundL_bd b without sign hbox l (acc + termV b without sign t) (fun t ht => hok t (by simp [ht]))
    have hv : -1000000000 ≤ termV b without sign t ∧ termV b without sign t ≤ 1000000000 := by
      obtain ⟨j, hj⟩ := Int.eq_ofNat_of_zero_le o1
      have hjl : j < b.length := by omega
      have hp := not_bad (hbox b[j] (List.getElem_mem hjl))
      unfold termV
      rw [hj, pick_at b j hjl]
      have m1 := mul_bd t.factor b[j].lo o3 o4 hp.1 hp.2.1
      have m2 := mul_bd t.factor b[j].hi o3 o4 hp.2.2.1 hp.2.2.2
      split
      · omega
      · split <;> omega
    unfold boundL
    rw [List.length_cons]
    omega

set_option maxHeartbeats 4000000 in
theorem tighten_any (vt vb : Value) (r : Row) (b : List Rng) (j : Nat) (w : World) (ht : Terms w vt r.terms) (hb : Rngs w vb b)
    (hj : j < b.length) (hok : ∀ t ∈ r.terms, okT b.length t ∧ t.factor ≠ 0) (hbox : ∀ r ∈ b, ¬ bad r) (hl : r.terms.length ≤ 128) (hbd : -1000000000 ≤ r.bound ∧ r.bound ≤ 1000000000) :
    Calls Try.prog 55 #[.agg #[vt, .int .i64 r.bound], vb, .int .i64 j] w fun e w' => e = .returned (.agg #[.int .i64 (tightR r b j).lo, .int .i64 (tightR r b j).hi]) ∧ Kp w w' := by
  obtain ⟨A, c, rfl, hc, hm⟩ := ht.form
  obtain ⟨A', c', rfl, hc', hm'⟩ := hb.form
  obtain ⟨ts, bd⟩ := r
  dsimp only at *
  obtain ⟨hbd1, hbd2⟩ := hbd
  obtain ⟨g', o', rfl, hg', h1, h2⟩ := hb.rng hj
  have HP := hid (pick_at b j hj)
  have hnb := not_bad (hbox b[j] (List.getElem_mem hj))
  generalize b[j] = x at *
  obtain ⟨lo, hi⟩ := x
  dsimp only at h1 h2 hnb
  obtain ⟨n1, n2, n3, n4⟩ := hnb
  have HOK := hid (fun t ht => (hok t ht).1)
  have HNZ := hid (fun t ht => (hok t ht).2)
  have HBX := hid hbox
  obtain ⟨bb1, bb2⟩ := boundL_bd b j 1 hbox ts 0 (fun t ht => (hok t ht).1)
  have HFD := hid (idxF_find (fun t : Term => t.cell == (j : Int)) 0 ts)
  have HT : Hid (tightR ⟨ts, bd⟩ b j = match ts.find? (fun t => t.cell == (j : Int)) with
    | none => (⟨lo, hi⟩ : Rng)
    | some t =>
      let rest := bd - boundL b j 1 0 ts
      let o : Rng := if 0 < t.factor then ⟨lo, min hi (rest / t.factor)⟩ else ⟨max lo (-(rest / -t.factor)), hi⟩
      if emptyR o then ⟨1, 0⟩ else o) := hid (by unfold tightR; rw [HP.out])
  clear hok hbox
  have y1 : g' < w.heap.size + 1 := by omega
  have y2 : g' < w.heap.size + 1 + 1 := by omega
  have y3 : g' < w.heap.size + 1 + 1 + 1 := by omega
  go_enter Try.func55, Try.ntmps55
  go_wp2_with fail
  have hkA := ((((Kp.refl w).alloc (.cells #[.slice A ts.length c, .int .i64 bd] 41)).alloc (.cells #[.int .i64 j] 3)).alloc (.cells #[.int .i64 0, .int .i64 0] 27)).alloc (.cells #[.int .i64 lo, .int .i64 hi] 27)
  refine (IndexFuncTerm_any (fun t => t.cell == (j : Int)) 63 [.pointer (some ⟨w.heap.size + 1, 0, none⟩)] _ ts _ (ht.keep (pl_stable _) hkA) tighten1_real (fun w' ce fa hk => tighten1_any _ j ce fa w' (hk.cellS (by go_simp)))).mono ?_
  rintro e w1 ⟨rfl, hk1⟩
  have hbel1 := hkA.trans hk1
  have hz := hk1.size
  simp only [World.size_alloc] at hz
  have z0 : w.heap.size < w1.heap.size := by omega
  have z1 : w.heap.size + 1 < w1.heap.size := by omega
  have z2 : w.heap.size + 1 + 1 < w1.heap.size := by omega
  have z3 : w.heap.size + 1 + 1 + 1 < w1.heap.size := by omega
  have c0 : w1.cell? ⟨w.heap.size, 0, none⟩ = some (.slice A ts.length c) := hk1.cellS (by go_simp)
  have c1 : w1.cell? ⟨w.heap.size, 1, none⟩ = some (.int .i64 bd) := hk1.cellS (by go_simp)
  have c2 : w1.cell? ⟨w.heap.size + 1, 0, none⟩ = some (.int .i64 j) := hk1.cellS (by go_simp)
  have c3 : w1.cell? ⟨w.heap.size + 1 + 1, 0, none⟩ = some (.int .i64 0) := hk1.cellS (by go_simp)
  have c4 : w1.cell? ⟨w.heap.size + 1 + 1, 1, none⟩ = some (.int .i64 0) := hk1.cellS (by go_simp)
  have c5 : w1.cell? ⟨w.heap.size + 1 + 1 + 1, 0, none⟩ = some (.int .i64 lo) := hk1.cellS (by go_simp)
  have c6 : w1.cell? ⟨w.heap.size + 1 + 1 + 1, 1, none⟩ = some (.int .i64 hi) := hk1.cellS (by go_simp)
  have f3 : ∀ o, w1.frozen? ⟨w.heap.size + 1 + 1, o, none⟩ = false := fun o => by rw [(kcell hk1).2 _ _ (by simp)]; go_simp
  have f5 : ∀ o, w1.frozen? ⟨w.heap.size + 1 + 1 + 1, o, none⟩ = false := fun o => by rw [(kcell hk1).2 _ _ (by simp)]; go_simp
  rcases HFD.out with ⟨hi1, hi2⟩ | ⟨i, hil, hi1, hi2⟩
  · rw [hi1]
    have HF : Hid (tightR ⟨ts, bd⟩ b j = ⟨lo, hi⟩) := hid (by rw [HT.out, hi2])
    clear hi1 hi2 hkA hk1
    go_wp2
    refine bodyPost_agg2 (by simp [results, Try.results55, go_sem, c3, c4]; exact ⟨rfl, rfl⟩) rfl ⟨ret_agg2 (by rw [HF.out]) (by rw [HF.out]), ?_⟩
    exact (hbel1.set (by show _ ≤ _; simp; omega) _).set (by show _ ≤ _; simp; omega) _
  · rw [hi1, Nat.zero_add]
    obtain ⟨gt, ot, rfl, hgt, t1, t2⟩ := (ht.keep (pl_stable _) hbel1).term hil
    have HNZi := hid (HNZ.out ts[i] (List.getElem_mem hil))
    obtain ⟨o1, o2, o3, o4⟩ := HOK.out ts[i] (List.getElem_mem hil)
    have HF := hid (hi2 ▸ HT.out)
    have htS := ht.keep (pl_stable _) hbel1
    have hbS := hb.keep (pl_stable _) hbel1
    generalize ts[i] = t at *
    obtain ⟨ce, fa⟩ := t
    dsimp only at t1 t2 o1 o2 o3 o4
    clear hi1 hi2 hkA hk1 ht hb HFD HT HNZ HP h1 h2
    have q1 : (0 : Int) ≤ i := by omega
    have q2 : (i : Int) < ts.length := by omega
    go_wp2
    refine wp_region_kw (by kernel_rfl) (by kernel_rfl) ?_
    repeat (go_big_quiet_step (((go_at_call 53; refine quiet_kw (bound_any _ _ ts _ b _ _ _ (htS.keep (pl_stable _) (kw_kp _ _)) (hbS.keep (pl_stable _) (kw_kp _ _)) (by simp) HOK.out HBX.out hl)))))
    refine wpQuiet_nil ?_
    intro _ hw'
    obtain ⟨u, hw''⟩ := hw'
    subst hw''
    have hk2 := kw_kp w1 u
    generalize Kw w1 u = w2 at *
    have hz2 := hk2.size
    have e2 : w2.cell? ⟨w.heap.size + 1 + 1, 0, none⟩ = some (.int .i64 0) := hk2.cellS c3
    have e3 : w2.cell? ⟨w.heap.size + 1 + 1, 1, none⟩ = some (.int .i64 0) := hk2.cellS c4
    have e5 : w2.cell? ⟨w.heap.size + 1 + 1 + 1, 0, none⟩ = some (.int .i64 lo) := hk2.cellS c5
    have e6 : w2.cell? ⟨w.heap.size + 1 + 1 + 1, 1, none⟩ = some (.int .i64 hi) := hk2.cellS c6
    have e7 : ∀ o, w2.frozen? ⟨w.heap.size + 1 + 1, o, none⟩ = false := fun o => by rw [(kcell hk2).2 _ _ z2]; exact f3 o
    have e8 : ∀ o, w2.frozen? ⟨w.heap.size + 1 + 1 + 1, o, none⟩ = false := fun o => by rw [(kcell hk2).2 _ _ z3]; exact f5 o
    have hbel2 := hbel1.trans hk2
    have y2 : w.heap.size + 1 + 1 < w2.heap.size := by omega
    have y3 : w.heap.size + 1 + 1 + 1 < w2.heap.size := by omega
    clear c0 c1 c2 c3 c4 c5 c6 f3 f5 htS hbS t1 t2 HOK HBX
    generalize boundL b j 1 0 ts = s at *
    have s1 : -128000000000 ≤ s := by omega
    have s2 : s ≤ 128000000000 := by omega
    clear bb1 bb2
    have hnz : fa ≠ 0 := HNZi.out
    clear HNZi
    obtain ⟨q, HQ⟩ : ∃ q, q = tightR ⟨ts, bd⟩ b j := ⟨_, rfl⟩
    rw [← HQ] at HF
    have HQ' := hid HQ
    clear HQ
    by_cases h0 : 0 < fa
    · obtain ⟨d1, d2⟩ := ediv_bd (bd - s) fa h0 (by omega) (by omega)
      by_cases hm : (bd - s) / fa < hi
      · have HG : Hid (q = if emptyR ⟨lo, (bd - s) / fa⟩ then ⟨1, 0⟩ else ⟨lo, (bd - s) / fa⟩) := hid (by rw [HF.out, if_pos h0, Int.min_eq_right (by omega)])
        go_wp2
        refine wp_region_kw_tail 7 (by kernel_rfl) (by kernel_rfl) ?_
        simp only [List.take_succ_cons, List.take_zero, List.drop_succ_cons, List.drop_zero]
        repeat (go_big_quiet_step (((go_at_call 43; refine quiet_kw (floor_any _ _ _ (by omega) (by omega) (by omega) (by omega))))))
        refine wpQuiet_nil ?_
        intro _ hw'
        obtain ⟨u2, hw''⟩ := hw'
        subst hw''
        go_wp2_with fail
        have hk3 := (kw_kp w2 u2)
        refine (empty_any _ _ _).mono ?_
        rintro e w4 ⟨rfl, hk4⟩
        have g2 : w4.cell? ⟨w.heap.size + 1 + 1, 0, none⟩ = some (.int .i64 0) := hk4.cellS (by go_simp)
        have g3 : w4.cell? ⟨w.heap.size + 1 + 1, 1, none⟩ = some (.int .i64 0) := hk4.cellS (by go_simp)
        have g4 : w4.cell? ⟨w.heap.size + 1 + 1 + 1, 0, none⟩ = some (.int .i64 (lo)) := hk4.cellS (by go_simp)
        have g5 : w4.cell? ⟨w.heap.size + 1 + 1 + 1, 1, none⟩ = some (.int .i64 ((bd - s) / fa)) := hk4.cellS (by go_simp)
        have g6 : ∀ o, w4.frozen? ⟨w.heap.size + 1 + 1, o, none⟩ = false := fun o => by rw [(kcell hk4).2 _ _ (by simp [World.setCell]; have := hk3.size; omega)]; go_simp
        have hbel4 : Kp w w4 := ((hbel2.trans hk3).set (p := ⟨w.heap.size + 1 + 1 + 1, _, none⟩) (by show _ ≤ _; simp; omega) _).trans hk4
        cases hE : emptyR ⟨lo, (bd - s) / fa⟩ with
        | true =>
          have HH : Hid (tightR ⟨ts, bd⟩ b j = ⟨1, 0⟩) := hid (by rw [← HQ'.out, HG.out, hE]; rfl)
          clear hE
          go_wp2
          refine bodyPost_agg2 (by simp [results, Try.results55, go_sem, g2, g3]; exact ⟨rfl, rfl⟩) rfl ⟨ret_agg2 (by rw [HH.out]) (by rw [HH.out]), ?_⟩
          exact (hbel4.set (by show _ ≤ _; simp; omega) _).set (by show _ ≤ _; simp; omega) _
        | false =>
          have HH : Hid (tightR ⟨ts, bd⟩ b j = ⟨lo, (bd - s) / fa⟩) := hid (by rw [← HQ'.out, HG.out, hE]; rfl)
          clear hE
          go_wp2
          refine bodyPost_agg2 (by simp [results, Try.results55, go_sem, g2, g3]; exact ⟨rfl, rfl⟩) rfl ⟨ret_agg2 (by rw [HH.out]) (by rw [HH.out]), ?_⟩
          exact (hbel4.set (by show _ ≤ _; simp; omega) _).set (by show _ ≤ _; simp; omega) _
      · have HG : Hid (q = if emptyR ⟨lo, hi⟩ then ⟨1, 0⟩ else ⟨lo, hi⟩) := hid (by rw [HF.out, if_pos h0, Int.min_eq_left (by omega)])
        go_wp2
        refine wp_region_kw_tail 7 (by kernel_rfl) (by kernel_rfl) ?_
        simp only [List.take_succ_cons, List.take_zero, List.drop_succ_cons, List.drop_zero]
        repeat (go_big_quiet_step (((go_at_call 43; refine quiet_kw (floor_any _ _ _ (by omega) (by omega) (by omega) (by omega))))))
        refine wpQuiet_nil ?_
        intro _ hw'
        obtain ⟨u2, hw''⟩ := hw'
        subst hw''
        go_wp2_with fail
        have hk3 := (kw_kp w2 u2)
        refine (empty_any _ _ _).mono ?_
        rintro e w4 ⟨rfl, hk4⟩
        have g2 : w4.cell? ⟨w.heap.size + 1 + 1, 0, none⟩ = some (.int .i64 0) := hk4.cellS (by go_simp)
        have g3 : w4.cell? ⟨w.heap.size + 1 + 1, 1, none⟩ = some (.int .i64 0) := hk4.cellS (by go_simp)
        have g4 : w4.cell? ⟨w.heap.size + 1 + 1 + 1, 0, none⟩ = some (.int .i64 (lo)) := hk4.cellS (by go_simp)
        have g5 : w4.cell? ⟨w.heap.size + 1 + 1 + 1, 1, none⟩ = some (.int .i64 (hi)) := hk4.cellS (by go_simp)
        have g6 : ∀ o, w4.frozen? ⟨w.heap.size + 1 + 1, o, none⟩ = false := fun o => by rw [(kcell hk4).2 _ _ (by simp [World.setCell]; have := hk3.size; omega)]; go_simp
        have hbel4 : Kp w w4 := ((hbel2.trans hk3).set (p := ⟨w.heap.size + 1 + 1 + 1, _, none⟩) (by show _ ≤ _; simp; omega) _).trans hk4
        cases hE : emptyR ⟨lo, hi⟩ with
        | true =>
          have HH : Hid (tightR ⟨ts, bd⟩ b j = ⟨1, 0⟩) := hid (by rw [← HQ'.out, HG.out, hE]; rfl)
          clear hE
          go_wp2
          refine bodyPost_agg2 (by simp [results, Try.results55, go_sem, g2, g3]; exact ⟨rfl, rfl⟩) rfl ⟨ret_agg2 (by rw [HH.out]) (by rw [HH.out]), ?_⟩
          exact (hbel4.set (by show _ ≤ _; simp; omega) _).set (by show _ ≤ _; simp; omega) _
        | false =>
          have HH : Hid (tightR ⟨ts, bd⟩ b j = ⟨lo, hi⟩) := hid (by rw [← HQ'.out, HG.out, hE]; rfl)
          clear hE
          go_wp2
          refine bodyPost_agg2 (by simp [results, Try.results55, go_sem, g2, g3]; exact ⟨rfl, rfl⟩) rfl ⟨ret_agg2 (by rw [HH.out]) (by rw [HH.out]), ?_⟩
          exact (hbel4.set (by show _ ≤ _; simp; omega) _).set (by show _ ≤ _; simp; omega) _
    · have h0' : 0 < -fa := by omega
      have hn := Int.ediv_neg (bd - s) fa
      obtain ⟨d1, d2⟩ := ediv_bd (bd - s) (-fa) h0' (by omega) (by omega)
      rw [hn] at d1 d2
      have HF2 : Hid (q = if emptyR ⟨max lo ((bd - s) / fa), hi⟩ then ⟨1, 0⟩ else ⟨max lo ((bd - s) / fa), hi⟩) := hid (by rw [HF.out, if_neg h0, hn, Int.neg_neg])
      clear hn HF
      have d3 : -1000000000000000 ≤ (bd - s) / fa := by omega
      have d4 : (bd - s) / fa ≤ 1000000000000000 := by omega
      clear d1 d2
      by_cases hm : lo < (bd - s) / fa
      · have HG : Hid (q = if emptyR ⟨(bd - s) / fa, hi⟩ then ⟨1, 0⟩ else ⟨(bd - s) / fa, hi⟩) := hid (by rw [HF2.out, Int.max_eq_right (by omega)])
        go_wp2
        refine wp_region_kw_tail 9 (by kernel_rfl) (by kernel_rfl) ?_
        simp only [List.take_succ_cons, List.take_zero, List.drop_succ_cons, List.drop_zero]
        repeat (go_big_quiet_step (((go_at_call 43; refine quiet_kw (floor_any _ _ _ (by omega) (by omega) (by omega) (by omega))))))
        refine wpQuiet_nil ?_
        intro _ hw'
        obtain ⟨u2, hw''⟩ := hw'
        subst hw''
        go_wp2_with fail
        have hk3 := (kw_kp w2 u2)
        refine (empty_any _ _ _).mono ?_
        rintro e w4 ⟨rfl, hk4⟩
        have g2 : w4.cell? ⟨w.heap.size + 1 + 1, 0, none⟩ = some (.int .i64 0) := hk4.cellS (by go_simp)
        have g3 : w4.cell? ⟨w.heap.size + 1 + 1, 1, none⟩ = some (.int .i64 0) := hk4.cellS (by go_simp)
        have g4 : w4.cell? ⟨w.heap.size + 1 + 1 + 1, 0, none⟩ = some (.int .i64 ((bd - s) / fa)) := hk4.cellS (by go_simp)
        have g5 : w4.cell? ⟨w.heap.size + 1 + 1 + 1, 1, none⟩ = some (.int .i64 (hi)) := hk4.cellS (by go_simp)
        have g6 : ∀ o, w4.frozen? ⟨w.heap.size + 1 + 1, o, none⟩ = false := fun o => by rw [(kcell hk4).2 _ _ (by simp [World.setCell]; have := hk3.size; omega)]; go_simp
        have hbel4 : Kp w w4 := ((hbel2.trans hk3).set (p := ⟨w.heap.size + 1 + 1 + 1, _, none⟩) (by show _ ≤ _; simp; omega) _).trans hk4
        cases hE : emptyR ⟨(bd - s) / fa, hi⟩ with
        | true =>
          have HH : Hid (tightR ⟨ts, bd⟩ b j = ⟨1, 0⟩) := hid (by rw [← HQ'.out, HG.out, hE]; rfl)
          clear hE
          go_wp2
          refine bodyPost_agg2 (by simp [results, Try.results55, go_sem, g2, g3]; exact ⟨rfl, rfl⟩) rfl ⟨ret_agg2 (by rw [HH.out]) (by rw [HH.out]), ?_⟩
          exact (hbel4.set (by show _ ≤ _; simp; omega) _).set (by show _ ≤ _; simp; omega) _
        | false =>
          have HH : Hid (tightR ⟨ts, bd⟩ b j = ⟨(bd - s) / fa, hi⟩) := hid (by rw [← HQ'.out, HG.out, hE]; rfl)
          clear hE
          go_wp2
          refine bodyPost_agg2 (by simp [results, Try.results55, go_sem, g2, g3]; exact ⟨rfl, rfl⟩) rfl ⟨ret_agg2 (by rw [HH.out]) (by rw [HH.out]), ?_⟩
          exact (hbel4.set (by show _ ≤ _; simp; omega) _).set (by show _ ≤ _; simp; omega) _
      · have HG : Hid (q = if emptyR ⟨lo, hi⟩ then ⟨1, 0⟩ else ⟨lo, hi⟩) := hid (by rw [HF2.out, Int.max_eq_left (by omega)])
        go_wp2
        refine wp_region_kw_tail 9 (by kernel_rfl) (by kernel_rfl) ?_
        simp only [List.take_succ_cons, List.take_zero, List.drop_succ_cons, List.drop_zero]
        repeat (go_big_quiet_step (((go_at_call 43; refine quiet_kw (floor_any _ _ _ (by omega) (by omega) (by omega) (by omega))))))
        refine wpQuiet_nil ?_
        intro _ hw'
        obtain ⟨u2, hw''⟩ := hw'
        subst hw''
        go_wp2_with fail
        have hk3 := (kw_kp w2 u2)
        refine (empty_any _ _ _).mono ?_
        rintro e w4 ⟨rfl, hk4⟩
        have g2 : w4.cell? ⟨w.heap.size + 1 + 1, 0, none⟩ = some (.int .i64 0) := hk4.cellS (by go_simp)
        have g3 : w4.cell? ⟨w.heap.size + 1 + 1, 1, none⟩ = some (.int .i64 0) := hk4.cellS (by go_simp)
        have g4 : w4.cell? ⟨w.heap.size + 1 + 1 + 1, 0, none⟩ = some (.int .i64 (lo)) := hk4.cellS (by go_simp)
        have g5 : w4.cell? ⟨w.heap.size + 1 + 1 + 1, 1, none⟩ = some (.int .i64 (hi)) := hk4.cellS (by go_simp)
        have g6 : ∀ o, w4.frozen? ⟨w.heap.size + 1 + 1, o, none⟩ = false := fun o => by rw [(kcell hk4).2 _ _ (by simp [World.setCell]; have := hk3.size; omega)]; go_simp
        have hbel4 : Kp w w4 := ((hbel2.trans hk3).set (p := ⟨w.heap.size + 1 + 1 + 1, _, none⟩) (by show _ ≤ _; simp; omega) _).trans hk4
        cases hE : emptyR ⟨lo, hi⟩ with
        | true =>
          have HH : Hid (tightR ⟨ts, bd⟩ b j = ⟨1, 0⟩) := hid (by rw [← HQ'.out, HG.out, hE]; rfl)
          clear hE
          go_wp2
          refine bodyPost_agg2 (by simp [results, Try.results55, go_sem, g2, g3]; exact ⟨rfl, rfl⟩) rfl ⟨ret_agg2 (by rw [HH.out]) (by rw [HH.out]), ?_⟩
          exact (hbel4.set (by show _ ≤ _; simp; omega) _).set (by show _ ≤ _; simp; omega) _
        | false =>
          have HH : Hid (tightR ⟨ts, bd⟩ b j = ⟨lo, hi⟩) := hid (by rw [← HQ'.out, HG.out, hE]; rfl)
          clear hE
          go_wp2
          refine bodyPost_agg2 (by simp [results, Try.results55, go_sem, g2, g3]; exact ⟨rfl, rfl⟩) rfl ⟨ret_agg2 (by rw [HH.out]) (by rw [HH.out]), ?_⟩
          exact (hbel4.set (by show _ ≤ _; simp; omega) _).set (by show _ ≤ _; simp; omega) _
end Go.Proofs.Ytmecjjfpgjpeoaa
