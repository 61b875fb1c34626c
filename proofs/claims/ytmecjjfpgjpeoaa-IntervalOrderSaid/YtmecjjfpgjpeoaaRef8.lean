
/-
What the reference's Fix returns, for any input: what the code's Fix returns.
-/
import Derived.Test.YtmecjjfpgjpeoaaRef7
namespace Go.Proofs.Ytmecjjfpgjpeoaa
open Go.RowKit

theorem Sl.setO {α : Type} {enc : α → List Value} {size : Nat} {w : World} {A : Option Addr} {n c : Nat} {l : List α} {p : Addr} (h : Sl (Pl enc) size w (.slice A n c) l) (hne : ∀ b o s, A = some ⟨b, o, s⟩ → b ≠ p.block) (u : Value) : Sl (Pl enc) size (w.setCell p u) (.slice A n c) l := by
  obtain ⟨A', c', he, h1, h2, h3⟩ := h
  injection he with e1 e2 e3
  subst e1 e2 e3
  refine ⟨A, c, rfl, h1, h2, fun k hk => ?_⟩
  obtain ⟨b, o, cs, hA, hb, hl, hc, hr⟩ := h3 k hk
  refine ⟨b, o, cs, hA, by simpa using hb, hl, fun j v hv => ?_, hr⟩
  rw [World.cell?_of_block (w := w) (w' := w.setCell p u) (a := ⟨b, o + k * size + j, none⟩) (Below.heap_setCell w p u b (hne b o none hA))]
  exact hc j v hv
theorem Sl.drewN {α : Type} {R : Rd α} {size : Nat} {w : World} {v : Value} {l : List α} (hR : Stable R) (h : Sl R size w v l) (k : Nat) : Sl R size (w.drewN k) v l := h.keep hR ((Kp.refl w).drewN k)

theorem width_set_le : ∀ (l : List Rng) (k : Nat) (x : Rng), k < l.length → (pick l k).lo ≤ x.lo → x.lo ≤ x.hi → x.hi ≤ (pick l k).hi → width (l.set k x) ≤ width l
  | [], k, _, hk, _, _, _ => absurd hk (by simp)
  | r :: l, 0, x, _, h1, h2, h3 => by
    simp only [List.set_cons_zero, width]
    simp [pick] at h1 h3
    omega
  | r :: l, k + 1, x, hk, h1, h2, h3 => by
    simp only [List.set_cons_succ, width]
    have := width_set_le l k x (by simpa using hk) (by simpa [pick] using h1) h2 (by simpa [pick] using h3)
    omega
theorem rng_ext {a b : Rng} (h : RngEq a b) : a = b := by
  obtain ⟨a1, a2⟩ := a
  obtain ⟨b1, b2⟩ := b
  obtain ⟨h1, h2⟩ := h
  dsimp only at h1 h2
  rw [h1, h2]
/-- one step, whether or not the range changes -/
theorem termsPass_step (r : Row) (t : Term) (ts : List Term) (out : List Rng) (ch : Bool) (j : Nat) (hj : j < out.length) (ht : t.cell = j) (he : emptyR (tightR r out j) = false) :
    ∃ ch', termsPass r (t :: ts) out ch = termsPass r ts (out.set j (tightR r out j)) ch' ∧ (ch' = true → ch = true ∨ width (out.set j (tightR r out j)) < width out) ∧ (ch' = false → ch = false ∧ out.set j (tightR r out j) = out) := by
  obtain ⟨s1, s2, s3⟩ := tight_sub r out j he
  rw [termsPass, ht]
  rw [if_neg (by rw [he]; simp)]
  by_cases hq : RngEq (tightR r out j) (pick out j)
  · have hs : out.set j (tightR r out j) = out := by
      have := rng_ext hq
      rw [pick_at out j hj] at this
      rw [this, List.set_getElem_self]
    exact ⟨ch, by rw [if_pos hq, hs], fun h => .inl h, fun h => ⟨h, hs⟩⟩
  · exact ⟨true, by rw [if_neg hq]; rfl, fun _ => .inr (width_set out j _ hj s1 s2 s3 hq), fun h => by cases h⟩
theorem validB_fine {n : Nat} {out : List Rng} {r : Row} (h : fineBox n out) (hn : n ≤ 128) (hr : fitsB n r = true) : validB out [r] = true := by
  obtain ⟨h1, h2, h3⟩ := h
  unfold validB boxB
  have hb : ∀ l : List Rng, (∀ r ∈ l, ¬ bad r) → boxL l = true := by
    intro l
    induction l with
    | nil => intro _; rfl
    | cons x l ih => intro hl; unfold boxL; rw [if_neg (hl x (by simp))]; exact ih (fun r hr => hl r (by simp [hr]))
  simp [hb out h2, h1, hn, hr]

set_option maxHeartbeats 8000000 in
theorem rFix_any (vb vr : Value) (b : List Rng) (rows : List Row) (w : World) (hb : Rngs w vb b) (hr : RowsL w vr rows) :
    Calls Try.prog 33 #[vb, vr] w fun e w' => ∃ v', e = .returned (.tuple #[v', .bool (fixB b rows).isSome]) ∧ Own encRng 27 2 w.heap.size w' v' ((fixB b rows).getD []) ∧ Kp w w' := by
  obtain ⟨A, c, rfl, hc, hm⟩ := hb.form
  obtain ⟨A', c', rfl, hc', hm'⟩ := hr.form
  go_enter Try.func33, Try.ntmps33
  go_wp2_with fail
  refine (rValid_any _ _ b rows _ hb hr).mono ?_
  rintro e w1 ⟨rfl, hk1⟩
  have hbel1 := ((Kp.refl _)).trans hk1
  cases hV : validB b rows with
  | false =>
    have HF : Hid (fixB b rows = none) := hid (by simp [fixB, hV])
    clear hV
    go_wp2
    go_ret2
    exact ⟨_, ret_next rfl (by rw [HF.out]; rfl), by rw [HF.out]; exact Own.nil _ _ _ _ _, hbel1⟩
  | true =>
    have HV := hid hV
    clear hV
    go_wp2_with fail
    refine (rEmpty_any _ b _ (hb.keep (pl_stable _) hbel1)).mono ?_
    rintro e w2 ⟨rfl, hk2⟩
    have hbel2 := (hbel1).trans hk2
    cases hE : b.any emptyR with
    | true =>
      have HF : Hid (fixB b rows = none) := hid (by simp [fixB, hE])
      clear hE
      go_wp2
      go_ret2
      exact ⟨_, ret_next rfl (by rw [HF.out]; rfl), by rw [HF.out]; exact Own.nil _ _ _ _ _, hbel2⟩
    | false =>
      have HE := hid hE
      clear hE
      have HN0 : Hid (fixB b rows = if rows.any noSolR then none else fixF rows (width b + 1) b) := hid (by
        unfold fixB
        by_cases h : noSol rows = false
        · rw [if_pos ⟨HV.out, HE.out, h⟩, if_neg]
          have h2 : rows.any noSolR = false := h
          rw [h2]; simp
        · rw [if_neg (fun h2 => h h2.2.2), if_pos]
          have h2 : noSol rows = true := by simpa using h
          exact h2)
      go_wp2
      go_loopg [6] rows.length (fun gk i wr => ∃ k : Nat, k + gk = rows.length ∧ i = .int .i64 k ∧ Hid (rows.any noSolR = (rows.drop k).any noSolR) ∧ Kp w wr)
      case atStart => exact ⟨0, Nat.zero_add _, rfl, rfl, hbel2⟩
      case round =>
        clear hbel1 hbel2 hk1 hk2
        obtain ⟨k, hk, rfl, HB, hbel⟩ := hrel
        by_cases hlt : k < rows.length
        · obtain ⟨g9, o9, A9, c9, rfl, hg9, r1', r2', rt⟩ := hr.row hlt
          have r1 := hbel.cellS r1'
          have r2 := hbel.cellS r2'
          have HD := hid (List.drop_eq_getElem_cons hlt)
          have hbnd : rows[k].terms.length ≤ 9223372036854775807 := by obtain ⟨_, _, _, h1, h2⟩ := rt.form; omega
          clear r1' r2' hb hr rt
          generalize rows[k] = r at *
          obtain ⟨ts, bd⟩ := r
          dsimp only at r1 r2 hbnd
          cases hno : noSolR ⟨ts, bd⟩ with
          | true =>
            have HF : Hid (fixB b rows = none) := hid (by rw [HN0.out, if_pos]; rw [HB.out, HD.out, List.any_cons, hno]; rfl)
            have h0 : ts = [] := by unfold noSolR at hno; rw [Bool.and_eq_true] at hno; simpa using hno.1
            have hneg : bd < 0 := by unfold noSolR at hno; rw [Bool.and_eq_true] at hno; simpa using hno.2
            have hd : decide (bd < 0) = true := by simpa using hneg
            subst h0
            rw [List.length_nil] at r1
            clear hno HD
            go_wp2
            go_ret2
            exact ⟨_, ret_next rfl (by rw [HF.out]; rfl), by rw [HF.out]; exact Own.nil _ _ _ _ _, hbel⟩
          | false =>
            have HF : Hid (rows.any noSolR = (rows.drop (k + 1)).any noSolR) := hid (by rw [HB.out, HD.out, List.any_cons, hno]; rfl)
            obtain ⟨gk', rfl⟩ : ∃ gk', gk = gk' + 1 := ⟨gk - 1, by omega⟩
            by_cases h0 : ts.length = 0
            · have hd : decide (bd < 0) = false := by
                have : ts = [] := List.eq_nil_of_length_eq_zero h0
                subst this
                unfold noSolR at hno
                simpa using hno
              rw [h0] at r1
              clear hno HD h0
              go_wp2
              go_roundg gk'
              case measure => omega
              case rel => exact ⟨k + 1, by omega, by go_num, HF, hbel⟩
            · have n0 : (ts.length == 0) = false := by simpa using h0
              have n1 : ((ts.length : Int) == 0) = false := by simpa using h0
              clear hno HD
              go_wp2
              go_roundg gk'
              case measure => omega
              case rel => exact ⟨k + 1, by omega, by go_num, HF, hbel⟩
        · have HF : Hid (fixB b rows = fixF rows (width b + 1) b) := hid (by rw [HN0.out, if_neg]; rw [HB.out, List.drop_of_length_le (by omega)]; simp)
          obtain ⟨v1, v2, v3⟩ := validB_ok HV.out
          have HB0 : Hid (fineBox b.length b) := hid ⟨rfl, v1, fun r hr => by
            have h0 := List.any_eq_false.1 HE.out r hr
            unfold emptyR at h0
            simpa using h0⟩
          have HR := hid v3
          clear v1 v3 HB HN0
          go_wp2_with fail
          refine (rWith_any _ b (-1) 0 0 _ (hb.keep (pl_stable _) hbel) (by omega)).mono ?_
          rintro e w4 ⟨v4, rfl, hown0, hk4⟩
          have hbel4 := hbel.trans hk4
          have hown := hown0.less (base' := w.heap.size) hbel.size
          rw [show withL b (-1) ⟨0, 0⟩ = b from rfl] at hown
          obtain ⟨A4, c4, rfl, h41, h42⟩ := hown.form
          clear hown0 hk4 hbel HV HE
          have HRN : Hid (∀ r ∈ rows, fitsB (b.length : Int) r = true) := HR
          generalize hn : b.length = n at *
          clear HR
          have HR := HRN
          clear hn HRN hb
          obtain ⟨w3', rfl⟩ : ∃ w3' : World, w3' = wr := ⟨_, rfl⟩
          go_wp2
          go_loopg [] (width b + 1) (fun gk wr => ∃ (out : List Rng), Hid (fineBox n out) ∧ Own encRng 27 2 w.heap.size wr (.slice A4 n c4) out ∧ Kp w wr ∧ Hid (width out < gk ∧ fixB b rows = fixF rows gk out))
          case atStart => exact ⟨b, HB0, hown, hbel4, ⟨Nat.lt_succ_self _, HF.out⟩⟩
          case round =>
            clear hown hbel4 HB0 HF
            obtain ⟨out0, HB, hown0, hbel, H1⟩ := hrel
            obtain ⟨hw, hfx⟩ := H1.out
            obtain ⟨m, rfl⟩ : ∃ m, gk = m + 1 := ⟨gk - 1, by omega⟩
            have HW := hid hw
            have HX := hid hfx
            obtain ⟨wo, rfl⟩ : ∃ wo : World, wo = wr := ⟨_, rfl⟩
            have hl0 : out0.length ≤ 128 := by rw [HB.out.1]; exact v2
            clear H1 hw hfx
            go_wp2_with fail
            refine (rWith_any _ out0 (-1) 0 0 _ (hown0.sl encRng_len) (by omega)).mono ?_
            rintro e w5 ⟨v5, rfl, own8, hk5⟩
            rw [show withL out0 (-1) ⟨0, 0⟩ = out0 from rfl] at own8
            have hown5 := hown0.kp hk5
            have hbel5 := hbel.trans hk5
            obtain ⟨A8, c8, rfl, h81, h82⟩ := own8.form
            have hgl : Hid (∀ g, A4 = some ⟨g, 0, none⟩ → ∀ b o s, A8 = some ⟨b, o, s⟩ → b ≠ g) := hid (fun g hg b o s hA => by
              have h1 := (World.ownsRow.lt hown0 g (by rw [hg]; rfl)).2
              have h2 := (World.ownsRow.lt own8 b (by rw [hA]; rfl)).1
              omega)
            have sl8 := own8.sl encRng_len
            rw [HB.out.1] at sl8 ⊢
            clear own8 hown0 hbel hk5 h81
            go_wp2
            go_loopg [9] rows.length (fun gj i wr => ∃ (k : Nat) (ch1 : Bool) (out1 : List Rng), k + gj = rows.length ∧ i = .int .i64 k ∧ Hid (fineBox n out1) ∧ Own encRng 27 2 w.heap.size wr (.slice A4 n c4) out1 ∧ Kp w wr ∧ Rngs wr (.slice A8 n c8) out0 ∧ Hid (rowsPass rows out0 false = rowsPass (rows.drop k) out1 ch1) ∧ Hid (width out1 ≤ width out0 ∧ (ch1 = true → width out1 < width out0) ∧ (ch1 = false → out1 = out0)))
            case atStart => exact ⟨0, false, out0, Nat.zero_add _, rfl, HB, hown5, hbel5, sl8, rfl, ⟨Nat.le_refl _, fun h => (by cases h), fun _ => rfl⟩⟩
            case round =>
              clear hown5 hbel5 sl8
              obtain ⟨k, ch1, out1, hk, rfl, HB1, hown1, hbel, sl8, HP, HWD⟩ := hrel
              obtain ⟨w6, rfl⟩ : ∃ w6 : World, w6 = wr := ⟨_, rfl⟩
              obtain ⟨gj, rfl⟩ : ∃ gj, gj = gk := ⟨_, rfl⟩
              by_cases hlt : k < rows.length
              · obtain ⟨g9, o9, A9, c9, rfl, hg9, r1', r2', rt⟩ := hr.row hlt
                have HD := hid (List.drop_eq_getElem_cons hlt)
                have HRk := hid (HR.out rows[k] (List.getElem_mem hlt))
                have hts : rows[k].terms.length ≤ 128 := by have := (fitsB_ok HRk.out).2.1; omega
                generalize rows[k] = r at *
                obtain ⟨ts, bd⟩ := r
                dsimp only at r1' r2' rt hts
                obtain ⟨gj', rfl⟩ : ∃ gj', gj = gj' + 1 := ⟨gj - 1, by omega⟩
                go_wp2
                go_loopg [10] ts.length (fun gi i wr => ∃ (j : Nat) (ch2 : Bool) (out2 : List Rng), j + gi = ts.length ∧ i = .int .i64 j ∧ Hid (fineBox n out2) ∧ Own encRng 27 2 w.heap.size wr (.slice A4 n c4) out2 ∧ Kp w wr ∧ Rngs wr (.slice A8 n c8) out0 ∧ Hid (termsPass ⟨ts, bd⟩ ts out1 ch1 = termsPass ⟨ts, bd⟩ (ts.drop j) out2 ch2) ∧ Hid (width out2 ≤ width out0 ∧ (ch2 = true → width out2 < width out0) ∧ (ch2 = false → out2 = out0)))
                case atStart => exact ⟨0, ch1, out1, Nat.zero_add _, rfl, HB1, hown1, hbel, sl8, rfl, HWD⟩
                case round =>
                  clear hown1 hbel sl8 HB1 HWD
                  obtain ⟨j, ch2, out2, hj, rfl, HB2, hown, hbel, sl8, HT, HWD⟩ := hrel
                  obtain ⟨gi, rfl⟩ : ∃ gi, gi = gk := ⟨_, rfl⟩
                  have r1 := hbel.cellS r1'
                  have r2 := hbel.cellS r2'
                  by_cases hjl : j < ts.length
                  · obtain ⟨gt, ot, rfl, hgt, t1', t2'⟩ := rt.term hjl
                    have t1 := hbel.cellS t1'
                    have t2 := hbel.cellS t2'
                    have HD2 := hid (List.drop_eq_getElem_cons hjl)
                    obtain ⟨⟨o1, o2, o3, o4⟩, -⟩ := fitsn_all HRk.out ts[j] (List.getElem_mem hjl)
                    have rtS := rt.keep (pl_stable _) hbel
                    clear t1' t2' r1' r2' rt hr
                    generalize ts[j] = t at *
                    obtain ⟨ce, fa⟩ := t
                    dsimp only at t1 t2 o1 o2 o3 o4
                    obtain ⟨cj, rfl⟩ := Int.eq_ofNat_of_zero_le o1
                    have hcj : cj < n := by omega
                    have HLn : Hid (n = out2.length) := hid HB2.out.1.symm
                    have hcj2 : cj < out2.length := by rw [← HLn.out]; exact hcj
                    obtain ⟨g, rfl, hg1, hg2⟩ := hown.at_ (by omega)
                    have HTB : Hid (tightenB ⟨ts, bd⟩ out2 cj = tightR ⟨ts, bd⟩ out2 cj) := hid (by unfold tightenB; rw [if_pos ⟨validB_fine HB2.out v2 HRk.out, by omega, by omega⟩])
                    have q1 : (0 : Int) ≤ cj := by omega
                    have q2 : (cj : Int) < n := by omega
                    go_wp2_with fail
                    refine (rTighten_any _ _ ⟨ts, bd⟩ out2 cj _ rtS (hown.sl encRng_len)).mono ?_
                    rintro e w7 ⟨rfl, hk7⟩
                    rw [HTB.out]
                    have hbel7 := hbel.trans hk7
                    have own7 := hown.kp hk7
                    have sl87 := sl8.keep (pl_stable _) hk7
                    have HTS := hid (termsPass_step ⟨ts, bd⟩ ⟨cj, fa⟩ (ts.drop (j + 1)) out2 ch2 cj hcj2 rfl)
                    have HSB := hid (tight_sub ⟨ts, bd⟩ out2 cj)
                    have HTN : Hid (emptyR (tightR ⟨ts, bd⟩ out2 cj) = true → termsPass ⟨ts, bd⟩ ts out1 ch1 = none) := hid (fun h => by rw [HT.out, HD2.out, termsPass, if_pos h])
                    have x1 := (own7.rngCell HLn.out hcj2).1
                    have x2 := (own7.rngCell HLn.out hcj2).2
                    have x3 : ∀ o, w7.frozen? ⟨g, o, none⟩ = false := own7.frozen HLn.out
                    have hg7 : g < w7.heap.size := by have := hk7.size; omega
                    have hgb := hgl.out g rfl
                    have HGB := hid hgb
                    clear rtS hown hbel sl8 hk7 r1 r2 t1 t2 HTB hgb
                    generalize tightR ⟨ts, bd⟩ out2 cj = x at *
                    obtain ⟨lo, hi⟩ := x
                    dsimp only
                    have ownS := own7.rngSet HLn.out hcj2 ⟨lo, hi⟩
                    have slS := (sl87.setO (p := ⟨g, cj * 2, none⟩) HGB.out (.int .i64 lo)).setO (p := ⟨g, cj * 2 + 1, none⟩) HGB.out (.int .i64 hi)
                    have OS := hid ownS
                    have SS := hid slS
                    clear own7 sl87 ownS slS
                    cases hem : emptyR ⟨lo, hi⟩ with
                    | true =>
                      have HE : Hid (fixB b rows = none) := hid (by rw [HX.out, fixF, HP.out, HD.out, rowsPass, HTN.out hem])
                      have hlt2 : hi < lo := by unfold emptyR at hem; simpa using hem
                      clear hem
                      go_wp2
                      go_quiet (fail)
                      go_wp2
                      go_ret2
                      exact ⟨_, ret_next rfl (by rw [HE.out]; rfl), by rw [HE.out]; exact Own.nil _ _ _ _ _, ((hbel7.set (p := ⟨g, _, none⟩) hg1 _).set (p := ⟨g, _, none⟩) hg1 _).drewN _⟩
                    | false =>
                      obtain ⟨s1, s2, s3⟩ := HSB.out hem
                      obtain ⟨ch3, e1, e2, e3⟩ := HTS.out hem
                      have HE : Hid (termsPass ⟨ts, bd⟩ ts out1 ch1 = termsPass ⟨ts, bd⟩ (ts.drop (j + 1)) (out2.set cj ⟨lo, hi⟩) ch3) := hid (by rw [HT.out, HD2.out, e1])
                      have HFS := hid (fineBox_set (x := ⟨lo, hi⟩) HB2.out hcj s1 s2 s3)
                      have HWL := width_set_le out2 cj ⟨lo, hi⟩ hcj2 s1 s2 s3
                      have HWN : Hid (width (out2.set cj ⟨lo, hi⟩) ≤ width out0 ∧ (ch3 = true → width (out2.set cj ⟨lo, hi⟩) < width out0) ∧ (ch3 = false → out2.set cj ⟨lo, hi⟩ = out0)) := hid (by
                        obtain ⟨w1', w2', w3''⟩ := HWD.out
                        refine ⟨by omega, fun h => ?_, fun h => ?_⟩
                        · rcases e2 h with h2 | h2
                          · have := w2' h2; omega
                          · omega
                        · obtain ⟨h2, h3⟩ := e3 h
                          rw [h3]
                          exact w3'' h2)
                      obtain ⟨gi', rfl⟩ : ∃ gi', gi = gi' + 1 := ⟨gi - 1, by omega⟩
                      clear hem e1 e2 e3 HTS HSB HWL
                      go_wp2
                      go_quiet (fail)
                      go_wp2
                      go_roundg gi'
                      case measure => omega
                      case rel => exact ⟨j + 1, ch3, out2.set cj ⟨lo, hi⟩, by omega, by go_num, HFS, OS.out, ((hbel7.set (p := ⟨g, _, none⟩) hg1 _).set (p := ⟨g, _, none⟩) hg1 _).drewN _, SS.out, HE, HWN⟩
                  · have HE : Hid (termsPass ⟨ts, bd⟩ ts out1 ch1 = some (out2, ch2)) := hid (by rw [HT.out, List.drop_of_length_le (by omega)]; rfl)
                    go_wp2
                    go_roundg gj'
                    case measure => omega
                    case rel => exact ⟨k + 1, ch2, out2, by omega, by go_num, HB2, hown, hbel, sl8, hid (by rw [HP.out, HD.out, rowsPass, HE.out]), HWD⟩
              · have HE : Hid (rowsPass rows out0 false = some (out1, ch1)) := hid (by rw [HP.out, List.drop_of_length_le (by omega)]; rfl)
                go_wp2_with fail
                refine (rSame_any _ _ out0 out1 _ sl8 (hown1.sl encRng_len)).mono ?_
                rintro e w7 ⟨rfl, hk7⟩
                have hbel7 := hbel.trans hk7
                have own7 := hown1.kp hk7
                have hl01 : out0.length = out1.length := by rw [HB.out.1, HB1.out.1]
                cases ch1 with
                | false =>
                  have hs : (decide (out0.length = out1.length) && sameB out0 out1) = true := by
                    rw [(sameB_iff out0 out1 hl01).2 (HWD.out.2.2 rfl).symm]
                    simp [hl01]
                  rw [hs]
                  have HF : Hid (fixB b rows = some out1) := hid (by rw [HX.out, fixF, HE.out])
                  clear hs hl01
                  go_wp2
                  go_ret2
                  exact ⟨_, ret_next rfl (by rw [HF.out]; rfl), by rw [HF.out]; exact own7, hbel7⟩
                | true =>
                  have hs : (decide (out0.length = out1.length) && sameB out0 out1) = false := by
                    have h1 : sameB out0 out1 = false := by
                      cases h2 : sameB out0 out1 with
                      | false => rfl
                      | true =>
                        have h3 := (sameB_iff out0 out1 hl01).1 h2
                        have h4 := HWD.out.2.1 rfl
                        rw [h3] at h4
                        omega
                    rw [h1]
                    simp
                  have HLT := hid (HWD.out.2.1 rfl)
                  rw [hs]
                  clear hs hl01
                  go_wp2
                  go_roundg m
                  case measure => omega
                  case rel => exact ⟨out1, HB1, own7, hbel7, hid ⟨by have := HLT.out; have := HW.out; omega, by rw [HX.out, fixF, HE.out]⟩⟩
end Go.Proofs.Ytmecjjfpgjpeoaa
