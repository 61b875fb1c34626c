
/-
What Fix returns, for any input: the walk.
-/
import Derived.Test.YtmecjjfpgjpeoaaInt9
namespace Go.Proofs.Ytmecjjfpgjpeoaa
open Go.RowKit

def noSolR (r : Row) : Bool := r.terms.isEmpty && decide (r.bound < 0)
set_option maxHeartbeats 400000 in
theorem Fix1_any (A : Option Addr) (c : Nat) (ts : List Term) (bd : Int) (w : World) (hm : ts.length ≤ 9223372036854775807) :
    Calls Try.prog 56 #[.agg #[.slice A ts.length c, .int .i64 bd]] w fun e w' => e = .returned (.bool (noSolR ⟨ts, bd⟩)) ∧ Kp w w' := by
  cases ts with
  | nil =>
    rw [List.length_nil]
    by_cases h : bd < 0
    all_goals
      have HF : Hid (noSolR ⟨[], bd⟩ = decide (bd < 0)) := hid (by simp [noSolR])
      go_enter Try.func56, Try.ntmps56
      go_wp2
      go_ret
      exact ⟨ret_bool (by rw [HF.out]; simp <;> omega), (Kp.refl w).alloc _⟩
  | cons t ts =>
    have HF : Hid (noSolR ⟨t :: ts, bd⟩ = false) := hid (by simp [noSolR])
    have h0 : ((t :: ts).length == 0) = false := by simp
    have h1 : (((t :: ts).length : Int) == 0) = false := by simp; omega
    have h2 : 0 < (t :: ts).length := by simp
    generalize (t :: ts).length = n at *
    go_enter Try.func56, Try.ntmps56
    go_wp2
    go_ret
    exact ⟨ret_bool (by rw [HF.out]), (Kp.refl w).alloc _⟩
theorem Fix1_real : Real Try.prog 56 := ⟨_, Try.func56, by kernel_rfl, by kernel_rfl⟩

/-- the boxes that occur: all of their ranges are small, and none is empty -/
def fineBox (n : Nat) (out : List Rng) : Prop := out.length = n ∧ (∀ r ∈ out, ¬ bad r) ∧ ∀ r ∈ out, r.lo ≤ r.hi
theorem fineBox_set {n k : Nat} {out : List Rng} {x : Rng} (h : fineBox n out) (hk : k < n) (h1 : (pick out k).lo ≤ x.lo) (h2 : x.lo ≤ x.hi) (h3 : x.hi ≤ (pick out k).hi) : fineBox n (out.set k x) := by
  obtain ⟨hl, hb, he⟩ := h
  have hk' : k < out.length := by omega
  rw [pick_at out k hk'] at h1 h3
  have hx := not_bad (hb out[k] (List.getElem_mem hk'))
  refine ⟨by rw [List.length_set]; exact hl, fun r hr => ?_, fun r hr => ?_⟩
  · rcases List.mem_or_eq_of_mem_set hr with hr | rfl
    · exact hb r hr
    · unfold bad; omega
  · rcases List.mem_or_eq_of_mem_set hr with hr | rfl
    · exact he r hr
    · exact h2

theorem fitsn_all {n : Nat} {r : Row} (h : fitsB n r = true) : ∀ t ∈ r.terms, okT n t ∧ t.factor ≠ 0 := by
  unfold fitsB at h
  rw [Bool.and_eq_true] at h
  obtain ⟨h1, -⟩ := fitsL_ok n r.terms (-1) (by omega) h.1
  intro t ht
  have := h1 t ht
  unfold okT
  omega
def rngNe (a b c d : Int) : Bool := !(a == c && b == d)
theorem run_neq_rng (w : World) (a b c d : Int) : (binOp .neq 27 (.agg #[.int .i64 a, .int .i64 b]) (.agg #[.int .i64 c, .int .i64 d])).run Try.prog w = .ok (.bool (rngNe a b c d)) w := by
  unfold rngNe
  have hu : Try.prog.underlying 27 = some (.struct (Try.prog.fieldsOf 27)) := by kernel_rfl
  have hf := run_equalIn_struct (P := Try.prog) w 9999 27 #[.int .i64 a, .int .i64 b] #[.int .i64 c, .int .i64 d] hu (by kernel_rfl)
  simp only [binOp]
  have hfs : (Try.prog.fieldsOf 27).toList = (match Try.prog.underlying 27 with | some (.struct fs) => fs.toList | _ => []) := rfl
  rw [Try.underlying27] at hfs
  simp only [Op.equal, Op.maxDepth, Sem.run_bind, hf, hfs]
  go_simp
  by_cases h1 : a = c
  · by_cases h2 : b = d <;> simp [h1, h2]
  · simp [h1]
set_option maxHeartbeats 4000000 in
theorem Fix_any (vb vr : Value) (b : List Rng) (rows : List Row) (w : World) (hb : Rngs w vb b) (hr : RowsL w vr rows) :
    Calls Try.prog 32 #[vb, vr] w fun e w' => ∃ v', e = .returned (.tuple #[v', .bool (fixB b rows).isSome]) ∧ Own encRng 27 2 w.heap.size w' v' ((fixB b rows).getD []) ∧ Kp w w' := by
  obtain ⟨A, c, rfl, hc, hm⟩ := hb.form
  obtain ⟨A', c', rfl, hc', hm'⟩ := hr.form
  go_enter Try.func32, Try.ntmps32
  go_wp2_with fail
  refine (Valid_any _ _ b rows _ hb hr).mono ?_
  rintro e w1 ⟨rfl, hk1⟩
  have hbel1 := ((Kp.refl _)).trans hk1
  cases hV : validB b rows with
  | false =>
    have HF : Hid (fixB b rows = none) := hid (by simp [fixB, hV])
    clear hV
    go_wp2
    go_ret2
    exact ⟨_, ret_next rfl (by rw [HF.out]; rfl), by rw [HF.out]; exact Own.nil _ _ _ _ _, hbel1⟩
  | true =>
    have HV := hid hV
    clear hV
    go_wp2_with fail
    refine (Empty_any _ b _ (hb.keep (pl_stable _) hbel1)).mono ?_
    rintro e w2 ⟨rfl, hk2⟩
    have hbel2 := (hbel1).trans hk2
    cases hE : b.any emptyR with
    | true =>
      have HF : Hid (fixB b rows = none) := hid (by simp [fixB, hE])
      clear hE
      go_wp2
      go_ret2
      exact ⟨_, ret_next rfl (by rw [HF.out]; rfl), by rw [HF.out]; exact Own.nil _ _ _ _ _, hbel2⟩
    | false =>
      have HE := hid hE
      clear hE
      go_wp2_with fail
      refine (ContainsFuncRow_any noSolR 56 [] _ rows _ (hr.keep rdRow_stable hbel2) Fix1_real (fun w' A1 c1 ts bd hk hT => Fix1_any A1 c1 ts bd w' (by obtain ⟨_, _, _, h1, h2⟩ := hT.form; omega))).mono ?_
      rintro e w3 ⟨rfl, hk3⟩
      have hbel3 := (hbel2).trans hk3
      cases hN : rows.any noSolR with
      | true =>
        have HF : Hid (fixB b rows = none) := hid (by
          unfold fixB
          rw [if_neg]
          intro h
          have h3 : rows.any noSolR = false := h.2.2
          rw [h3] at hN
          cases hN)
        clear hN
        go_wp2
        go_ret2
        exact ⟨_, ret_next rfl (by rw [HF.out]; rfl), by rw [HF.out]; exact Own.nil _ _ _ _ _, hbel3⟩
      | false =>
        have HF : Hid (fixB b rows = fixF rows (width b + 1) b) := hid (by unfold fixB; rw [if_pos ⟨HV.out, HE.out, hN⟩])
        obtain ⟨v1, v2, v3⟩ := validB_ok HV.out
        have HB0 : Hid (fineBox b.length b) := hid ⟨rfl, v1, fun r hr => by
          have h0 := List.any_eq_false.1 HE.out r hr
          unfold emptyR at h0
          simpa using h0⟩
        have HR := hid v3
        clear hN v1 v3
        go_wp2_with fail
        refine (CloneRange_any _ b _ (hb.keep (pl_stable _) hbel3) (by omega)).mono ?_
        rintro e w4 ⟨v4, rfl, hown0, hk4⟩
        have hbel4 := hbel3.trans hk4
        have hown := hown0.less (base' := w.heap.size) hbel3.size
        obtain ⟨A4, c4, rfl, h41, h42⟩ := hown.form
        clear hown0 hk1 hk2 hk3 hk4 HV HE
        have HRN : Hid (∀ r ∈ rows, fitsB (b.length : Int) r = true) := HR
        generalize hn : b.length = n at *
        clear HR
        have HR := HRN
        clear hn HRN
        clear hb
        go_wp2
        go_loopg [7] (width b + 1) (fun gk v wr => ∃ (ch : Bool) (out : List Rng), v = .bool ch ∧ Hid (fineBox n out) ∧ Own encRng 27 2 w.heap.size wr (.slice A4 n c4) out ∧ Kp w wr ∧ Hid (ch = true → width out < gk ∧ fixB b rows = fixF rows gk out) ∧ Hid (ch = false → fixB b rows = some out))
        case atStart => exact ⟨true, b, rfl, HB0, hown, hbel4, fun _ => ⟨Nat.lt_succ_self _, HF.out⟩, fun h => by cases h⟩
        case round =>
          obtain ⟨ch, out0, rfl, HB, hown0, hbel, H1, H2⟩ := hrel
          cases ch with
          | false =>
            have HE := hid (H2.out rfl)
            go_wp2
            go_ret2
            exact ⟨_, ret_next rfl (by rw [HE.out]; rfl), by rw [HE.out]; exact hown0, hbel⟩
          | true =>
            obtain ⟨hw, hfx⟩ := H1.out rfl
            obtain ⟨m, rfl⟩ : ∃ m, gk = m + 1 := ⟨gk - 1, by omega⟩
            have HW := hid hw
            have HX := hid hfx
            obtain ⟨wo, rfl⟩ : ∃ wo : World, wo = wr := ⟨_, rfl⟩
            clear H1 H2 hw hfx hown hbel4 HF HB0
            go_wp2
            go_loopg [7, 30] rows.length (fun gj v i wr => ∃ (k : Nat) (ch1 : Bool) (out1 : List Rng), k + gj = rows.length ∧ i = .int .i64 k ∧ v = .bool ch1 ∧ Hid (fineBox n out1) ∧ Own encRng 27 2 w.heap.size wr (.slice A4 n c4) out1 ∧ Kp w wr ∧ Hid (rowsPass rows out0 false = rowsPass (rows.drop k) out1 ch1) ∧ Hid (width out1 ≤ width out0 ∧ (ch1 = true → width out1 < width out0)))
            case atStart => exact ⟨0, false, out0, Nat.zero_add _, rfl, rfl, HB, hown0, hbel, rfl, ⟨Nat.le_refl _, fun h => by cases h⟩⟩
            case round =>
              clear hown0 hbel HB
              obtain ⟨k, ch1, out1, hk, rfl, rfl, HB, hown1, hbel, HP, HWD⟩ := hrel
              obtain ⟨w5, rfl⟩ : ∃ w5 : World, w5 = wr := ⟨_, rfl⟩
              obtain ⟨gj, rfl⟩ : ∃ gj, gj = gk := ⟨_, rfl⟩
              by_cases hlt : k < rows.length
              · obtain ⟨g9, o9, A9, c9, rfl, hg9, r1', r2', rt⟩ := hr.row hlt
                have r1 := hbel.cellS r1'
                have r2 := hbel.cellS r2'
                have HD := hid (List.drop_eq_getElem_cons hlt)
                have HRk := hid (HR.out rows[k] (List.getElem_mem hlt))
                clear r1' r2' hr
                generalize rows[k] = r at *
                obtain ⟨ts, bd⟩ := r
                dsimp only at r1 r2 rt
                have hg9' : g9 < w5.heap.size := by have := hbel.size; omega
                have hgl : Hid (∀ g, A4 = some ⟨g, 0, none⟩ → w.heap.size ≤ g ∧ g < w5.heap.size) := hid (fun g hg => World.ownsRow.lt hown1 g (by rw [hg]; rfl))
                go_wp2
                have c90 := alloc_cell w5 #[.slice A9 ts.length c9, .int .i64 bd] 41 0 rfl
                have c91 := alloc_cell w5 #[.slice A9 ts.length c9, .int .i64 bd] 41 1 rfl
                have l9 := alloc_lt w5 (.cells #[.slice A9 ts.length c9, .int .i64 bd] 41)
                have own9 := hown1.alloc (.cells #[.slice A9 ts.length c9, .int .i64 bd] 41)
                have kp9 := hbel.alloc (.cells #[.slice A9 ts.length c9, .int .i64 bd] 41)
                clear hown1 hbel r1 r2
                generalize w5.alloc (.cells #[.slice A9 ts.length c9, .int .i64 bd] 41) = w9 at *
                generalize hG : w5.heap.size = G at *
                clear hG
                go_loopg [7, 37] ts.length (fun gi v i wr => ∃ (j : Nat) (ch2 : Bool) (out2 : List Rng), j + gi = ts.length ∧ i = .int .i64 j ∧ v = .bool ch2 ∧ Hid (fineBox n out2) ∧ Own encRng 27 2 w.heap.size wr (.slice A4 n c4) out2 ∧ Kp w wr ∧ wr.cell? ⟨G, 0, none⟩ = some (.slice A9 ts.length c9) ∧ wr.cell? ⟨G, 1, none⟩ = some (.int .i64 bd) ∧ G < wr.heap.size ∧ Hid (termsPass ⟨ts, bd⟩ ts out1 ch1 = termsPass ⟨ts, bd⟩ (ts.drop j) out2 ch2) ∧ Hid (width out2 ≤ width out0 ∧ (ch2 = true → width out2 < width out0)))
                case atStart => exact ⟨0, ch1, out1, Nat.zero_add _, rfl, rfl, HB, own9, kp9, c90, c91, l9, rfl, HWD⟩
                case round =>
                  clear own9 kp9 c90 c91 l9 HB HWD
                  obtain ⟨j, ch2, out2, hj, rfl, rfl, HB, hown, hbel, c90, c91, l9, HT, HWD⟩ := hrel
                  obtain ⟨gi, rfl⟩ : ∃ gi, gi = gk := ⟨_, rfl⟩
                  by_cases hjl : j < ts.length
                  · obtain ⟨gt, ot, rfl, hgt, t1', t2'⟩ := rt.term hjl
                    have t1 := hbel.cellS t1'
                    have t2 := hbel.cellS t2'
                    have hgt' : gt < wr.heap.size := by have := hbel.size; omega
                    have HD2 := hid (List.drop_eq_getElem_cons hjl)
                    have hok := fitsn_all HRk.out ts[j] (List.getElem_mem hjl)
                    obtain ⟨⟨o1, o2, o3, o4⟩, -⟩ := hok
                    have hts : ts.length ≤ 128 := by have := (fitsB_ok HRk.out).2.1; dsimp only at this; omega
                    generalize ts[j] = t at *
                    obtain ⟨ce, fa⟩ := t
                    dsimp only at t1 t2 o1 o2 o3 o4
                    obtain ⟨cj, rfl⟩ := Int.eq_ofNat_of_zero_le o1
                    have hcj : cj < n := by omega
                    obtain ⟨fb1, fb2, fb3⟩ := HB.out
                    have HLn : Hid (n = out2.length) := hid fb1.symm
                    have hcj2 : cj < out2.length := by omega
                    obtain ⟨g, rfl, hg1, hg2⟩ := hown.at_ (by omega)
                    have hgG : g < G := (hgl.out g rfl).2
                    have hprem : Hid (cj < out2.length ∧ (∀ t ∈ ts, okT out2.length t ∧ t.factor ≠ 0) ∧ (∀ r ∈ out2, ¬ bad r) ∧ ts.length ≤ 128 ∧ (-1000000000 ≤ bd ∧ bd ≤ 1000000000)) := by
                      obtain ⟨-, f2, f3, f4⟩ := fitsB_ok HRk.out
                      exact ⟨hcj2, by rw [fb1]; exact fitsn_all HRk.out, fb2, by dsimp only at f2; omega, f3, f4⟩
                    have rtS := rt.keep (pl_stable _) hbel
                    clear fb1 fb2 fb3 t1' t2' rt
                    go_wp2_with fail
                    obtain ⟨p1, p2, p3, p4, p5⟩ := hprem.out
                    have hkA := (Kp.refl wr).alloc (.cells #[.int .i64 cj, .int .i64 fa] 60)
                    refine (tighten_any _ _ ⟨ts, bd⟩ out2 cj _ (rtS.keep (pl_stable _) hkA) ((hown.alloc _).sl encRng_len) p1 p2 p3 p4 p5).mono ?_
                    rintro e w6 ⟨rfl, hk6⟩
                    have hbel6 := (hbel.alloc (.cells #[.int .i64 cj, .int .i64 fa] 60)).trans hk6
                    have hkr6 := hkA.trans hk6
                    have own6 := hown.kp hkr6
                    have l6 : G < w6.heap.size := by have := hkr6.size; omega
                    have q0 : w6.cell? ⟨wr.heap.size, 0, none⟩ = some (.int .i64 cj) := hk6.cellS (alloc_cell _ _ _ 0 rfl)
                    have q1 : w6.cell? ⟨wr.heap.size, 1, none⟩ = some (.int .i64 fa) := hk6.cellS (alloc_cell _ _ _ 1 rfl)
                    have d90 := hkr6.cellS c90
                    have d91 := hkr6.cellS c91
                    have hwr6 : wr.heap.size < w6.heap.size := by have := hk6.size; simp at this; omega
                    have HTS := hid (tight_sub ⟨ts, bd⟩ out2 cj)
                    have HTP : Hid (termsPass ⟨ts, bd⟩ ts out1 ch1 = if emptyR (tightR ⟨ts, bd⟩ out2 cj) then none else if RngEq (tightR ⟨ts, bd⟩ out2 cj) (pick out2 cj) then termsPass ⟨ts, bd⟩ (ts.drop (j + 1)) out2 ch2 else termsPass ⟨ts, bd⟩ (ts.drop (j + 1)) (out2.set cj (tightR ⟨ts, bd⟩ out2 cj)) true) := hid (by rw [HT.out, HD2.out, termsPass]; rfl)
                    clear p1 p2 p3 p4 p5 hkA hk6 rtS c90 c91 hown hkr6 hbel t1 t2 hprem HT
                    generalize tightR ⟨ts, bd⟩ out2 cj = x at *
                    obtain ⟨lo, hi⟩ := x
                    dsimp only
                    go_wp2_with fail
                    refine (empty_any _ _ _).mono ?_
                    rintro e w7 ⟨rfl, hk7⟩
                    have hkr7 := ((Kp.refl w6).alloc (.cells #[.int .i64 lo, .int .i64 hi] 27)).trans hk7
                    have hbel7 := hbel6.trans hkr7
                    have own7 := own6.kp hkr7
                    have l7 : G < w7.heap.size := by have := hkr7.size; omega
                    have e0 := hkr7.cellS q0
                    have e90 := hkr7.cellS d90
                    have e91 := hkr7.cellS d91
                    have e1 : w7.cell? ⟨w6.heap.size, 0, none⟩ = some (.int .i64 lo) := hk7.cellS (alloc_cell _ _ _ 0 rfl)
                    have e2 : w7.cell? ⟨w6.heap.size, 1, none⟩ = some (.int .i64 hi) := hk7.cellS (alloc_cell _ _ _ 1 rfl)
                    clear hk7 hkr7 own6 q0 q1 d90 d91 hbel6
                    cases hem : emptyR ⟨lo, hi⟩ with
                    | true =>
                      have HE : Hid (fixB b rows = none) := hid (by rw [HX.out, fixF, HP.out, HD.out, rowsPass, HTP.out, if_pos hem])
                      clear hem
                      go_wp2
                      go_ret2
                      exact ⟨_, ret_next rfl (by rw [HE.out]; rfl), by rw [HE.out]; exact Own.nil _ _ _ _ _, hbel7⟩
                    | false =>
                      obtain ⟨s1, s2, s3⟩ := HTS.out hem
                      have HEM := hid hem
                      have x1 := (own7.rngCell HLn.out hcj2).1
                      have x2 := (own7.rngCell HLn.out hcj2).2
                      have x3 : ∀ o, w7.frozen? ⟨g, o, none⟩ = false := own7.frozen HLn.out
                      have HPK := hid (pick_at out2 cj hcj2)
                      have y1 : (0 : Int) ≤ cj := by omega
                      have y2 : (cj : Int) < n := by omega
                      clear hem HTS
                      have hneq := fun W a' b' => run_neq_rng W lo hi a' b'
                      obtain ⟨gi', rfl⟩ : ∃ gi', gi = gi' + 1 := ⟨gi - 1, by omega⟩
                      by_cases heq : RngEq ⟨lo, hi⟩ out2[cj]
                      · have b1 : rngNe lo hi out2[cj].lo out2[cj].hi = false := by unfold rngNe; simp [show lo = out2[cj].lo from heq.1, show hi = out2[cj].hi from heq.2]
                        have HE : Hid (termsPass ⟨ts, bd⟩ ts out1 ch1 = termsPass ⟨ts, bd⟩ (ts.drop (j + 1)) out2 ch2) := hid (by rw [HTP.out, if_neg (by rw [HEM.out]; simp), if_pos (by rw [HPK.out]; exact heq)])
                        clear heq
                        go_wp2
                        go_quiet (fail)
                        go_wp2
                        go_roundg gi'
                        case measure => omega
                        case rel => exact ⟨j + 1, ch2, out2, by omega, by go_num, rfl, HB, own7, hbel7.drewN _, e90, e91, l7, HE, HWD⟩
                      · have b1 : rngNe lo hi out2[cj].lo out2[cj].hi = true := by
                          unfold rngNe
                          simp only [Bool.not_eq_true', Bool.and_eq_false_iff, beq_eq_false_iff_ne]
                          rcases Decidable.not_and_iff_or_not.1 heq with h | h
                          · exact .inl h
                          · exact .inr h
                        have HE : Hid (termsPass ⟨ts, bd⟩ ts out1 ch1 = termsPass ⟨ts, bd⟩ (ts.drop (j + 1)) (out2.set cj ⟨lo, hi⟩) true) := hid (by rw [HTP.out, if_neg (by rw [HEM.out]; simp), if_neg (by rw [HPK.out]; exact heq)])
                        have HWS := hid (width_set out2 cj ⟨lo, hi⟩ hcj2 s1 s2 s3 (by rw [HPK.out]; exact heq))
                        have HFS := hid (fineBox_set (x := ⟨lo, hi⟩) HB.out hcj s1 s2 s3)
                        have ownS := own7.rngSet HLn.out hcj2 ⟨lo, hi⟩
                        clear heq own7
                        go_wp2
                        go_quiet (fail)
                        go_wp2
                        go_roundg gi'
                        case measure => omega
                        case rel => exact ⟨j + 1, true, out2.set cj ⟨lo, hi⟩, by omega, by go_num, rfl, HFS, ownS, ((hbel7.drewN _).set (p := ⟨g, _, none⟩) hg1 _).set (p := ⟨g, _, none⟩) hg1 _, by go_simp, by go_simp, by simpa using l7, HE, hid ⟨by have := HWS.out; have := HWD.out.1; omega, fun _ => by have := HWS.out; have := HWD.out.1; omega⟩⟩
                  · have HE : Hid (termsPass ⟨ts, bd⟩ ts out1 ch1 = some (out2, ch2)) := hid (by rw [HT.out, List.drop_of_length_le (by omega)]; rfl)
                    go_wp2
                    go_roundg (gj - 1)
                    case measure => omega
                    case rel => exact ⟨k + 1, ch2, out2, by omega, by go_num, rfl, HB, hown, hbel, hid (by rw [HP.out, HD.out, rowsPass, HE.out]), HWD⟩
              · have HE : Hid (rowsPass rows out0 false = some (out1, ch1)) := hid (by rw [HP.out, List.drop_of_length_le (by omega)]; rfl)
                go_wp2
                go_roundg m
                case measure => omega
                case rel => exact ⟨ch1, out1, rfl, HB, hown1, hbel, fun h => ⟨by have := HWD.out.2 h; have := HW.out; omega, by rw [HX.out, fixF, HE.out, h]⟩, fun h => by rw [HX.out, fixF, HE.out, h]⟩
end Go.Proofs.Ytmecjjfpgjpeoaa
