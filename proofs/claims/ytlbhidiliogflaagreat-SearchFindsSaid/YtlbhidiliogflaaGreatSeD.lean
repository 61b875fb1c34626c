
/-
Search: a pass: the walk.
-/
import Derived.Test.YtlbhidiliogflaaGreatSeC
namespace Go.Proofs.YtlbhidiliogflaaGreat
set_option linter.unusedSimpArgs false
set_option linter.unusedVariables false
open Go.RowKit

theorem pass1_real : Real Tryz.prog 74 := ⟨_, Tryz.func74, by kernel_rfl, by kernel_rfl⟩
set_option maxRecDepth 8000 in
set_option maxHeartbeats 8000000 in
theorem pass_any (bw : Nat) (x0 x1 x3 : Value) (Ag Ar : Option Addr) (cg cr : Nat) (rows : List Row) (grs : List Gr) (n B b c : Nat) (vb : Value) (box : List Rng) (vs : Value) (ss : List Stp) (X : Nat → Prop) (css : List (Elm 2)) (csg : List (Elm 3)) (w : World)
    (hW : Bx w bw [x0, x1, .slice Ag grs.length cg, x3, .slice Ar rows.length cr, .int .i64 (b : Int), .int .i64 (c : Int)]) (hO : Own encRng 57 2 0 w vb box) (hS : Own encStp 54 3 0 w vs ss)
    (hne : ∀ q, vb.ownBlock = some q → q ≠ bw) (hns : ∀ q, vs.ownBlock = some q → q ≠ bw ∧ vb.ownBlock ≠ some q) (hXw : X bw) (hXb : ∀ q, vb.ownBlock = some q → X q) (hXs : ∀ q, vs.ownBlock = some q → X q)
    (hD : OwF X w (PData css csg (.slice Ar rows.length cr) (.slice Ag grs.length cg) rows grs))
    (hc : c ≤ b) (hb : b ≤ 65536) (hB : B + c = b + ss.length) (hB2 : B ≤ 65536) (hf : fineBox n box) (hn : n ≤ 128) (hr : ∀ r ∈ rows, fitsB n r = true) (hg : ∀ g ∈ grs, grOk n g = true) :
    Calls Tryz.prog 60 #[.pointer (some ⟨bw, 0, none⟩), vb, vs] w (PassR w n B b vb vs ss bw x0 x1 (.slice Ag grs.length cg) x3 (.slice Ar rows.length cr) (runT B ⟨ss, box, true, true⟩ (tasks rows grs))) := by
  have hcf := fun args W => pass1_real.run args W
  have hmf : ∀ (fn : Fn) (first cap : Array Value) (w : World), (Instr.makeFunc fn first cap).run Tryz.prog w = .ok (.func fn first cap) w := fun _ _ _ _ => rfl
  generalize hFe : runT B ⟨ss, box, true, true⟩ (tasks rows grs) = F
  have HF0 := hid hFe
  clear hFe
  obtain ⟨Ab, nb, cb, rfl⟩ := hO.isSl
  obtain ⟨As, ns, cs, rfl⟩ := hS.isSl
  have hlw := hW.lt (by simp)
  go_enter Tryz.func60, Tryz.ntmps60
  go_upto_region 3 with (fail)
  obtain ⟨k1, hP⟩ := PSt.new hW hO hS hne hns
  generalize ((((w.alloc (.cells #[.pointer (some ⟨bw, 0, none⟩)] 60)).alloc (.cells #[.slice Ab nb cb] 22)).alloc (.cells #[.slice As ns cs] 31)).alloc (.cells #[.bool false] 4)) = w1 at *
  generalize hz : w.heap.size = z at *
  generalize h9 : z + 1 + 1 + 1 = b9 at *
  generalize h5 : z + 1 + 1 = b5 at *
  generalize h4 : z + 1 = b4 at *
  obtain ⟨b3, h3⟩ : ∃ b3, b3 = z := ⟨_, rfl⟩
  rw [← h3]
  rw [← h3] at hP
  have hFit : PFit z X (.slice Ab nb cb) (.slice As ns cs) bw b3 b4 b5 b9 w1 := ⟨hXw, hXb, hXs, by omega, by omega, by omega, by omega, by rw [← hz]; exact k1.size⟩
  have hI : PIn z X _ n B b (.slice Ab nb cb) (.slice As ns cs) ss bw b3 b4 b5 b9 x0 x1 (.slice Ag grs.length cg) x3 (.slice Ar rows.length cr) F w1 (tasks rows grs) w1 box ss (.slice As ns cs) c false :=
    ⟨hP, by rw [← hz]; exact hD.more (k1.fx X), Fx.refl _ _, hc, hB, hf, HF0.out, by simp, Nat.le_refl _, .inl rfl⟩
  clear hP hD hXw hXb hXs hW hO hS hne hns hf hB hc HF0 h9 h5 h4 h3
  have e3 := hI.ps.w3.cell (j := 0) rfl
  have e4 := hI.ps.wk.cell (j := 4) rfl
  go_wp2_with fail
  go_loopw [26] (fun i wr => ∃ (k : Nat) (box' : List Rng) (ss' : List Stp) (vs' : Value) (c' : Nat) (ch' : Bool), k ≤ rows.length ∧ i = .int .i64 (k : Int) ∧ PIn z X (PData css csg (.slice Ar rows.length cr) (.slice Ag grs.length cg) rows grs) n B b (.slice Ab nb cb) (.slice As ns cs) ss bw b3 b4 b5 b9 x0 x1 (.slice Ag grs.length cg) x3 (.slice Ar rows.length cr) F w1 (rowsT k (rows.drop k) ++ grsT 0 grs) wr box' ss' vs' c' ch') (fun i _ => rows.length - (intOf i).toNat)
  case atStart => exact ⟨0, _, _, _, _, _, Nat.zero_le _, rfl, hI⟩
  case round =>
    clear hI e3 e4
    obtain ⟨k, box', ss', vs', c', ch', hk, rfl, hI⟩ := hrel
    obtain ⟨hcr1, hcr2⟩ := hI.rd.here.1.sl.caps
    by_cases hlt : k < rows.length
    · obtain ⟨hRW, -⟩ := hI.rd.here
      obtain ⟨bq, oq, A', cq, rfl, hbq, i1, i2, HT⟩ := hRW.row hlt
      have hrk := hid (hr rows[k] (List.getElem_mem hlt))
      have hI2 := hI.rest (by have := hI.run; rw [rowsT_drop hlt, List.append_assoc] at this; exact this)
      have HTH := hid HT
      generalize rows[k] = r at *
      obtain ⟨ts, bd⟩ := r
      dsimp only at *
      have k0 := (Kp.refl wr).alloc (.cells #[.slice A' ts.length cq, .int .i64 bd] 51)
      have B12 := Bx.new wr #[.slice A' ts.length cq, .int .i64 bd] 51
      have z12 := alloc_lt wr (.cells #[.slice A' ts.length cq, .int .i64 bd] 51)
      have hsX := fun q h => stX_old hI.ps (q := q) h
      clear HT hRW
      go_upto_region 6 with (fail)
      generalize wr.alloc (.cells #[.slice A' ts.length cq, .int .i64 bd] 51) = w3 at *
      have hI3 := hI2.kp k0
      clear hI hI2 i1 i2 hbq
      simp only [List.toList_toArray] at B12
      obtain ⟨r12, h12⟩ : ∃ r12, r12 = wr.heap.size := ⟨_, rfl⟩
      rw [← h12] at B12 z12 hsX ⊢
      replace h12 := hid h12
      have c0 := B12.cell (j := 0) rfl
      have c1 := B12.cell (j := 1) rfl
      by_cases hdead : ts = [] ∧ bd < 0
      · obtain ⟨rfl, hbd⟩ := hdead
        obtain ⟨Av, nv, cv, rfl⟩ := hI3.ps.stp.isSl
        have e1 : (((0 : Nat) : Int) == 0) = true := rfl
        have e2 : decide (bd < 0) = true := decide_eq_true hbd
        simp only [List.length_nil] at c0 B12
        have e3 := hI3.ps.w3.cell (j := 0) rfl
        have hRUN := hid hI3.run
        have hLEN := hid hI3.len
        go_wp2_with fail
        refine (spend_any bw x0 x1 (.slice Ag grs.length cg) x3 (.slice (some ⟨bq, oq, none⟩) rows.length cr) b c' w3 hI3.ps.wk hI3.cb hb).mono ?_
        rintro e w5 (⟨h1, rfl, k5⟩ | ⟨h1, rfl, hB5, k5⟩)
        · have HFF : F.fine = false := by
            rw [← hRUN.out, rowT_dead rfl hbd, List.singleton_append, runT_cons, dead_out k (by have := hLEN.out; omega), runT_shut rfl]
          have HE := hid (PIn.panic k1 hz hI3 k5 HFF)
          clear c0 c1 e3
          go_wp2
          exact ⟨rfl, HE.out⟩
        · have HFF : F = ⟨ss' ++ [⟨0, (k : Int), -1⟩], box', false, true⟩ := by
            rw [← hRUN.out, rowT_dead rfl hbd, List.singleton_append, runT_cons, dead_on k (by have := hLEN.out; omega), runT_shut rfl]
          replace HFF := hid HFF
          have hP5 := hI3.ps.spent hB5 k5
          have hO5 := hP5.stp.alloc (.cells #[.int .i64 0, .int .i64 (k : Int), .int .i64 (-1)] 54)
          have hsl1 : ss'.length + 1 ≤ 100000 := by have := hLEN.out; omega
          have q5 := hP5.w5.cell (j := 0) rfl
          clear c0 c1 e3
          go_wp2_with (at_builtin; refine wpl_append_flat rfl (.tmp 42) (.tmp 45) rfl stStp encStp_len encStp_one rfl (hO5) rfl (Sl.one w5 [.int .i64 0, .int .i64 (k : Int), .int .i64 (-1)] 54 3 (⟨0, (k : Int), -1⟩ : Stp) rfl rfl) (by first | omega | (simp; omega)) (by first | omega | (simp; omega)) (Nat.zero_le _) ?_; intro v1 w1 hown1 hgrow1 hat1 hnil1; obtain ⟨Av2, nv2, cv2, rfl⟩ := hown1.isSl)
          go_ret3
          exact .inr ⟨by rw [HFF.out], _, _, _, _, by rw [HFF.out]; rfl, PIn.dead hFit k1 hz hI3 hB5 k5 _ hown1 hgrow1 hat1 h1 (by rw [HFF.out]) (by rw [HFF.out])⟩
      · by_cases hts : ts = []
        · have hnb : ¬ bd < 0 := fun h => hdead ⟨hts, h⟩
          have e1 : ((ts.length : Int) == 0) = true := by rw [hts]; rfl
          have e2 : decide (bd < 0) = false := decide_eq_false hnb
          replace hts := hid hts
          have hI4 := hI3.rest (by have := hI3.run; rw [rowT_live hdead] at this; exact this)
          have hnX : ¬ StX bw b5 b9 (.slice Ab nb cb) vs' r12 := hsX r12 (Nat.le_refl _)
          replace hdead := hid hdead
          clear hI3 hsX
          go_wp2_with fail
          go_loopw [50] (fun i wi => ∃ (m : Nat) (bx2 : List Rng) (ss2 : List Stp) (vs2 : Value) (c2 : Nat) (ch2 : Bool), m ≤ ts.length ∧ i = .int .i64 (m : Int) ∧ PIn z X (PData css csg (.slice (some ⟨bq, oq, none⟩) rows.length cr) (.slice Ag grs.length cg) rows grs) n B b (.slice Ab nb cb) (.slice As ns cs) ss bw b3 b4 b5 b9 x0 x1 (.slice Ag grs.length cg) x3 (.slice (some ⟨bq, oq, none⟩) rows.length cr) F w1 ((ts.drop m).map (fun t => Tsk.row k ⟨ts, bd⟩ t.cell) ++ (rowsT (k + 1) (rows.drop (k + 1)) ++ grsT 0 grs)) wi bx2 ss2 vs2 c2 ch2 ∧ Bx wi r12 [.slice A' ts.length cq, .int .i64 bd] ∧ r12 < wi.heap.size ∧ ¬ StX bw b5 b9 (.slice Ab nb cb) vs2 r12) (fun i _ => ts.length - (intOf i).toNat)
          case atStart => exact ⟨0, _, _, _, _, _, Nat.zero_le _, rfl, hI4, B12, z12, hnX⟩
          case round =>
            clear hI4 B12 z12 hnX c0 c1 k0
            obtain ⟨m, bx2, ss2, vs2, c2, ch2, hm, rfl, hI, B12, z12, hnX⟩ := hrel
            have c0 := B12.cell (j := 0) rfl
            have c1 := B12.cell (j := 1) rfl
            obtain ⟨hct1, hct2⟩ := (HTH.out wr _ hI.rd.here.1).caps
            by_cases hmt : m < ts.length
            · have HTM := HTH.out wr _ hI.rd.here.1
              obtain ⟨bt, ot, rfl, hbt, i1, i2⟩ := HTM.term hmt
              have hok := (fitsn_all hrk.out ts[m] (List.getElem_mem hmt)).1
              have hRUN : Hid (runT B ⟨ss2, bx2, true, true⟩ (Tsk.row k ⟨ts, bd⟩ ts[m].cell :: ((ts.drop (m + 1)).map (fun t => Tsk.row k ⟨ts, bd⟩ t.cell) ++ (rowsT (k + 1) (rows.drop (k + 1)) ++ grsT 0 grs))) = F) := hid (by
                have := hI.run
                rw [rowTs_drop hmt] at this
                exact this)
              generalize ts[m] = t at *
              obtain ⟨ce, fa⟩ := t
              dsimp only at i1 i2 hok hRUN
              obtain ⟨q1, q2, -, -⟩ := hok
              dsimp only at q1 q2
              obtain ⟨j, rfl⟩ := Int.eq_ofNat_of_zero_le q1
              have k0 := (Kp.refl wr).alloc (.cells #[.int .i64 (j : Int), .int .i64 fa] 48)
              have B14 := Bx.new wr #[.int .i64 (j : Int), .int .i64 fa] 48
              have z14 := alloc_lt wr (.cells #[.int .i64 (j : Int), .int .i64 fa] 48)
              go_upto_region 12 with (fail)
              generalize wr.alloc (.cells #[.int .i64 (j : Int), .int .i64 fa] 48) = w4 at *
              have hI4 := hI.kp k0
              have B12' := B12.kp k0 z12
              have z12' := Nat.lt_of_lt_of_le z12 k0.size
              clear i1 i2 c0 c1 hbt
              simp only [List.toList_toArray] at B14
              obtain ⟨r14, h14⟩ : ∃ r14, r14 = wr.heap.size := ⟨_, rfl⟩
              rw [← h14] at B14 z14 ⊢
              replace h14 := hid h14
              have c0 := B12'.cell (j := 0) rfl
              have c1 := B12'.cell (j := 1) rfl
              have d0 := B14.cell (j := 0) rfl
              have d4 := hI4.ps.w4.cell (j := 0) rfl
              have HTM4 := HTH.out w4 _ hI4.rd.here.1
              have hO4 := hI4.ps.own.sl encRng_len
              obtain ⟨lo, hlo⟩ : ∃ lo, Hid ((tightenB ⟨ts, bd⟩ bx2 (j : Int)).lo = lo) := ⟨_, hid rfl⟩
              obtain ⟨hi, hhi⟩ : ∃ hi, Hid ((tightenB ⟨ts, bd⟩ bx2 (j : Int)).hi = hi) := ⟨_, hid rfl⟩
              have hTB : Hid (tightenB ⟨ts, bd⟩ bx2 (j : Int) = ⟨lo, hi⟩) := hid (by rw [← hlo.out, ← hhi.out])
              refine G2.wp_region_growT Kp [] 9 120 (G2.pvL [G2.eqv (.func (.func 74) #[] #[.pointer (some ⟨b4, 0, none⟩), .pointer (some ⟨b3, 0, none⟩), .pointer (some ⟨b9, 0, none⟩), .pointer (some ⟨b5, 0, none⟩)]), G2.eqv (.int .i64 (k : Int)), G2.eqv (.pointer (some ⟨r14, 0, none⟩)), G2.eqv (.int .i64 (j : Int)), G2.eqv (.agg #[.slice (some ⟨bt, ot, none⟩) ts.length cq, .int .i64 bd]), G2.eqv (.slice Ab nb cb), G2.eqv (.pointer (some ⟨r14, 0, none⟩)), G2.eqv (.int .i64 (j : Int)), G2.eqv (.agg #[.int .i64 lo, .int .i64 hi])]) (by kernel_rfl) (by kernel_rfl) rfl (fun x => Kp.refl x) (fun _ _ _ h k => h.trans k) (Kp.refl _).drew (fun _ _ _ _ _ h => h) (G2.pvL_keep (G2.stabL_cons (G2.stab_eq _) (G2.stabL_cons (G2.stab_eq _) (G2.stabL_cons (G2.stab_eq _) (G2.stabL_cons (G2.stab_eq _) (G2.stabL_cons (G2.stab_eq _) (G2.stabL_cons (G2.stab_eq _) (G2.stabL_cons (G2.stab_eq _) (G2.stabL_cons (G2.stab_eq _) (G2.stabL_cons (G2.stab_eq _) (G2.stabL_nil))))))))))) (G2.stepsT_cons 0 ?_ (G2.stepsT_cons 1 ?_ (G2.stepsT_cons 2 ?_ (G2.stepsT_cons 3 ?_ (G2.stepsT_cons 4 ?_ (G2.stepsT_cons 5 ?_ (G2.stepsT_cons 6 ?_ (G2.stepsT_cons 7 ?_ (G2.stepsT_cons 8 ?_ (G2.stepsT_nil _ _ _)))))))))) ?_ ?_
              · intro a w' hk hF hD K hK
                have h10 : a.tmps[10]?.getD undef = .func (.func 74) #[] #[.pointer (some ⟨b4, 0, none⟩), .pointer (some ⟨b3, 0, none⟩), .pointer (some ⟨b9, 0, none⟩), .pointer (some ⟨b5, 0, none⟩)] := hF 10 (by kernel_rfl)
                clear hF hD
                go_simp
                exact hK.out _ _ (Kp.refl _) rfl
              · intro a w' hk hF hD K hK
                have h11 : a.tmps[11]?.getD undef = .int .i64 (k : Int) := hF 11 (by kernel_rfl)
                clear hF hD
                go_simp
                exact hK.out _ _ (Kp.refl _) rfl
              · intro a w' hk hF hD K hK
                have h14 : a.tmps[14]?.getD undef = .pointer (some ⟨r14, 0, none⟩) := hF 14 (by kernel_rfl)
                clear hF hD
                go_simp
                exact hK.out _ _ (Kp.refl _) rfl
              · intro a w' hk hF hD K hK
                have h56 : a.tmps[56]?.getD undef = .pointer (some ⟨r14, 0, none⟩) := hD 2 (by kernel_rfl)
                clear hF hD
                have z0 := hk.cellS d0
                go_simp
                exact hK.out _ _ (Kp.refl _) rfl
              · intro a w' hk hF hD K hK
                have h12 : a.tmps[12]?.getD undef = .pointer (some ⟨r12, 0, none⟩) := hF 12 (by kernel_rfl)
                clear hF hD
                have z0 := hk.cellS c0
                have z1 := hk.cellS c1
                go_simp
                exact hK.out _ _ (Kp.refl _) rfl
              · intro a w' hk hF hD K hK
                have h4 : a.tmps[4]?.getD undef = .pointer (some ⟨b4, 0, none⟩) := hF 4 (by kernel_rfl)
                clear hF hD
                have z0 := hk.cellS d4
                go_simp
                exact hK.out _ _ (Kp.refl _) rfl
              · intro a w' hk hF hD K hK
                have h14 : a.tmps[14]?.getD undef = .pointer (some ⟨r14, 0, none⟩) := hF 14 (by kernel_rfl)
                clear hF hD
                go_simp
                exact hK.out _ _ (Kp.refl _) rfl
              · intro a w' hk hF hD K hK
                have h60 : a.tmps[60]?.getD undef = .pointer (some ⟨r14, 0, none⟩) := hD 6 (by kernel_rfl)
                clear hF hD
                have z0 := hk.cellS d0
                go_simp
                exact hK.out _ _ (Kp.refl _) rfl
              · intro a w' hk hF hD K hK
                have h58 : a.tmps[58]?.getD undef = .agg #[.slice (some ⟨bt, ot, none⟩) ts.length cq, .int .i64 bd] := hD 4 (by kernel_rfl)
                have h59 : a.tmps[59]?.getD undef = .slice Ab nb cb := hD 5 (by kernel_rfl)
                have h61 : a.tmps[61]?.getD undef = .int .i64 (j : Int) := hD 7 (by kernel_rfl)
                clear hF hD
                go_simp
                refine (Tighten_any _ _ ⟨ts, bd⟩ bx2 (j : Int) _ (HTM4.keep (pl_stable _) hk) (hO4.keep (pl_stable _) hk)).mono ?_
                rintro e w9 ⟨rfl, hk9⟩
                rw [hTB.out]
                exact hK.out _ _ hk9 rfl
              · exact fun i0 hi0 => by simp at hi0
              intro v w9 k9 hv
              have v0 : v 0 = .func (.func 74) #[] #[.pointer (some ⟨b4, 0, none⟩), .pointer (some ⟨b3, 0, none⟩), .pointer (some ⟨b9, 0, none⟩), .pointer (some ⟨b5, 0, none⟩)] := hv 0 (by omega)
              have v1 : v 1 = .int .i64 (k : Int) := hv 1 (by omega)
              have v3 : v 3 = .int .i64 (j : Int) := hv 3 (by omega)
              have v8 : v 8 = .agg #[.int .i64 lo, .int .i64 hi] := hv 8 (by omega)
              clear hv
              simp only [G2.growPut, G2.gSlot, List.getElem?_toArray, List.getElem?_cons_zero, List.getElem?_cons_succ, Option.bind_some, List.setIfInBounds_toArray, List.set_cons_zero, List.set_cons_succ, List.drop_succ_cons, List.drop_zero, v0, v1, v3, v8]
              have hI9 := hI4.kp k9
              have B12'' := B12'.kp k9 z12'
              have z12'' := Nat.lt_of_lt_of_le z12' k9.size
              have hLEN := hid hI9.len
              have hj : j < bx2.length := by have := hLEN.out; omega
              have hjn : j < n := by have := hLEN.out; omega
              clear c0 c1 d0 d4 HTM4 hO4 HTM B12' z12' hI hI4 B12 z12
              go_wp2_with fail
              refine (pass1_any bw b3 b4 b5 b9 x0 x1 (.slice Ag grs.length cg) x3 (.slice (some ⟨bq, oq, none⟩) rows.length cr) b c2 (.slice Ab nb cb) bx2 vs2 ss2 ch2 0 (k : Int) j lo hi w9 hI9.ps hI9.cb hb hj (by have := hLEN.out; omega)).mono ?_
              rintro e w5 (⟨h1, rfl, k5⟩ | ⟨h1, h2, rfl, k5⟩ | ⟨h1, h2, rfl, vs3, hP5, k5, ho5⟩)
              · have hI5 := (hI9.kp k5).rest (by have := hRUN.out; rw [runT_cons, doT_row, hTB.out, step_same h1] at this; exact this)
                have B5 := B12''.kp k5 z12''
                have z5 := Nat.lt_of_lt_of_le z12'' k5.size
                go_wp2_with fail
                go_roundw
                case rel => exact ⟨m + 1, _, _, _, _, _, by omega, by go_num, hI5, B5, z5, hnX⟩
                case measure => simp [intOf]; omega
              · have HFF : F.fine = false := by
                  rw [← hRUN.out, runT_cons, doT_row, hTB.out, step_out h1 (by have := hLEN.out; omega), runT_shut rfl]
                have HE := hid (PIn.panic k1 hz hI9 k5 HFF)
                go_wp2
                exact ⟨rfl, HE.out⟩
              · have hBn : ¬ B ≤ ss2.length := by have := hLEN.out; omega
                cases hem : emptyR ⟨lo, hi⟩ with
                | true =>
                  have HFF : Hid (F = ⟨ss2 ++ [⟨0, (k : Int), (j : Int)⟩], bx2, false, true⟩) := hid (by
                    rw [← hRUN.out, runT_cons, doT_row, hTB.out, step_end h1 hBn hem, runT_shut rfl])
                  obtain ⟨Av, nv, cv, rfl⟩ := hP5.stp.isSl
                  have HE := hid (PIn.close hFit k1 hz hI9 hP5 (by rw [List.length_set]; exact hLEN.out.2.1) k5 ho5 h2 (by rw [HFF.out]) (by rw [HFF.out]))
                  have q5 := hP5.w5.cell (j := 0) rfl
                  replace hem := hid hem
                  go_wp2
                  go_ret3
                  exact .inr ⟨by rw [HFF.out], _, _, _, _, by rw [HFF.out]; rfl, HE.out⟩
                | false =>
                  have hI5 := PIn.next hFit hI9 hP5 k5 ho5 h2 (by
                    have := row_fine hI9.fb hn hrk.out j hjn (by rw [hTB.out]; exact hem)
                    rw [hTB.out] at this
                    exact this) (by
                    have := hRUN.out
                    rw [runT_cons, doT_row, hTB.out, step_on h1 hBn hem (by omega), Int.toNat_natCast] at this
                    exact this)
                  have B5 := B12''.fx k5 z12'' hnX
                  have z5 := Nat.lt_of_lt_of_le z12'' k5.size
                  have hnX5 : ¬ StX bw b5 b9 (.slice Ab nb cb) vs3 r12 := fun e => by
                    rcases e with e | e | e | e | e
                    · exact hnX (.inl e)
                    · exact hnX (.inr (.inl e))
                    · exact hnX (.inr (.inr (.inl e)))
                    · exact hnX (.inr (.inr (.inr (.inl e))))
                    · rcases ho5 with h3 | h3
                      · exact hnX (.inr (.inr (.inr (.inr (h3 ▸ e)))))
                      · have := h3 r12 e
                        omega
                  replace hem := hid hem
                  go_wp2_with fail
                  go_roundw
                  case rel => exact ⟨m + 1, _, _, _, _, _, by omega, by go_num, hI5, B5, z5, hnX5⟩
                  case measure => simp [intOf]; omega
            · have hI5 := hI.rest (REST' := rowsT (k + 1) (rows.drop (k + 1)) ++ grsT 0 grs) (by have := hI.run; rw [List.drop_of_length_le (by omega)] at this; exact this)
              go_wp2_with fail
              go_roundw
              case rel => exact ⟨k + 1, _, _, _, _, _, by omega, by go_num, hI5⟩
              case measure => simp [intOf]; omega
        · have e1 : ((ts.length : Int) == 0) = false := by
            have := List.length_pos_iff.2 hts
            simp
            exact hts
          replace hts := hid hts
          have hI4 := hI3.rest (by have := hI3.run; rw [rowT_live hdead] at this; exact this)
          have hnX : ¬ StX bw b5 b9 (.slice Ab nb cb) vs' r12 := hsX r12 (Nat.le_refl _)
          replace hdead := hid hdead
          clear hI3 hsX
          go_wp2_with fail
          go_loopw [50] (fun i wi => ∃ (m : Nat) (bx2 : List Rng) (ss2 : List Stp) (vs2 : Value) (c2 : Nat) (ch2 : Bool), m ≤ ts.length ∧ i = .int .i64 (m : Int) ∧ PIn z X (PData css csg (.slice (some ⟨bq, oq, none⟩) rows.length cr) (.slice Ag grs.length cg) rows grs) n B b (.slice Ab nb cb) (.slice As ns cs) ss bw b3 b4 b5 b9 x0 x1 (.slice Ag grs.length cg) x3 (.slice (some ⟨bq, oq, none⟩) rows.length cr) F w1 ((ts.drop m).map (fun t => Tsk.row k ⟨ts, bd⟩ t.cell) ++ (rowsT (k + 1) (rows.drop (k + 1)) ++ grsT 0 grs)) wi bx2 ss2 vs2 c2 ch2 ∧ Bx wi r12 [.slice A' ts.length cq, .int .i64 bd] ∧ r12 < wi.heap.size ∧ ¬ StX bw b5 b9 (.slice Ab nb cb) vs2 r12) (fun i _ => ts.length - (intOf i).toNat)
          case atStart => exact ⟨0, _, _, _, _, _, Nat.zero_le _, rfl, hI4, B12, z12, hnX⟩
          case round =>
            clear hI4 B12 z12 hnX c0 c1 k0
            obtain ⟨m, bx2, ss2, vs2, c2, ch2, hm, rfl, hI, B12, z12, hnX⟩ := hrel
            have c0 := B12.cell (j := 0) rfl
            have c1 := B12.cell (j := 1) rfl
            obtain ⟨hct1, hct2⟩ := (HTH.out wr _ hI.rd.here.1).caps
            by_cases hmt : m < ts.length
            · have HTM := HTH.out wr _ hI.rd.here.1
              obtain ⟨bt, ot, rfl, hbt, i1, i2⟩ := HTM.term hmt
              have hok := (fitsn_all hrk.out ts[m] (List.getElem_mem hmt)).1
              have hRUN : Hid (runT B ⟨ss2, bx2, true, true⟩ (Tsk.row k ⟨ts, bd⟩ ts[m].cell :: ((ts.drop (m + 1)).map (fun t => Tsk.row k ⟨ts, bd⟩ t.cell) ++ (rowsT (k + 1) (rows.drop (k + 1)) ++ grsT 0 grs))) = F) := hid (by
                have := hI.run
                rw [rowTs_drop hmt] at this
                exact this)
              generalize ts[m] = t at *
              obtain ⟨ce, fa⟩ := t
              dsimp only at i1 i2 hok hRUN
              obtain ⟨q1, q2, -, -⟩ := hok
              dsimp only at q1 q2
              obtain ⟨j, rfl⟩ := Int.eq_ofNat_of_zero_le q1
              have k0 := (Kp.refl wr).alloc (.cells #[.int .i64 (j : Int), .int .i64 fa] 48)
              have B14 := Bx.new wr #[.int .i64 (j : Int), .int .i64 fa] 48
              have z14 := alloc_lt wr (.cells #[.int .i64 (j : Int), .int .i64 fa] 48)
              go_upto_region 12 with (fail)
              generalize wr.alloc (.cells #[.int .i64 (j : Int), .int .i64 fa] 48) = w4 at *
              have hI4 := hI.kp k0
              have B12' := B12.kp k0 z12
              have z12' := Nat.lt_of_lt_of_le z12 k0.size
              clear i1 i2 c0 c1 hbt
              simp only [List.toList_toArray] at B14
              obtain ⟨r14, h14⟩ : ∃ r14, r14 = wr.heap.size := ⟨_, rfl⟩
              rw [← h14] at B14 z14 ⊢
              replace h14 := hid h14
              have c0 := B12'.cell (j := 0) rfl
              have c1 := B12'.cell (j := 1) rfl
              have d0 := B14.cell (j := 0) rfl
              have d4 := hI4.ps.w4.cell (j := 0) rfl
              have HTM4 := HTH.out w4 _ hI4.rd.here.1
              have hO4 := hI4.ps.own.sl encRng_len
              obtain ⟨lo, hlo⟩ : ∃ lo, Hid ((tightenB ⟨ts, bd⟩ bx2 (j : Int)).lo = lo) := ⟨_, hid rfl⟩
              obtain ⟨hi, hhi⟩ : ∃ hi, Hid ((tightenB ⟨ts, bd⟩ bx2 (j : Int)).hi = hi) := ⟨_, hid rfl⟩
              have hTB : Hid (tightenB ⟨ts, bd⟩ bx2 (j : Int) = ⟨lo, hi⟩) := hid (by rw [← hlo.out, ← hhi.out])
              refine G2.wp_region_growT Kp [] 9 120 (G2.pvL [G2.eqv (.func (.func 74) #[] #[.pointer (some ⟨b4, 0, none⟩), .pointer (some ⟨b3, 0, none⟩), .pointer (some ⟨b9, 0, none⟩), .pointer (some ⟨b5, 0, none⟩)]), G2.eqv (.int .i64 (k : Int)), G2.eqv (.pointer (some ⟨r14, 0, none⟩)), G2.eqv (.int .i64 (j : Int)), G2.eqv (.agg #[.slice (some ⟨bt, ot, none⟩) ts.length cq, .int .i64 bd]), G2.eqv (.slice Ab nb cb), G2.eqv (.pointer (some ⟨r14, 0, none⟩)), G2.eqv (.int .i64 (j : Int)), G2.eqv (.agg #[.int .i64 lo, .int .i64 hi])]) (by kernel_rfl) (by kernel_rfl) rfl (fun x => Kp.refl x) (fun _ _ _ h k => h.trans k) (Kp.refl _).drew (fun _ _ _ _ _ h => h) (G2.pvL_keep (G2.stabL_cons (G2.stab_eq _) (G2.stabL_cons (G2.stab_eq _) (G2.stabL_cons (G2.stab_eq _) (G2.stabL_cons (G2.stab_eq _) (G2.stabL_cons (G2.stab_eq _) (G2.stabL_cons (G2.stab_eq _) (G2.stabL_cons (G2.stab_eq _) (G2.stabL_cons (G2.stab_eq _) (G2.stabL_cons (G2.stab_eq _) (G2.stabL_nil))))))))))) (G2.stepsT_cons 0 ?_ (G2.stepsT_cons 1 ?_ (G2.stepsT_cons 2 ?_ (G2.stepsT_cons 3 ?_ (G2.stepsT_cons 4 ?_ (G2.stepsT_cons 5 ?_ (G2.stepsT_cons 6 ?_ (G2.stepsT_cons 7 ?_ (G2.stepsT_cons 8 ?_ (G2.stepsT_nil _ _ _)))))))))) ?_ ?_
              · intro a w' hk hF hD K hK
                have h10 : a.tmps[10]?.getD undef = .func (.func 74) #[] #[.pointer (some ⟨b4, 0, none⟩), .pointer (some ⟨b3, 0, none⟩), .pointer (some ⟨b9, 0, none⟩), .pointer (some ⟨b5, 0, none⟩)] := hF 10 (by kernel_rfl)
                clear hF hD
                go_simp
                exact hK.out _ _ (Kp.refl _) rfl
              · intro a w' hk hF hD K hK
                have h11 : a.tmps[11]?.getD undef = .int .i64 (k : Int) := hF 11 (by kernel_rfl)
                clear hF hD
                go_simp
                exact hK.out _ _ (Kp.refl _) rfl
              · intro a w' hk hF hD K hK
                have h14 : a.tmps[14]?.getD undef = .pointer (some ⟨r14, 0, none⟩) := hF 14 (by kernel_rfl)
                clear hF hD
                go_simp
                exact hK.out _ _ (Kp.refl _) rfl
              · intro a w' hk hF hD K hK
                have h56 : a.tmps[56]?.getD undef = .pointer (some ⟨r14, 0, none⟩) := hD 2 (by kernel_rfl)
                clear hF hD
                have z0 := hk.cellS d0
                go_simp
                exact hK.out _ _ (Kp.refl _) rfl
              · intro a w' hk hF hD K hK
                have h12 : a.tmps[12]?.getD undef = .pointer (some ⟨r12, 0, none⟩) := hF 12 (by kernel_rfl)
                clear hF hD
                have z0 := hk.cellS c0
                have z1 := hk.cellS c1
                go_simp
                exact hK.out _ _ (Kp.refl _) rfl
              · intro a w' hk hF hD K hK
                have h4 : a.tmps[4]?.getD undef = .pointer (some ⟨b4, 0, none⟩) := hF 4 (by kernel_rfl)
                clear hF hD
                have z0 := hk.cellS d4
                go_simp
                exact hK.out _ _ (Kp.refl _) rfl
              · intro a w' hk hF hD K hK
                have h14 : a.tmps[14]?.getD undef = .pointer (some ⟨r14, 0, none⟩) := hF 14 (by kernel_rfl)
                clear hF hD
                go_simp
                exact hK.out _ _ (Kp.refl _) rfl
              · intro a w' hk hF hD K hK
                have h60 : a.tmps[60]?.getD undef = .pointer (some ⟨r14, 0, none⟩) := hD 6 (by kernel_rfl)
                clear hF hD
                have z0 := hk.cellS d0
                go_simp
                exact hK.out _ _ (Kp.refl _) rfl
              · intro a w' hk hF hD K hK
                have h58 : a.tmps[58]?.getD undef = .agg #[.slice (some ⟨bt, ot, none⟩) ts.length cq, .int .i64 bd] := hD 4 (by kernel_rfl)
                have h59 : a.tmps[59]?.getD undef = .slice Ab nb cb := hD 5 (by kernel_rfl)
                have h61 : a.tmps[61]?.getD undef = .int .i64 (j : Int) := hD 7 (by kernel_rfl)
                clear hF hD
                go_simp
                refine (Tighten_any _ _ ⟨ts, bd⟩ bx2 (j : Int) _ (HTM4.keep (pl_stable _) hk) (hO4.keep (pl_stable _) hk)).mono ?_
                rintro e w9 ⟨rfl, hk9⟩
                rw [hTB.out]
                exact hK.out _ _ hk9 rfl
              · exact fun i0 hi0 => by simp at hi0
              intro v w9 k9 hv
              have v0 : v 0 = .func (.func 74) #[] #[.pointer (some ⟨b4, 0, none⟩), .pointer (some ⟨b3, 0, none⟩), .pointer (some ⟨b9, 0, none⟩), .pointer (some ⟨b5, 0, none⟩)] := hv 0 (by omega)
              have v1 : v 1 = .int .i64 (k : Int) := hv 1 (by omega)
              have v3 : v 3 = .int .i64 (j : Int) := hv 3 (by omega)
              have v8 : v 8 = .agg #[.int .i64 lo, .int .i64 hi] := hv 8 (by omega)
              clear hv
              simp only [G2.growPut, G2.gSlot, List.getElem?_toArray, List.getElem?_cons_zero, List.getElem?_cons_succ, Option.bind_some, List.setIfInBounds_toArray, List.set_cons_zero, List.set_cons_succ, List.drop_succ_cons, List.drop_zero, v0, v1, v3, v8]
              have hI9 := hI4.kp k9
              have B12'' := B12'.kp k9 z12'
              have z12'' := Nat.lt_of_lt_of_le z12' k9.size
              have hLEN := hid hI9.len
              have hj : j < bx2.length := by have := hLEN.out; omega
              have hjn : j < n := by have := hLEN.out; omega
              clear c0 c1 d0 d4 HTM4 hO4 HTM B12' z12' hI hI4 B12 z12
              go_wp2_with fail
              refine (pass1_any bw b3 b4 b5 b9 x0 x1 (.slice Ag grs.length cg) x3 (.slice (some ⟨bq, oq, none⟩) rows.length cr) b c2 (.slice Ab nb cb) bx2 vs2 ss2 ch2 0 (k : Int) j lo hi w9 hI9.ps hI9.cb hb hj (by have := hLEN.out; omega)).mono ?_
              rintro e w5 (⟨h1, rfl, k5⟩ | ⟨h1, h2, rfl, k5⟩ | ⟨h1, h2, rfl, vs3, hP5, k5, ho5⟩)
              · have hI5 := (hI9.kp k5).rest (by have := hRUN.out; rw [runT_cons, doT_row, hTB.out, step_same h1] at this; exact this)
                have B5 := B12''.kp k5 z12''
                have z5 := Nat.lt_of_lt_of_le z12'' k5.size
                go_wp2_with fail
                go_roundw
                case rel => exact ⟨m + 1, _, _, _, _, _, by omega, by go_num, hI5, B5, z5, hnX⟩
                case measure => simp [intOf]; omega
              · have HFF : F.fine = false := by
                  rw [← hRUN.out, runT_cons, doT_row, hTB.out, step_out h1 (by have := hLEN.out; omega), runT_shut rfl]
                have HE := hid (PIn.panic k1 hz hI9 k5 HFF)
                go_wp2
                exact ⟨rfl, HE.out⟩
              · have hBn : ¬ B ≤ ss2.length := by have := hLEN.out; omega
                cases hem : emptyR ⟨lo, hi⟩ with
                | true =>
                  have HFF : Hid (F = ⟨ss2 ++ [⟨0, (k : Int), (j : Int)⟩], bx2, false, true⟩) := hid (by
                    rw [← hRUN.out, runT_cons, doT_row, hTB.out, step_end h1 hBn hem, runT_shut rfl])
                  obtain ⟨Av, nv, cv, rfl⟩ := hP5.stp.isSl
                  have HE := hid (PIn.close hFit k1 hz hI9 hP5 (by rw [List.length_set]; exact hLEN.out.2.1) k5 ho5 h2 (by rw [HFF.out]) (by rw [HFF.out]))
                  have q5 := hP5.w5.cell (j := 0) rfl
                  replace hem := hid hem
                  go_wp2
                  go_ret3
                  exact .inr ⟨by rw [HFF.out], _, _, _, _, by rw [HFF.out]; rfl, HE.out⟩
                | false =>
                  have hI5 := PIn.next hFit hI9 hP5 k5 ho5 h2 (by
                    have := row_fine hI9.fb hn hrk.out j hjn (by rw [hTB.out]; exact hem)
                    rw [hTB.out] at this
                    exact this) (by
                    have := hRUN.out
                    rw [runT_cons, doT_row, hTB.out, step_on h1 hBn hem (by omega), Int.toNat_natCast] at this
                    exact this)
                  have B5 := B12''.fx k5 z12'' hnX
                  have z5 := Nat.lt_of_lt_of_le z12'' k5.size
                  have hnX5 : ¬ StX bw b5 b9 (.slice Ab nb cb) vs3 r12 := fun e => by
                    rcases e with e | e | e | e | e
                    · exact hnX (.inl e)
                    · exact hnX (.inr (.inl e))
                    · exact hnX (.inr (.inr (.inl e)))
                    · exact hnX (.inr (.inr (.inr (.inl e))))
                    · rcases ho5 with h3 | h3
                      · exact hnX (.inr (.inr (.inr (.inr (h3 ▸ e)))))
                      · have := h3 r12 e
                        omega
                  replace hem := hid hem
                  go_wp2_with fail
                  go_roundw
                  case rel => exact ⟨m + 1, _, _, _, _, _, by omega, by go_num, hI5, B5, z5, hnX5⟩
                  case measure => simp [intOf]; omega
            · have hI5 := hI.rest (REST' := rowsT (k + 1) (rows.drop (k + 1)) ++ grsT 0 grs) (by have := hI.run; rw [List.drop_of_length_le (by omega)] at this; exact this)
              go_wp2_with fail
              go_roundw
              case rel => exact ⟨k + 1, _, _, _, _, _, by omega, by go_num, hI5⟩
              case measure => simp [intOf]; omega
    · have hI2 := hI.rest (REST' := grsT 0 grs) (by have := hI.run; rw [List.drop_of_length_le (by omega)] at this; exact this)
      clear hI
      have e3 := hI2.ps.w3.cell (j := 0) rfl
      have e4 := hI2.ps.wk.cell (j := 2) rfl
      go_wp2_with fail
      go_loopw [73] (fun i wr => ∃ (g : Nat) (bx2 : List Rng) (ss2 : List Stp) (vs2 : Value) (c2 : Nat) (ch2 : Bool), g ≤ grs.length ∧ i = .int .i64 (g : Int) ∧ PIn z X (PData css csg (.slice Ar rows.length cr) (.slice Ag grs.length cg) rows grs) n B b (.slice Ab nb cb) (.slice As ns cs) ss bw b3 b4 b5 b9 x0 x1 (.slice Ag grs.length cg) x3 (.slice Ar rows.length cr) F w1 (grsT g (grs.drop g)) wr bx2 ss2 vs2 c2 ch2) (fun i _ => grs.length - (intOf i).toNat)
      case atStart => exact ⟨0, _, _, _, _, _, Nat.zero_le _, rfl, hI2⟩
      case round =>
        clear hI2 e3 e4
        obtain ⟨gi, bx1, ss1, vs1, c1', ch1, hgi, rfl, hI⟩ := hrel
        obtain ⟨hcg1, hcg2⟩ := hI.rd.here.2.sl.caps
        by_cases hgl : gi < grs.length
        · obtain ⟨bq, oq, A', cq, rfl, hbq, i0, i1, i2, HT⟩ := hI.rd.here.2.gr hgl
          have hgk := hid (hg grs[gi] (List.getElem_mem hgl))
          have hI2 := hI.rest (by have := hI.run; rw [grsT_drop hgl] at this; exact this)
          have HTH := hid HT
          generalize grs[gi] = g at *
          obtain ⟨fi, sz, le⟩ := g
          dsimp only at *
          obtain ⟨f, s, hf, hs, hs1, hs6, hfs, hll, h36⟩ := gr_facts hgk.out
          dsimp only at hf hs hfs hll h36
          subst hf
          subst hs
          have hfn : f + le.length ≤ n := by rw [hll]; exact hfs
          clear hll hfs
          have k0 := (Kp.refl wr).alloc (.cells #[.int .i64 (f : Int), .int .i64 (s : Int), .slice A' le.length cq] 83)
          have B16 := Bx.new wr #[.int .i64 (f : Int), .int .i64 (s : Int), .slice A' le.length cq] 83
          have z16 := alloc_lt wr (.cells #[.int .i64 (f : Int), .int .i64 (s : Int), .slice A' le.length cq] 83)
          have hnX : ¬ StX bw b5 b9 (.slice Ab nb cb) vs1 wr.heap.size := stX_old hI.ps (Nat.le_refl _)
          clear HT
          go_upto_region 19 with (fail)
          generalize wr.alloc (.cells #[.int .i64 (f : Int), .int .i64 (s : Int), .slice A' le.length cq] 83) = w3 at *
          have hI3 := hI2.kp k0
          clear hI hI2 i0 i1 i2 hbq
          simp only [List.toList_toArray] at B16
          obtain ⟨r16, h16⟩ : ∃ r16, r16 = wr.heap.size := ⟨_, rfl⟩
          rw [← h16] at B16 z16 hnX ⊢
          replace h16 := hid h16
          have c2 := B16.cell (j := 2) rfl
          go_wp2_with fail
          go_loopw [81] (fun i wi => ∃ (m : Nat) (bx2 : List Rng) (ss2 : List Stp) (vs2 : Value) (c2 : Nat) (ch2 : Bool), m ≤ le.length ∧ i = .int .i64 (m : Int) ∧ PIn z X (PData css csg (.slice Ar rows.length cr) (.slice (some ⟨bq, oq, none⟩) grs.length cg) rows grs) n B b (.slice Ab nb cb) (.slice As ns cs) ss bw b3 b4 b5 b9 x0 x1 (.slice (some ⟨bq, oq, none⟩) grs.length cg) x3 (.slice Ar rows.length cr) F w1 (((List.range le.length).drop m).map (Tsk.gr gi ⟨(f : Int), (s : Int), le⟩) ++ grsT (gi + 1) (grs.drop (gi + 1))) wi bx2 ss2 vs2 c2 ch2 ∧ Bx wi r16 [.int .i64 (f : Int), .int .i64 (s : Int), .slice A' le.length cq] ∧ r16 < wi.heap.size ∧ ¬ StX bw b5 b9 (.slice Ab nb cb) vs2 r16) (fun i _ => le.length - (intOf i).toNat)
          case atStart => exact ⟨0, _, _, _, _, _, Nat.zero_le _, rfl, hI3, B16, z16, hnX⟩
          case round =>
            clear hI3 B16 z16 hnX c2 k0
            obtain ⟨m, bx2, ss2, vs2, c2', ch2, hm, rfl, hI, B16, z16, hnX⟩ := hrel
            obtain ⟨hct1, hct2⟩ := (HTH.out wr _ hI.rd.here.2).caps
            by_cases hmt : m < le.length
            · have HTM := HTH.out wr _ hI.rd.here.2
              obtain ⟨bt, ot, rfl, hbt, i1⟩ := HTM.ints hmt
              have hRUN : Hid (runT B ⟨ss2, bx2, true, true⟩ (Tsk.gr gi ⟨(f : Int), (s : Int), le⟩ m :: (((List.range le.length).drop (m + 1)).map (Tsk.gr gi ⟨(f : Int), (s : Int), le⟩) ++ grsT (gi + 1) (grs.drop (gi + 1)))) = F) := hid (by
                have := hI.run
                rw [grTs_drop hmt] at this
                exact this)
              have hLEN := hid hI.len
              have hjn : f + m < n := by omega
              have hj : f + m < bx2.length := by have := hLEN.out; omega
              obtain ⟨gb, cb2, hbe, hcb1, hcb2, -, hgb⟩ := hI.ps.own.row (by omega)
              obtain ⟨rfl, rfl, rfl⟩ : Ab = some ⟨gb, 0, none⟩ ∧ nb = bx2.length ∧ cb = cb2 := by
                injection hbe with h1 h2 h3
                exact ⟨h1, h2, h3⟩
              obtain ⟨r0, r1⟩ := hI.ps.own.rngCell rfl hj
              have hpk : Hid (pick bx2 ((f : Int) + (m : Int)) = bx2[f + m]) := hid (by rw [show (f : Int) + (m : Int) = ((f + m : Nat) : Int) by push_cast; rfl]; exact pick_at bx2 (f + m) hj)
              have hle : Hid (le.getD m 0 = le[m]) := hid (by rw [List.getD_eq_getElem?_getD, List.getElem?_eq_getElem hmt]; rfl)
              have hCUT : Hid (cutG ⟨(f : Int), (s : Int), le⟩ bx2 m = if le[m] ≤ bx2[f + m].hi ∧ closB ⟨(f : Int), (s : Int), le⟩ bx2 m = true then ⟨bx2[f + m].lo, le[m] - 1⟩ else bx2[f + m]) := hid (by
                unfold cutG
                dsimp only
                rw [hpk.out, hle.out])
              have hbd := not_bad (hI.fb.2.1 bx2[f + m] (List.getElem_mem hj))
              have hfar : -4000000 ≤ le[m] ∧ le[m] ≤ 4000000 := by
                have h0 := hgk.out
                unfold grOk at h0
                rw [Bool.and_eq_true] at h0
                have h1 := h0.2
                rw [Bool.not_eq_true'] at h1
                have h2 := List.any_eq_false.1 h1 le[m] (List.getElem_mem hmt)
                unfold farI at h2
                simp only [Bool.or_eq_true, decide_eq_true_eq, not_or] at h2
                omega
              have HPK : Hid (pick bx2 ((f + m : Nat) : Int) = bx2[f + m]) := hid (pick_at bx2 (f + m) hj)
              generalize bx2[f + m] = p at *
              generalize le[m] = x at *
              obtain ⟨lo, hi⟩ := p
              dsimp only at r0 r1 hbd
              have d4 := hI.ps.w4.cell (j := 0) rfl
              have c0 := B16.cell (j := 0) rfl
              have k0 := (Kp.refl wr).alloc (.cells #[.int .i64 lo, .int .i64 hi] 57)
              have B19 := Bx.new wr #[.int .i64 lo, .int .i64 hi] 57
              have z19 := alloc_lt wr (.cells #[.int .i64 lo, .int .i64 hi] 57)
              have hb19 : ∀ q, q ∈ [bw, b3, b4, b5, b9] ∨ (Value.slice (some ⟨gb, 0, none⟩) bx2.length cb).ownBlock = some q ∨ vs2.ownBlock = some q → q ≠ wr.heap.size := fun q hq => Nat.ne_of_lt (hI.ps.old q hq)
              have hz19 := Nat.le_trans hFit.zw hI.fx.size
              have hq19 : ¬ StX bw b5 b9 (.slice (some ⟨gb, 0, none⟩) bx2.length cb) vs2 wr.heap.size := stX_old hI.ps (Nat.le_refl _)
              have q1 : (0 : Int) ≤ m := by omega
              have q2 : (m : Int) < le.length := by omega
              have q3 : (0 : Int) ≤ (f : Int) + (m : Int) := by omega
              have q4 : (f : Int) + (m : Int) < (bx2.length : Int) := by omega
              have q5 : ((f : Int) + (m : Int)).toNat = f + m := by omega
              have hwB : ((f : Int) + (m : Int)) ≤ 1000 := by omega
              obtain ⟨hw1, hw2⟩ : wrap64 ((f : Int) + (m : Int)) = (f : Int) + (m : Int) ∧ IntKind.i64.wrap ((f : Int) + (m : Int)) = (f : Int) + (m : Int) := ⟨IntWalk.wrap64_in _ (by omega), IntWalk.i64_in _ (by omega)⟩
              go_upto_region 23 with (fail)
              generalize wr.alloc (.cells #[.int .i64 lo, .int .i64 hi] 57) = w4 at *
              have hI4 := hI.kp k0
              have B16' := B16.kp k0 z16
              have z16' := Nat.lt_of_lt_of_le z16 k0.size
              simp only [List.toList_toArray] at B19
              obtain ⟨r19, h19⟩ : ∃ r19, r19 = wr.heap.size := ⟨_, rfl⟩
              rw [← h19] at B19 z19 hq19 hb19 hz19 ⊢
              have hne19 : r16 ≠ r19 := by omega
              replace h19 := hid h19
              clear hw1 hw2
              clear r0 r1 i1 d4 c0 hI B16 z16 hbt hgb
              have a1 := B19.cell (j := 1) rfl
              by_cases hxh : hi < x
              · have e1 : decide (hi < x) = true := decide_eq_true hxh
                have hsame : Hid (cutG ⟨(f : Int), (s : Int), le⟩ bx2 m = ⟨lo, hi⟩) := hid (by rw [hCUT.out, if_neg (fun h => absurd h.1 (by show ¬ x ≤ hi; omega))])
                replace hxh := hid hxh
                have hIk := hI4
                have Bk := B16'
                have zk := z16'
                have hI9 := hIk.rest (by have := hRUN.out; rw [runT_cons, doT_gr, hsame.out, step_same (by rw [hpk.out]; exact sameR_iff.2 rfl)] at this; exact this)
                go_wp2_with fail
                go_roundw
                case rel => exact ⟨m + 1, _, _, _, _, _, by omega, by go_num, hI9, Bk, zk, hnX⟩
                case measure => simp [intOf]; omega
              · have e1 : decide (hi < x) = false := decide_eq_false hxh
                have f0 := B16'.cell (j := 0) rfl
                have f1 := B16'.cell (j := 1) rfl
                have f2 := B16'.cell (j := 2) rfl
                have d4 := hI4.ps.w4.cell (j := 0) rfl
                replace hxh := hid hxh
                go_wp2_with fail
                refine (closes_any _ _ ⟨(f : Int), (s : Int), le⟩ bx2 m w4 ⟨_, _, rfl, HTH.out w4 _ hI4.rd.here.2⟩ (hI4.ps.own.sl encRng_len) (by rw [hLEN.out.2.1]; exact hgk.out) (by rw [hLEN.out.2.1]; omega) hmt).mono ?_
                rintro e w5 ⟨rfl, k5⟩
                have hI5 := hI4.kp k5
                have B16'' := B16'.kp k5 z16'
                have z16'' := Nat.lt_of_lt_of_le z16' k5.size
                have B19' := B19.kp k5 z19
                have z19' := Nat.lt_of_lt_of_le z19 k5.size
                clear f0 f1 f2 d4 a1 hI4 B16' z16' B19 z19
                cases hcl : closB ⟨(f : Int), (s : Int), le⟩ bx2 m with
                | false =>
                  have hsame : Hid (cutG ⟨(f : Int), (s : Int), le⟩ bx2 m = ⟨lo, hi⟩) := hid (by rw [hCUT.out, if_neg (by rw [hcl]; simp)])
                  replace hcl := hid hcl
                  have hIk := hI5
                  have Bk := B16''
                  have zk := z16''
                  have hI9 := hIk.rest (by have := hRUN.out; rw [runT_cons, doT_gr, hsame.out, step_same (by rw [hpk.out]; exact sameR_iff.2 rfl)] at this; exact this)
                  go_wp2_with fail
                  go_roundw
                  case rel => exact ⟨m + 1, _, _, _, _, _, by omega, by go_num, hI9, Bk, zk, hnX⟩
                  case measure => simp [intOf]; omega
                | true =>
                  have hCT : Hid (cutG ⟨(f : Int), (s : Int), le⟩ bx2 m = ⟨lo, x - 1⟩) := hid (by rw [hCUT.out, if_pos ⟨by have := hxh.out; show x ≤ hi; omega, hcl⟩])
                  replace hcl := hid hcl
                  have g1 := B19'.cell (j := 1) rfl
                  have g1f := B19'.free (j := 1) (by simp)
                  have B19s := B19'.set (j := 1) (by simp) (.int .i64 (x - 1))
                  have ks : Fx (fun q => q = r19) w5 (w5.setCell ⟨r19, 1, none⟩ (.int .i64 (x - 1))) := (Fx.refl (fun q => q = r19) w5).set1 ⟨r19, 1, none⟩ _ (.inl rfl)
                  have hI6 := hI5.fx1 ks hz19 hb19
                  have B6 := B16''.fx ks z16'' hne19
                  have z6 := Nat.lt_of_lt_of_le z16'' ks.size
                  obtain ⟨hy1, hy2⟩ : wrap64 (x - 1) = x - 1 ∧ IntKind.i64.wrap (x - 1) = x - 1 := ⟨IntWalk.wrap64_in _ (by omega), IntWalk.i64_in _ (by omega)⟩
                  go_upto_region 25 with (fail)
                  generalize w5.setCell ⟨r19, 1, none⟩ (.int .i64 (x - 1)) = w6 at *
                  clear g1 g1f hy1 hy2 hI5 B16'' z16'' B19'
                  simp only [List.set_cons_zero, List.set_cons_succ] at B19s
                  have g0 := B19s.cell (j := 0) rfl
                  have g1 := B19s.cell (j := 1) rfl
                  have f0 := B6.cell (j := 0) rfl
                  obtain ⟨hw1, hw2⟩ : wrap64 ((f : Int) + (m : Int)) = ((f + m : Nat) : Int) ∧ IntKind.i64.wrap ((f : Int) + (m : Int)) = ((f + m : Nat) : Int) := ⟨by rw [IntWalk.wrap64_in _ (by omega)]; push_cast; rfl, by rw [IntWalk.i64_in _ (by omega)]; push_cast; rfl⟩
                  clear hw1 hw2
                  go_wp2_with fail
                  have hpc : (f : Int) + (m : Int) = ((f + m : Nat) : Int) := by push_cast; rfl
                  have hDT : doT B ⟨ss2, bx2, true, true⟩ (.gr gi ⟨(f : Int), (s : Int), le⟩ m) = stepX B ⟨ss2, bx2, true, true⟩ 1 (gi : Int) ((f + m : Nat) : Int) ⟨lo, x - 1⟩ := by
                    rw [doT_gr, hCT.out]
                    dsimp only
                    rw [hpc]
                  replace hDT := hid hDT
                  rw [hpc]
                  refine (pass1_any bw b3 b4 b5 b9 x0 x1 (.slice (some ⟨bq, oq, none⟩) grs.length cg) x3 (.slice Ar rows.length cr) b c2' (.slice (some ⟨gb, 0, none⟩) bx2.length cb) bx2 vs2 ss2 ch2 1 (gi : Int) (f + m) lo (x - 1) w6 hI6.ps hI6.cb hb hj (by have := hLEN.out; omega)).mono ?_
                  clear hpc
                  rintro e w7 (⟨h1, rfl, k7⟩ | ⟨h1, h2, rfl, k7⟩ | ⟨h1, h2, rfl, vs3, hP5, k7, ho5⟩)
                  · have hI9 := (hI6.kp k7).rest (by have := hRUN.out; rw [runT_cons, hDT.out, step_same h1] at this; exact this)
                    have B9 := B6.kp k7 z6
                    have z9 := Nat.lt_of_lt_of_le z6 k7.size
                    clear q1 q2 q3 q4 q5 hwB
                    go_wp2_with fail
                    go_roundw
                    case rel => exact ⟨m + 1, _, _, _, _, _, by omega, by go_num, hI9, B9, z9, hnX⟩
                    case measure => simp [intOf]; omega
                  · have HFF : F.fine = false := by
                      rw [← hRUN.out, runT_cons, hDT.out, step_out h1 (by have := hLEN.out; omega), runT_shut rfl]
                    have HE := hid (PIn.panic k1 hz hI6 k7 HFF)
                    clear q1 q2 q3 q4 q5 hwB
                    go_wp2
                    exact ⟨rfl, HE.out⟩
                  · have hBn : ¬ B ≤ ss2.length := by have := hLEN.out; omega
                    cases hem : emptyR ⟨lo, x - 1⟩ with
                    | true =>
                      have HFF : Hid (F = ⟨ss2 ++ [⟨1, (gi : Int), ((f + m : Nat) : Int)⟩], bx2, false, true⟩) := hid (by
                        rw [← hRUN.out, runT_cons, hDT.out, step_end h1 hBn hem, runT_shut rfl])
                      obtain ⟨Av, nv, cv, rfl⟩ := hP5.stp.isSl
                      have HE := hid (PIn.close hFit k1 hz hI6 hP5 (by rw [List.length_set]; exact hLEN.out.2.1) k7 ho5 h2 (by rw [HFF.out]) (by rw [HFF.out]))
                      have q5' := hP5.w5.cell (j := 0) rfl
                      replace hem := hid hem
                      clear q1 q2 q3 q4 q5 hwB
                      go_wp2
                      go_ret3
                      exact .inr ⟨by rw [HFF.out], _, _, _, _, by rw [HFF.out]; rfl, HE.out⟩
                    | false =>
                      have hI9 := PIn.next hFit hI6 hP5 k7 ho5 h2 (by
                        have := cut_fine hI6.fb (g := ⟨(f : Int), (s : Int), le⟩) m f rfl hjn (by rw [hCT.out]; exact hem)
                        rw [hCT.out] at this
                        exact this) (by
                        have := hRUN.out
                        rw [runT_cons, hDT.out, step_on h1 hBn hem (by omega), Int.toNat_natCast] at this
                        exact this)
                      have B9 := B6.fx k7 z6 hnX
                      have z9 := Nat.lt_of_lt_of_le z6 k7.size
                      have hnX5 : ¬ StX bw b5 b9 (.slice (some ⟨gb, 0, none⟩) bx2.length cb) vs3 r16 := fun e => by
                        rcases e with e | e | e | e | e
                        · exact hnX (.inl e)
                        · exact hnX (.inr (.inl e))
                        · exact hnX (.inr (.inr (.inl e)))
                        · exact hnX (.inr (.inr (.inr (.inl e))))
                        · rcases ho5 with h3 | h3
                          · exact hnX (.inr (.inr (.inr (.inr (h3 ▸ e)))))
                          · have := h3 r16 e
                            omega
                      replace hem := hid hem
                      clear q1 q2 q3 q4 q5 hwB
                      go_wp2_with fail
                      go_roundw
                      case rel => exact ⟨m + 1, _, _, _, _, _, by omega, by go_num, hI9, B9, z9, hnX5⟩
                      case measure => simp [intOf]; omega
            · have hI5 := hI.rest (REST' := grsT (gi + 1) (grs.drop (gi + 1))) (by have := hI.run; rw [List.drop_of_length_le (by simp; omega)] at this; exact this)
              go_wp2_with fail
              go_roundw
              case rel => exact ⟨gi + 1, _, _, _, _, _, by omega, by go_num, hI5⟩
              case measure => simp [intOf]; omega
        · have HFF : Hid (F = ⟨ss1, bx1, true, true⟩) := hid (by have := hI.run; rw [List.drop_of_length_le (by omega)] at this; exact this.symm)
          have d9 := hI.ps.w9.cell (j := 0) rfl
          have d5 := hI.ps.w5.cell (j := 0) rfl
          obtain ⟨Av, nv, cv, rfl⟩ := hI.ps.stp.isSl
          have l5 := hI.ps.w5.lt (by simp)
          have l9 := hI.ps.w9.lt (by simp)
          go_wp2_with fail
          refine wp_region_kw (by kernel_rfl) (by kernel_rfl) ?_
          repeat (go_big_quiet_step ((fail)))
          refine wpQuiet_nil ?_
          intro _ hw'
          obtain ⟨u, hw''⟩ := hw'
          subst hw''
          have hI9 := hI.kp (kw_kp wr u)
          generalize Kw wr u = w9 at *
          have HE := hid (PIn.stop k1 hz hI9 (by rw [HFF.out]) ch1 (fun _ => ⟨by rw [HFF.out], rfl⟩))
          go_wp2
          go_ret3
          exact .inr ⟨by rw [HFF.out], _, _, _, _, by rw [HFF.out]; rfl, HE.out⟩
end Go.Proofs.YtlbhidiliogflaaGreat
