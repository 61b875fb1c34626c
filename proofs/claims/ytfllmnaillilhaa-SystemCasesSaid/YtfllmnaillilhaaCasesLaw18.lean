
/-
SystemCases: for every system the law returns true and leaves its argument as it was.
-/
import Derived.Test.YtfllmnaillilhaaAwake18
import Derived.Test.YtfllmnaillilhaaFew
import Derived.Test.YtfllmnaillilhaaPlain8
import Derived.Test.YtfllmnaillilhaaSys20
import Derived.Test.YtfllmnaillilhaaSysOpen
namespace Go.Proofs.Ytfllmnaillilhaa.lawCases18
set_option linter.unusedSimpArgs false
set_option linter.unusedVariables false
open Go.ChangeShapes Go.WideShapes Go.ChangeAt Go.RowKit

theorem stSysM : SliceT Try.prog 53 27 4 96 := SliceT.mk' Try.underlying53 (z := .agg #[.slice none 0 0, .slice none 0 0, .slice none 0 0, .slice none 0 0]) (by kernel_rfl) rfl (by omega)
theorem OwS.fit {S : Nat → Prop} {w : World} {R : World → Prop} (h : OwS S w R) : OwS (fun q => S q ∧ q < w.heap.size) w R := fun w' h1 h2 => h w' h1 fun k hk hlt => h2 k ⟨hk, hlt⟩ hlt
theorem NL.lit0 {α : Type} (R : Rd α) (e size : Nat) (w : World) : NL R e size (fun q => w.heap.size ≤ q) (w.alloc (.cells #[] e)) (.slice (some ⟨w.heap.size, 0, none⟩) 0 0) [] [] :=
  ⟨(Own.lit (base := w.heap.size) encC w #[] [] (Nat.le_refl _) (by simp) (by simp) rfl).less (Nat.zero_le _), rfl, fun q hq => by
    simp [Value.ownBlock] at hq
    show w.heap.size ≤ q
    omega, fun k h1 _ => absurd h1 (by simp)⟩
set_option maxRecDepth 10000 in
set_option maxHeartbeats 16000000 in
theorem walk (va : Value) (s : Sys) (w : World) (hs : SysV w va s) :
    Calls Try.prog 6 #[va] w fun e w' => e = .returned (.bool true) ∧ Kp w w' := by
  have hs' := hs
  obtain ⟨Ab, cb, Ar, cr, Ag, cg, Ac, cc, rfl, hb, hr, hg, hc⟩ := hs'
  obtain ⟨l1, m1⟩ := hb.caps
  obtain ⟨l2, m2⟩ := hr.caps
  obtain ⟨l3, m3⟩ := hg.caps
  obtain ⟨l4, m4⟩ := hc.caps
  have hb' := hb
  have k0 := (Kp.refl w).alloc (.cells #[.slice Ab s.box.length cb, .slice Ar s.rows.length cr, .slice Ag s.graphs.length cg, .slice Ac s.cases.length cc] 27)
  have B0 := SysB.new w #[.slice Ab s.box.length cb, .slice Ar s.rows.length cr, .slice Ag s.graphs.length cg, .slice Ac s.cases.length cc] 27
  have z0 := alloc_lt w (.cells #[.slice Ab s.box.length cb, .slice Ar s.rows.length cr, .slice Ag s.graphs.length cg, .slice Ac s.cases.length cc] 27)
  go_enter Try.func6, Try.ntmps6
  go_wp2_with fail
  try rw [← World.size_alloc w (.cells #[.slice Ab s.box.length cb, .slice Ar s.rows.length cr, .slice Ag s.graphs.length cg, .slice Ac s.cases.length cc] 27)]
  generalize w.alloc (.cells #[.slice Ab s.box.length cb, .slice Ar s.rows.length cr, .slice Ag s.graphs.length cg, .slice Ac s.cases.length cc] 27) = w0 at *
  generalize w.heap.size = b0 at *
  refine (awake18_any _).mono ?_
  rintro e w1 ⟨rfl, k1⟩
  replace B0 := B0.keep k1
  replace k1 := k0.trans k1
  obtain ⟨c0, c1, c2, c3⟩ := B0.cells
  have hgl := block_lt_of_cell c0
  go_wp2_with fail
  refine (cut18_any _ s _ (hs.keep k1)).mono ?_
  rintro e w2 ⟨rfl, k2⟩
  replace B0 := B0.keep k2
  replace k2 := k1.trans k2
  clear c0 c1 c2 c3 hgl k1
  obtain ⟨c0, c1, c2, c3⟩ := B0.cells
  have hgl := block_lt_of_cell c0
  cases hC : cutB s with
  | false =>
    go_wp2
    go_ret
    exact ⟨rfl, k2⟩
  | true =>
    clear hC
    go_wp2_with fail
    refine (qFew_any _ s 300 _ (hs.keep k2)).mono ?_
    rintro e w3 ⟨rfl, k3⟩
    replace B0 := B0.keep k3
    replace k3 := k2.trans k3
    clear c0 c1 c2 c3 hgl k2
    obtain ⟨c0, c1, c2, c3⟩ := B0.cells
    have hgl := block_lt_of_cell c0
    cases hF : fewB s 300 with
    | false =>
      go_wp2
      go_ret
      exact ⟨rfl, k3⟩
    | true =>
      obtain ⟨f1, f2, f3, f4, hV, f6, f7⟩ := few_parts hF
      clear hF
      by_cases hc0 : s.cases.length = 0
      · have e1 : ((s.cases.length : Int) == 0) = true := by simpa using hc0
        clear hc0
        go_wp2
        go_ret
        exact ⟨rfl, k3⟩
      · have e1 : ((s.cases.length : Int) == 0) = false := by simpa using hc0
        have e2 : (s.cases.length == 0) = false := by simpa using hc0
        have HV := hid hV
        have HB := hid (validS_parts hV).1
        have HE := hid (validS_parts hV).2.1
        have HN6 := hid (fun l (hl : l ∈ s.cases) => show s.rows.length + l.length ≤ 1024 by have := f6 l hl; omega)
        have HNE : Hid (s.cases ≠ []) := hid (fun h => hc0 (by rw [h]; rfl))
        have HBR := hid (fun (k : Nat) (hk : k < s.cases.length) => show BranchR s (k : Int) = (brS s s.cases[k], 0) by
          unfold BranchR
          have h2 : ¬ 1024 < s.rows.length + s.cases[k].length := by have := f6 s.cases[k] (List.getElem_mem hk); omega
          have e : s.cases.getD k [] = s.cases[k] := by simp [List.getD, hk]
          rw [hV, if_pos rfl, if_pos (by omega), Int.toNat_natCast, e, if_neg h2]
          rfl)
        clear hV f3 f6 f7 hc0 f2
        have hb0z : b0 < w3.heap.size := hgl
        have hzw : w.heap.size ≤ w3.heap.size := k3.size
        have hN0 := NL.lit0 rdSys 27 4 w3
        have k4 := k3.trans ((Kp.refl w3).alloc (.cells #[] 27))
        have B4 := B0.keep ((Kp.refl w3).alloc (.cells #[] 27))
        have hz4 : w3.heap.size < (w3.alloc (.cells #[] 27)).heap.size := alloc_lt _ _
        go_wp2
        clear c0 c1 c2 c3 hgl B0 e1 e2
        generalize w3.alloc (.cells #[] 27) = w4 at *
        generalize w3.heap.size = z3 at *
        obtain ⟨c0, c1, c2, c3⟩ := B4.cells
        have hgl := block_lt_of_cell c0
        go_loopw [3, 32] (fun v i wr => ∃ (k : Nat) (css : List (Elm 4)) (brs : List Sys), k ≤ s.cases.length ∧ i = .int .i64 k ∧ NL rdSys 27 4 (fun q => z3 ≤ q) wr v css brs ∧ Hid (brs = (s.cases.take k).map (brS s)) ∧ brs.length = k ∧ Kp w wr ∧ z3 < wr.heap.size ∧ wr.heap[b0]? = w4.heap[b0]?) (fun _ i _ => s.cases.length - (intOf i).toNat)
        case atStart => exact ⟨0, [], [], Nat.zero_le _, rfl, hN0, hid (by simp), rfl, k4, hz4, rfl⟩
        case round =>
          clear hN0
          obtain ⟨k, css, brs, hk, rfl, hN, HBS, hbl, hkr, hz, hb⟩ := hrel
          have d0 : wr.cell? ⟨b0, 0, none⟩ = _ := (World.cell?_of_block hb).trans c0
          have d1 : wr.cell? ⟨b0, 1, none⟩ = _ := (World.cell?_of_block hb).trans c1
          have d2 : wr.cell? ⟨b0, 2, none⟩ = _ := (World.cell?_of_block hb).trans c2
          have d3 : wr.cell? ⟨b0, 3, none⟩ = _ := (World.cell?_of_block hb).trans c3
          have hgr := block_lt_of_cell d0
          obtain ⟨A, c, rfl, _, _⟩ := hN.form
          have hcl := hN.len
          have hrow := hN.own.blk_lt
          have hrz := hN.blk
          replace hcl := hid hcl
          replace hbl := hid hbl
          by_cases hlt : k < s.cases.length
          · have HBK := hid (HBR.out k hlt)
            have HTK : Hid ((s.cases.take (k + 1)).map (brS s) = (s.cases.take k).map (brS s) ++ [brS s s.cases[k]]) := hid (by rw [List.take_succ_eq_append_getElem hlt, List.map_append]; rfl)
            have hyc : (brS s s.cases[k]).cases.length = 0 := rfl
            clear HBR hgl
            go_wp2_with fail
            refine (sBranch_any _ s k _ (hs.keep hkr)).mono ?_
            rw [HBK.out]
            dsimp only
            generalize brS s s.cases[k] = y at *
            rintro e w6 ⟨v6, rfl, o6, k6⟩
            obtain ⟨D1, g1, D2, g2, D3, g3, D4, g4, rfl, -, -, -, -⟩ := o6.here
            rw [hyc] at o6 ⊢
            have kAB := ((Kp.refl w6).alloc (.cells #[.slice D1 y.box.length g1, .slice D2 y.rows.length g2, .slice D3 y.graphs.length g3, .slice D4 0 g4] 27)).alloc (.cells #[.slice D1 y.box.length g1, .slice D2 y.rows.length g2, .slice D3 y.graphs.length g3, .slice D4 0 g4] 27)
            have hN8 := (hN.kp k6).kp kAB
            have hsrc := Sl.one (R := Pl encC) (w6.alloc (.cells #[.slice D1 y.box.length g1, .slice D2 y.rows.length g2, .slice D3 y.graphs.length g3, .slice D4 0 g4] 27)) [.slice D1 y.box.length g1, .slice D2 y.rows.length g2, .slice D3 y.graphs.length g3, .slice D4 0 g4] 27 4 (⟨[.slice D1 y.box.length g1, .slice D2 y.rows.length g2, .slice D3 y.graphs.length g3, .slice D4 0 g4], rfl, by simp [Value.oneCell']⟩ : Elm 4) rfl rfl
            rw [World.size_alloc] at hsrc
            have oF := (OwS.fit o6).kp kAB
            have hbW := (kAB.block (k := b0) (by have := k6.size; omega)).trans ((k6.block hgr).trans hb)
            have kkW := (hkr.trans k6).trans kAB
            have hzW : ((w6.alloc (.cells #[.slice D1 y.box.length g1, .slice D2 y.rows.length g2, .slice D3 y.graphs.length g3, .slice D4 0 g4] 27)).alloc (.cells #[.slice D1 y.box.length g1, .slice D2 y.rows.length g2, .slice D3 y.graphs.length g3, .slice D4 0 g4] 27)).heap.size = w6.heap.size + 2 := by simp
            have hk6s := k6.size
            replace hzW := hid hzW
            clear hN o6 hyc
            go_wp2_with (at_builtin; refine wpl_append_flat (l := css) (m := [(⟨[.slice D1 y.box.length g1, .slice D2 y.rows.length g2, .slice D3 y.graphs.length g3, .slice D4 0 g4], rfl, by simp [Value.oneCell']⟩ : Elm 4)]) rfl (.tmp 49) (.tmp 51) rfl stSysM encC_len encC_one rfl hN8.own rfl hsrc (by have := hcl.out; have := hbl.out; simp; omega) (by have := hcl.out; have := hbl.out; simp; omega) (Nat.zero_le _) ?_; intro v8 w8 hown8 hgrow8 hat8 hnil8)
            have hN9 := hN8.snoc (S' := fun q => z3 ≤ q) (x := y) hown8 hgrow8 hat8 (fun q => wr.heap.size ≤ q ∧ q < w6.heap.size) (fun q hq => ⟨by show z3 ≤ q; omega, fun e => by have := hrow q e; omega, by have := hzW.out; omega⟩) oF (fun q hq => hq) (by show z3 ≤ _; have := hzW.out; omega)
            go_roundw
            case rel => exact ⟨k + 1, _, brs ++ [y], by omega, by go_num, hN9, hid (by rw [HTK.out, ← HBS.out]), by simp [hbl.out], kkW.grown hgrow8 (fun q hq => by have := hrz q hq; omega), by have := hgrow8.size; have := hzW.out; omega, (hgrow8.block b0 (by have := hzW.out; omega) (fun e => by have := hrz b0 e.symm; omega)).trans hbW⟩
            case measure => simp [intOf]; omega
          · have HBF : Hid (brs = s.cases.map (brS s)) := hid (by rw [HBS.out, List.take_of_length_le (by omega)])
            clear HBS HBR hgl c0 c1 c2 c3 B4
            go_wp2_with fail
            refine (rLeast_any _ s.box _ (hb'.keep (pl_stable _) hkr) (by omega)).mono ?_
            rintro e w9 ⟨v9, rfl, o9, k9⟩
            generalize hM : s.box.map (·.lo) = M at *
            have HAL : Hid (∃ t, allS s.box = M :: t) := hid (by rw [← hM]; exact allS_head s.box (wide_of HE.out))
            clear hM
            have ho9 := o9.ge
            have i9 := o9.sl encInt_len
            obtain ⟨A9, g9, rfl, _, _⟩ := o9.form
            have hgv := o9.blk_lt
            have kP := (Kp.refl w9).alloc (.cells #[.slice A9 M.length g9] 45)
            have hP := Bx.new w9 #[.slice A9 M.length g9] 45
            have oP := (o9.kp kP).less (Nat.zero_le _)
            have hzP := alloc_lt w9 (.cells #[.slice A9 M.length g9] 45)
            have oN := (OwS.fit ((hN.kp k9).owS)).kp kP
            have hbP := (kP.block (k := b0) (by have := k9.size; omega)).trans ((k9.block hgr).trans hb)
            have kkP := (hkr.trans k9).trans kP
            have hk9s := k9.size
            have hpz : w.heap.size ≤ w9.heap.size := by have := hkr.size; omega
            have hb0p : b0 < w9.heap.size := by omega
            have hvp : (Value.slice A9 M.length g9).ownBlock ≠ some w9.heap.size := fun e => by have := hgv _ e; omega
            have e0 := kP.cellS (k9.cellS d0)
            have e1 := kP.cellS (k9.cellS d1)
            have e2 := kP.cellS (k9.cellS d2)
            have e3 := kP.cellS (k9.cellS d3)
            clear hN o9 i9 kP hgv ho9 d0 d1 d2 d3 hrow hrz
            go_wp2
            generalize w9.alloc (.cells #[.slice A9 M.length g9] 45) = w10 at *
            generalize w9.heap.size = p at *
            have hS := hs.keep kkP
            go_loopg [8] ((allS s.box).length + 1) (fun gk m wr => (m = .bool true ∧ ∃ (pre rest : List (List Int)) (L : List Int) (AL : Option Addr) (cL : Nat), Hid (allS s.box = pre ++ L :: rest) ∧ rest.length < gk ∧ Bx wr p [.slice AL L.length cL] ∧ Own encInt 3 1 0 wr (.slice AL L.length cL) L ∧ (Value.slice AL L.length cL).ownBlock ≠ some p ∧ Kg w10 wr p) ∨ (m = .bool false ∧ Kg w10 wr p))
            case atStart =>
              obtain ⟨t, ht⟩ := HAL.out
              exact .inl ⟨rfl, [], t, M, A9, g9, hid ht, by rw [ht]; simp; omega, hP, oP, hvp, Kg.refl _ _⟩
            case round =>
              clear hP oP hvp
              rcases hrel with ⟨rfl, pre, rest, L, AL, cL, HL, hgk, hBp, hOL, hLp, hkg⟩ | ⟨rfl, hkg⟩
              · have kw := Kg.to_kp kkP hkg hpz
                have hbrs := (oN.kg hkg (fun h => by omega)).here.sl
                have d0 := hkg.cellS e0 (by show b0 ≠ p; omega)
                have d1 := hkg.cellS e1 (by show b0 ≠ p; omega)
                have d2 := hkg.cellS e2 (by show b0 ≠ p; omega)
                have d3 := hkg.cellS e3 (by show b0 ≠ p; omega)
                have hgl := block_lt_of_cell d0
                have p0 := hBp.cell (j := 0) rfl
                have hpl := block_lt_of_cell p0
                have hIL := hOL.sl encInt_len
                have hin : containsB s.box L = true := (inB_iff _ _).1 ((allS_mem s.box L).1 (by rw [HL.out]; simp))
                have HN := hid (next_all HB.out HE.out HL.out)
                obtain ⟨hb1, hb2⟩ := br_first HV.out HN6.out L hin HNE.out
                rw [← HBF.out] at hb1 hb2
                replace hin := hid hin
                replace hb1 := hid hb1
                replace hb2 := hid hb2
                obtain ⟨m7, m8⟩ := hIL.caps
                go_wp2_with fail
                refine (IndexFuncSystem_any (fun x => holdsS x L) 28 [.pointer (some ⟨p, 0, none⟩)] _ brs _ hbrs Cases1_real (fun w' Ab cb Ar cr Ag cg Ac cc r hk ht => Cases1_any p _ r AL cL L w' ht (hk.cellS p0) (hIL.keep (pl_stable _) hk))).mono ?_
                rintro e w11 ⟨rfl, k11⟩
                generalize idxF (fun x => holdsS x L) 0 brs = F at *
                replace d0 := k11.cellS d0
                replace d1 := k11.cellS d1
                replace d2 := k11.cellS d2
                replace d3 := k11.cellS d3
                replace p0 := k11.cellS p0
                replace hgl := block_lt_of_cell d0
                replace hpl := block_lt_of_cell p0
                replace kw := kw.trans k11
                replace hIL := hIL.keep (pl_stable _) k11
                replace hOL := hOL.kp k11
                replace hBp := hBp.kp k11 (by have := hBp.lt (by simp); exact this)
                replace hkg := hkg.trans (k11.kg p)
                clear hbrs k11
                go_wp2_with fail
                refine (sHolds_any _ _ s L _ (hs.keep kw) hIL).mono ?_
                rw [hb1.out]
                rintro e w12 ⟨rfl, k12⟩
                replace d0 := k12.cellS d0
                replace d1 := k12.cellS d1
                replace d2 := k12.cellS d2
                replace d3 := k12.cellS d3
                replace p0 := k12.cellS p0
                replace hgl := block_lt_of_cell d0
                replace hpl := block_lt_of_cell p0
                replace kw := kw.trans k12
                replace hIL := hIL.keep (pl_stable _) k12
                replace hOL := hOL.kp k12
                replace hBp := hBp.kp k12 (by have := hBp.lt (by simp); exact this)
                replace hkg := hkg.trans (k12.kg p)
                clear k12
                by_cases hF : 0 ≤ F
                · have t1 : decide (0 ≤ F) = true := decide_eq_true hF
                  have hgF := hid (hb2.out hF)
                  clear hb1 hb2
                  go_wp2_with fail
                  refine (sCase_any _ _ s L _ (hs.keep kw) hIL HV.out hin.out).mono ?_
                  rw [← hgF.out]
                  unfold altR
                  rw [t1, show max F 0 = F by omega]
                  rintro e w13 ⟨rfl, k13⟩
                  replace d0 := k13.cellS d0
                  replace d1 := k13.cellS d1
                  replace d2 := k13.cellS d2
                  replace d3 := k13.cellS d3
                  replace p0 := k13.cellS p0
                  replace hgl := block_lt_of_cell d0
                  replace hpl := block_lt_of_cell p0
                  replace kw := kw.trans k13
                  replace hIL := hIL.keep (pl_stable _) k13
                  replace hBp := hBp.kp k13 (by have := hBp.lt (by simp); exact this)
                  replace hkg := hkg.trans (k13.kg p)
                  clear k13 hOL
                  go_wp2_with fail
                  refine (rNext_any _ _ s.box L _ (hb'.keep (pl_stable _) kw) hIL).mono ?_
                  rw [HN.out]
                  rintro e w14 ⟨v', rfl, own', k14⟩
                  replace p0 := k14.cellS p0
                  have hpf := (hBp.kp k14 (by have := hBp.lt (by simp); exact this)).free (j := 0) (by simp)
                  have hpl2 := block_lt_of_cell p0
                  have hge := own'.ge
                  have hsz := k14.size
                  obtain ⟨A14, g14, rfl, _, _⟩ := own'.form
                  have hB14 := (hBp.kp k14 (by have := hBp.lt (by simp); exact this)).set (j := 0) (by simp) (.slice A14 (rest.head?.getD []).length g14)
                  have hO14 := (own'.kg (g := p) (w' := w14.setCell ⟨p, 0, none⟩ (.slice A14 (rest.head?.getD []).length g14)) ((Kg.refl _ _).set (.inl rfl) _) (by omega)).less (Nat.zero_le _)
                  have hK14 := (hkg.trans (k14.kg p)).trans ((Kg.refl w14 p).set (p := ⟨p, 0, none⟩) (.inl rfl) (.slice A14 (rest.head?.getD []).length g14))
                  have hne : (Value.slice A14 (rest.head?.getD []).length g14).ownBlock ≠ some p := fun e => by have := hge p e; omega
                  clear hBp hkg d0 d1 d2 d3 hgl own' hge k14
                  cases rest with
                  | nil =>
                    dsimp only [List.head?_nil, Option.getD_none, List.length_nil] at *
                    go_wp2
                    go_roundg 0
                    case measure => first | omega | (simp at hgk; omega)
                    case rel => exact .inr ⟨rfl, hK14⟩
                  | cons L2 rest =>
                    dsimp only [List.head?_cons, Option.getD_some] at *
                    go_wp2
                    go_roundg (rest.length + 1)
                    case measure => first | omega | (simp at hgk; omega)
                    case rel => exact .inl ⟨rfl, pre ++ [L], rest, L2, A14, g14, hid (by rw [HL.out]; simp), by omega, hB14, hO14, hne, hK14⟩
                · have t1 : decide (0 ≤ F) = false := decide_eq_false hF
                  clear hb1 hb2
                  go_wp2_with fail
                  refine (sCase_any _ _ s L _ (hs.keep kw) hIL HV.out hin.out).mono ?_
                  unfold altR
                  rintro e w13 ⟨rfl, k13⟩
                  generalize idxF (goodC L) 0 s.cases = G at *
                  replace d0 := k13.cellS d0
                  replace d1 := k13.cellS d1
                  replace d2 := k13.cellS d2
                  replace d3 := k13.cellS d3
                  replace p0 := k13.cellS p0
                  replace hgl := block_lt_of_cell d0
                  replace hpl := block_lt_of_cell p0
                  replace kw := kw.trans k13
                  replace hIL := hIL.keep (pl_stable _) k13
                  replace hBp := hBp.kp k13 (by have := hBp.lt (by simp); exact this)
                  replace hkg := hkg.trans (k13.kg p)
                  clear k13 hOL
                  go_wp2_with fail
                  refine (rNext_any _ _ s.box L _ (hb'.keep (pl_stable _) kw) hIL).mono ?_
                  rw [HN.out]
                  rintro e w14 ⟨v', rfl, own', k14⟩
                  replace p0 := k14.cellS p0
                  have hpf := (hBp.kp k14 (by have := hBp.lt (by simp); exact this)).free (j := 0) (by simp)
                  have hpl2 := block_lt_of_cell p0
                  have hge := own'.ge
                  have hsz := k14.size
                  obtain ⟨A14, g14, rfl, _, _⟩ := own'.form
                  have hB14 := (hBp.kp k14 (by have := hBp.lt (by simp); exact this)).set (j := 0) (by simp) (.slice A14 (rest.head?.getD []).length g14)
                  have hO14 := (own'.kg (g := p) (w' := w14.setCell ⟨p, 0, none⟩ (.slice A14 (rest.head?.getD []).length g14)) ((Kg.refl _ _).set (.inl rfl) _) (by omega)).less (Nat.zero_le _)
                  have hK14 := (hkg.trans (k14.kg p)).trans ((Kg.refl w14 p).set (p := ⟨p, 0, none⟩) (.inl rfl) (.slice A14 (rest.head?.getD []).length g14))
                  have hne : (Value.slice A14 (rest.head?.getD []).length g14).ownBlock ≠ some p := fun e => by have := hge p e; omega
                  clear hBp hkg d0 d1 d2 d3 hgl own' hge k14
                  cases rest with
                  | nil =>
                    dsimp only [List.head?_nil, Option.getD_none, List.length_nil] at *
                    go_wp2
                    go_roundg 0
                    case measure => first | omega | (simp at hgk; omega)
                    case rel => exact .inr ⟨rfl, hK14⟩
                  | cons L2 rest =>
                    dsimp only [List.head?_cons, Option.getD_some] at *
                    go_wp2
                    go_roundg (rest.length + 1)
                    case measure => first | omega | (simp at hgk; omega)
                    case rel => exact .inl ⟨rfl, pre ++ [L], rest, L2, A14, g14, hid (by rw [HL.out]; simp), by omega, hB14, hO14, hne, hK14⟩
              · go_wp2
                go_ret
                exact ⟨rfl, Kg.to_kp kkP hkg hpz⟩
theorem own : ownKnob Try.prog.godebug = none := by kernel_rfl
theorem laidOut : laidOutB Try.prog = true := by kernel_rfl
set_option maxRecDepth 100000 in
theorem lifted (os : Os) (started : os.Started) (H : Type) (enc : TypeId × Value → H) :
    ReturnsInHanded {} Try.checked os 6 .any (Rows.systemCasesSpec.pre6 enc Try.prog Try.f6 Rows.systemCasesRow.domain false) (Rows.systemCasesSpec.post enc Try.prog Try.f6 false true false false) := by
  refine returnsInHanded_of_change (C := Try.checked) own started (by kernel_rfl) Try.func6
    (ChangeSpec.witness6 (enc := enc) (C := Try.checked) false ⟨#[], #[.agg #[.slice none 0 0, .slice none 0 0, .slice none 0 0, .slice none 0 0]], []⟩ 8 (by kernel_rfl) (by kernel_rfl) (by kernel_rfl) (by kernel_rfl)) ?_
  intro W base args ds gs before hval0 hW hcnd _
  have hval : ∀ (j : Nat) t v, Try.f6.params[j]? = some t → args[j]? = some v → Value.okWide Try.prog W .any base t v := hval0
  have hW' := hW
  obtain ⟨p, q, hA0, hV, rfl, hfz, hnd⟩ := hW
  have hA : DataW.TrodAll enc Try.prog W 0 (fun _ => true) true Try.f6.params.toList args.toList ds p := hA0
  rw [Try.params6] at hA hval
  obtain ⟨v0, vs0, d0, ds0, p0, q0, hargs, rfl, rfl, h0, r0⟩ := trodAll_cons hA
  obtain ⟨rfl, rfl, rfl⟩ := trodAll_nil r0
  obtain rfl : args = #[v0] := by cases args; simp_all
  obtain ⟨rfl, rfl⟩ := trodVars_none hV
  have lt0 : ∀ x ∈ p0, x.block < W.heap.size := by obtain ⟨m, hm⟩ := h0; exact DataW.trod_lt m _ _ _ hm
  obtain ⟨s0, hs0⟩ := opSys (hval 0 27 v0 rfl rfl) h0
  clear hA0 hval0
  refine (walk _ s0 W hs0).mono fun e W' ⟨he, bel⟩ => ?_
  subst he
  exact ⟨_, rfl, _, _, _, [], _, [], hW', trodAll_mk1 (shut_bool Try.underlying4 _), (trodAll_cons_mk (Below.trod laidOut (by kernel_rfl) (of_decide_eq_true (by kernel_rfl)) h0 bel lt0) trodAll_mk0), rfl, Below.frame bel _, fun h => by cases h⟩
theorem over : Rows.systemCasesRow.holds Try.pinned (OpenSpec.ofChange Rows.systemCasesSpec) :=
  OpenClaim.holds_of_wide 6 Try.f6 rfl rfl rfl rfl rfl rfl rfl ⟨rfl, rfl, rfl, rfl, rfl⟩ rfl rfl rfl rfl rfl (by kernel_rfl) Try.func6 (by kernel_rfl)
    (of_decide_eq_true (by kernel_rfl)) (by unfold Func.isWrapper; first | (rw [if_pos (by decide +kernel)]; kernel_rfl) | (rw [if_neg (by decide +kernel)]; exact ⟨rfl, rfl⟩))
    (fun os started H enc _ => lifted os started H enc)
theorem proved : Rows.SystemCasesSaid := over
end Go.Proofs.Ytfllmnaillilhaa.lawCases18
