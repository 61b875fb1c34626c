
/-
What is missing for what a causal buffer holds back: the walk.
-/
import Derived.Test.YtcddllaljgfjbaaDlG
namespace Go.Proofs.Ytcddllaljgfjbaa
set_option linter.unusedSimpArgs false
set_option linter.unusedVariables false
open Go.RowKit

/-! plain -/
structure AllP (c : List Int) (L : List Ev) : Prop where
  len : (allC c L).length = c.length
  valid : validC (allC c L) = true
  le : ∀ X, LeC (allC c L) X ↔ LeC c X ∧ ∀ e ∈ L, LeC e.past X
theorem allC_snoc (c : List Int) (L : List Ev) (e : Ev) : allC c (L ++ [e]) = joinC (allC c L) e.past := by
  unfold allC
  rw [List.foldl_append]
  rfl
theorem allP_nil {c : List Int} (h : validC c = true) : AllP c [] := ⟨rfl, h, fun X => ⟨fun h => ⟨h, by simp⟩, fun h => h.1⟩⟩
theorem AllP.snoc {c : List Int} {L : List Ev} {e : Ev} (h : AllP c L) (hv : validC e.past = true) (hl : e.past.length = c.length) : AllP c (L ++ [e]) := by
  obtain ⟨j1, j2, j3, j4⟩ := joinC_ok h.valid hv (hl.trans h.len.symm)
  refine ⟨by rw [allC_snoc, j2, h.len], by rw [allC_snoc]; exact j3, fun X => ?_⟩
  rw [allC_snoc]
  constructor
  · intro hX
    obtain ⟨h1, h2⟩ := (h.le X).1 fun k => by have := hX k; rw [j4] at this; omega
    refine ⟨h1, fun x hx => ?_⟩
    rcases List.mem_append.1 hx with hx | hx
    · exact h2 x hx
    · obtain rfl : x = e := by simpa using hx
      exact fun k => by have := hX k; rw [j4] at this; omega
  · rintro ⟨h1, h2⟩ k
    rw [j4]
    have h3 := (h.le X).2 ⟨h1, fun x hx => h2 x (List.mem_append_left _ hx)⟩ k
    have h4 := h2 e (by simp) k
    omega
theorem allP_of {c : List Int} (hc : validC c = true) (L : List Ev) (h : ∀ e ∈ L, validC e.past = true ∧ e.past.length = c.length) : AllP c L := by
  have key : ∀ k, AllP c (L.take k) := fun k => by
    induction k with
    | zero => exact allP_nil hc
    | succ k ih =>
      by_cases hk : k < L.length
      · rw [List.take_succ_eq_append_getElem hk]
        exact ih.snoc (h _ (List.getElem_mem hk)).1 (h _ (List.getElem_mem hk)).2
      · rw [List.take_of_length_le (by omega)]
        rw [List.take_of_length_le (by omega)] at ih
        exact ih
  have := key L.length
  rwa [List.take_length] at this
theorem allC_perm {c : List Int} {L L' : List Ev} (h : AllP c L) (h' : AllP c L') (p : L.Perm L') : allC c L = allC c L' :=
  LeC.anti (h.len.trans h'.len.symm) ((h.le _).2 ⟨((h'.le _).1 (LeC.refl _)).1, fun e he => ((h'.le _).1 (LeC.refl _)).2 e (p.mem_iff.1 he)⟩) ((h'.le _).2 ⟨((h.le _).1 (LeC.refl _)).1, fun e he => ((h.le _).1 (LeC.refl _)).2 e (p.mem_iff.2 he)⟩)
theorem missN_len (H : List Ev) (r : Int) (out : List Sn) (n : Int) : (missN H r out n).length ≤ out.length + 1 := by
  unfold missN pushS
  split
  · omega
  · split
    · split
      · rw [List.length_append, List.length_dropLast, List.length_singleton]; omega
      · rw [List.length_append, List.length_singleton]; exact Nat.le_refl _
    · simp
/-- the numbers of a replica that may be missing -/
def nums (c t : List Int) (r : Nat) : List Int := (List.range (t.getD r 0 - c.getD r 0).toNat).map fun i : Nat => c.getD r 0 + 1 + (i : Int)
theorem missRow_eq (c t : List Int) (H : List Ev) (out : List Sn) (r : Nat) : missRow c t H out r = (nums c t r).foldl (missN H (r : Int)) out := rfl
theorem nums_len (c t : List Int) (r : Nat) : (nums c t r).length = (t.getD r 0 - c.getD r 0).toNat := by unfold nums; simp
theorem nums_at {c t : List Int} {r i : Nat} (h : i < (nums c t r).length) : (nums c t r)[i] = c.getD r 0 + 1 + (i : Int) := by unfold nums; simp
def missTo (c t : List Int) (H : List Ev) (r : Nat) : List Sn := (List.range r).foldl (missRow c t H) []
theorem missTo_succ (c t : List Int) (H : List Ev) (r : Nat) : missTo c t H (r + 1) = missRow c t H (missTo c t H r) r := by
  unfold missTo
  rw [List.range_succ, List.foldl_append]
  rfl
theorem fold_take {l : List Int} {f : List Sn → Int → List Sn} {o : List Sn} {k : Nat} (h : k < l.length) : (l.take (k + 1)).foldl f o = f ((l.take k).foldl f o) l[k] := by
  rw [List.take_succ_eq_append_getElem h, List.foldl_append]
  rfl
theorem getLast_at {l : List Sn} (h : 0 < l.length) : l.getLast? = some (l[l.length - 1]'(by omega)) := by
  rw [List.getLast?_eq_getElem?, List.getElem?_eq_getElem]
set_option maxRecDepth 8000 in
set_option maxHeartbeats 8000000 in
theorem bMissing_any {S : Nat → Prop} {base : Nat} {w : World} {b cb cc mb n : Nat} {c : List Int} {M : List EvS} (h : BfW S base w b cb cc mb n c M) {H : List Ev} (hH : (M.map (·.e)).Perm H) (ok : BfOk c H) :
    Calls Try.prog 14 #[.pointer (some ⟨b, 0, none⟩)] w fun x w' => ∃ v, x = .returned v ∧ Own encSn 83 3 w.heap.size w' v (missE (c, H)) ∧ Kp w w' := by
  have b0 := h.box.cell (j := 0) rfl
  have b1 := h.box.cell (j := 1) rfl
  have hbl := h.blt
  have hcl := h.clt
  have hml := h.mlt
  have hm := h.map
  have hlen := hid h.len
  have hc5 := (validC_iff.1 ok.clk).2
  have hn5 : n ≤ 5 := by rw [← h.len]; omega
  have hbh := hid h
  have HEV : Hid (∀ x ∈ M, validC x.e.past = true ∧ x.e.past.length = c.length) := hid fun x hx => by
    obtain ⟨h1, h2⟩ := ok.ev x.e (hH.mem_iff.1 (List.mem_map.2 ⟨x, hx, rfl⟩))
    exact ⟨(formedE_fe h1).past, h2⟩
  have HE2 : Hid (∀ e ∈ H, validC e.past = true ∧ e.past.length = c.length) := hid fun e he => by
    obtain ⟨h1, h2⟩ := ok.ev e he
    exact ⟨(formedE_fe h1).past, h2⟩
  replace hH := hid hH
  clear h
  go_enter Try.func14, Try.ntmps14
  go_wp2_with (at_range; refine wpl_range rfl 93 (.tmp 19) rfl rfl hm Try.underlying93 ?_; intro ob hrg)
  go_frame
  have k1 := (Kp.refl w).alloc ob
  have hz1 : (w.alloc ob).heap.size = w.heap.size + 1 := by simp
  generalize w.alloc ob = w1 at *
  clear hm b1
  go_loopw [3] (fun s3 wr => ∃ (left : List (Dt × Value)) (D : List Ev) (Ml : List EvS) (A : Option Addr) (ca : Nat), Rng dtV wr mb w.heap.size (entL M) left ∧ Hid (left.Perm (entL Ml)) ∧ Hid ((D ++ Ml.map (·.e)).Perm (M.map (·.e))) ∧ Hid (∀ x ∈ Ml, x ∈ M) ∧ Hid (AllP c D) ∧ s3 = .slice A n ca ∧ Hid (OwF (fun q => q = w.heap.size) wr fun W => Ints W (.slice A n ca) (allC c D)) ∧ Kp w wr ∧ w.heap.size + 1 ≤ wr.heap.size) (fun _ wr => leftN wr mb w.heap.size)
  case atStart => exact ⟨entL M, [], M, _, _, hrg, hid (.refl _), hid (.refl _), hid (fun _ h => h), hid (allP_nil ok.clk), rfl, hid (fun W k => ((hbh.out.clk.kp k1).fx k (fun q hq hx => by
    obtain rfl : cb = q := by simpa [Value.ownBlock] using hq
    omega)).sl encInt_len), k1, by omega⟩
  case round =>
    clear hrg
    obtain ⟨left, D, Ml, A, ca, hrg, HL, HD, HM, HA, rfl, HT, hk, hzr⟩ := hrel
    obtain ⟨wo, rfl⟩ : ∃ wo : World, wo = wr := ⟨_, rfl⟩
    go_wp2_with (at_next; refine wpl_next rfl (.tmp 20) rfl rfl hrg ?_ ?_)
    · intro hl0
      have hMl0 : Ml = [] := by
        have := HL.out.length_eq
        rw [hl0] at this
        unfold entL at this
        rw [List.length_map, List.length_nil] at this
        exact List.eq_nil_of_length_eq_zero this.symm
      subst hMl0
      have HT2 : Hid (allC c D = allC c H) := hid (allC_perm HA.out (allP_of ok.clk H HE2.out) (by
        have := HD.out
        rw [List.map_nil, List.append_nil] at this
        exact this.trans hH.out))
      obtain ⟨t, ht⟩ : ∃ t, t = allC c H := ⟨_, rfl⟩
      have hS := HT.out.here
      rw [HT2.out, ← ht] at hS
      have hP := HA.out
      have htv : validC t = true := by rw [ht, ← HT2.out]; exact hP.valid
      have htl : t.length = n := by rw [ht, ← HT2.out, hP.len]; exact hlen.out
      clear hP HT2 HT HA HD HL HM hrg
      replace hl0 := hid hl0
      replace ht := hid ht
      replace htl := hid htl
      replace htv := hid htv
      go_wp2_with fail
      go_loopw [6, 32] (fun so vr wr => ∃ (r : Nat) (out : List Sn), r ≤ n ∧ vr = .int .i64 (r : Int) ∧ Hid (out = missTo c t H r) ∧ out.length ≤ 1024 * r ∧ Own encSn 83 3 wo.heap.size wr so out ∧ Kp wo wr) (fun _ vr _ => n - (intOf vr).toNat)
      case atStart => exact ⟨0, [], Nat.zero_le _, rfl, hid rfl, Nat.zero_le _, Own.nil _ _ _ _ _, Kp.refl _⟩
      case round =>
        obtain ⟨r, out0, hr, rfl, HO, hol, own, kr⟩ := hrel
        obtain ⟨wa, rfl⟩ : ∃ wa : World, wa = wr := ⟨_, rfl⟩
        obtain ⟨Ao, co, rfl, hco1, hco2⟩ := own.form
        by_cases hlt : r < n
        · have hrI : (r : Int) < (n : Int) := by omega
          have hcr : r < c.length := by have := hlen.out; omega
          have htr : r < t.length := by have := htl.out; omega
          have i0 := (hbh.out.kp (hk.trans kr)).clk.intCell (k := r) hlen.out.symm hcr
          have y0 := (hbh.out.kp (hk.trans kr)).box.cell (j := 0) rfl
          have hbl' := (hbh.out.kp (hk.trans kr)).blt
          have hcl' := (hbh.out.kp (hk.trans kr)).clt
          obtain ⟨p, o, rfl, hp, i1⟩ := hS.ints htr
          have hxb := validC_get ok.clk r
          have hyb := validC_get htv.out r
          have HNU := hid (fun i (h : i < (nums c t r).length) => nums_at h)
          have HNL := hid (nums_len c t r)
          rw [getD_i hcr] at HNU HNL hxb
          rw [getD_i htr] at HNL hyb
          generalize c[r] = x at *
          generalize t[r] = y at *
          obtain ⟨NU, hNU⟩ : ∃ NU, NU = nums c t r := ⟨_, rfl⟩
          have HMR : Hid (missTo c t H (r + 1) = NU.foldl (missN H (r : Int)) out0) := hid (by rw [missTo_succ, missRow_eq, ← HO.out, hNU])
          obtain ⟨K, hK⟩ : ∃ K, K = (y - x).toNat := ⟨_, rfl⟩
          rw [← hK] at HNL
          rw [← hNU] at HNL
          have HNU2 : Hid (∀ i (h : i < NU.length), NU[i] = x + 1 + (i : Int)) := hid (by subst hNU; exact HNU.out)
          have hKb : (K : Int) ≤ 1024 := by omega
          replace hK := hid hK
          replace hNU := hid hNU
          clear HNU
          go_wp2_with fail
          go_loopw [6, 8] (fun so v8 wi => ∃ (i : Nat) (out : List Sn), i ≤ K ∧ v8 = .int .i64 (x + 1 + (i : Int)) ∧ Hid (out = (NU.take i).foldl (missN H (r : Int)) out0) ∧ out.length ≤ 1024 * r + i ∧ Own encSn 83 3 wo.heap.size wi so out ∧ Kp wo wi) (fun _ v8 _ => (y + 1 - intOf v8).toNat)
          case atStart => exact ⟨0, out0, Nat.zero_le _, by go_num, hid rfl, by omega, own, kr⟩
          case round =>
            obtain ⟨i, out, hi, rfl, HI, hoi, ow, ki⟩ := hrel
            obtain ⟨wb, rfl⟩ : ∃ wb : World, wb = wr := ⟨_, rfl⟩
            have kb := ki
            have i1b := kb.cellS i1
            have hpb := Nat.lt_of_lt_of_le hp kb.size
            obtain ⟨Ab, cbb, rfl, hcb1, hcb2⟩ := ow.form
            by_cases hik : i < K
            · have hle : x + 1 + (i : Int) ≤ y := by have := hK.out; omega
              have HN1 : Hid (NU[i]'(by rw [HNL.out]; exact hik) = x + 1 + (i : Int)) := hid (HNU2.out i (by rw [HNL.out]; exact hik))
              have HI2 : Hid ((NU.take (i + 1)).foldl (missN H (r : Int)) out0 = missN H (r : Int) out (x + 1 + (i : Int))) := hid (by
                rw [fold_take (by rw [HNL.out]; exact hik), ← HI.out, HN1.out])
              obtain ⟨nn, hnn⟩ : ∃ nn, nn = x + 1 + (i : Int) := ⟨_, rfl⟩
              rw [← hnn] at HI2 hle ⊢
              have hnb1 : 1 ≤ nn := by omega
              have hnb2 : nn ≤ 1024 := by omega
              replace hnn := hid hnn
              have hbw := hbh.out.kp (hk.trans kb)
              have y1 := hbw.box.cell (j := 1) rfl
              have hblw := hbw.blt
              obtain ⟨LV, lLV, oLV, hLV⟩ := getL_entV ((r : Int), nn) M
              obtain ⟨hd, hhd⟩ : ∃ hd, hd = H.any (fun e => decide (nameE e = ((r : Int), nn))) := ⟨_, rfl⟩
              have hlk : Sem.run Try.prog (Instr.lookup 93 (.map (some mb)) (.agg #[.int .i64 (r : Int), .int .i64 nn]) true) wb = .ok (.tuple #[.agg LV.toArray, .bool hd]) wb := by
                have := hbw.map.look keyDt Try.underlying93 (zeroEv wb) ((r : Int), nn) true
                rw [if_pos rfl, hLV, getL_ent, any_perm hH.out, ← hhd] at this
                exact this
              replace hhd := hid hhd
              have k3 := (Kp.refl wb).alloc (.cells #[.int .i64 0, .int .i64 0, .int .i64 0, .slice none 0 0, .int .i64 0, .int .i64 0, .int .i64 0, .int .i64 0, .int .i64 0, .int .i64 0, .int .i64 0, .int .i64 0, .int .i64 0] 33)
              have hR := Bx.new wb #[.int .i64 0, .int .i64 0, .int .i64 0, .slice none 0 0, .int .i64 0, .int .i64 0, .int .i64 0, .int .i64 0, .int .i64 0, .int .i64 0, .int .i64 0, .int .i64 0, .int .i64 0] 33
              have k4 : Kp wb ((wb.alloc (.cells #[.int .i64 0, .int .i64 0, .int .i64 0, .slice none 0 0, .int .i64 0, .int .i64 0, .int .i64 0, .int .i64 0, .int .i64 0, .int .i64 0, .int .i64 0, .int .i64 0, .int .i64 0] 33)).setCells wb.heap.size 0 LV) := Kp.setCells (a := wb) (b := wb.heap.size) (Nat.le_refl _) LV 0 _ k3
              have hth := (by simpa [lLV] using hR.thereAt 0 13 (by simp) : (wb.alloc (.cells #[.int .i64 0, .int .i64 0, .int .i64 0, .slice none 0 0, .int .i64 0, .int .i64 0, .int .i64 0, .int .i64 0, .int .i64 0, .int .i64 0, .int .i64 0, .int .i64 0, .int .i64 0] 33)).there wb.heap.size 0 LV.toArray.size)
              clear hLV k3 hR hbw
              have hkw := hid kb.size
              have ow4 := ow.kp k4
              have zw := k4.size
              obtain ⟨w5, hw5⟩ : ∃ w5, w5 = (wb.alloc (.cells #[.int .i64 0, .int .i64 0, .int .i64 0, .slice none 0 0, .int .i64 0, .int .i64 0, .int .i64 0, .int .i64 0, .int .i64 0, .int .i64 0, .int .i64 0, .int .i64 0, .int .i64 0] 33)).setCells wb.heap.size 0 LV := ⟨_, rfl⟩
              rw [← hw5] at k4 ow4 zw
              replace hw5 := hid hw5
              have k05 := kb.trans k4
              have kir := ki.trans k4
              cases hd with
              | true =>
                have HI3 : Hid (out = (NU.take (i + 1)).foldl (missN H (r : Int)) out0) := hid (by
                  rw [HI2.out]
                  unfold missN
                  rw [if_pos hhd.out.symm])
                have hn1 := hid (show nn + 1 = x + 1 + ((i + 1 : Nat) : Int) by have := hnn.out; omega)
                clear i0 i1 k05
                go_wp2_with (refine wpList_store_mid rfl 33 (.tmp 9) (.tmp 60) rfl wb.heap.size 0 LV.toArray rfl rfl hth (iEv2 lLV) (all_oneCell_toArray oLV) ?_; rw [List.toList_toArray, ← hw5.out])
                go_roundw
                case rel => exact ⟨i + 1, out, by omega, by first | (rw [hn1.out]) | (congr 1; have := hn1.out; omega), HI3, by omega, ow4, kir⟩
                case measure => have := hn1.out; simp [intOf]; omega
              | false =>
                have HIP : Hid ((NU.take (i + 1)).foldl (missN H (r : Int)) out0 = pushS out (r : Int) nn) := hid (by
                  rw [HI2.out]
                  unfold missN
                  rw [if_neg (by rw [← hhd.out]; simp)])
                have hn1 := hid (show nn + 1 = x + 1 + ((i + 1 : Nat) : Int) by have := hnn.out; omega)
                clear i0 i1 k05
                by_cases hz : out.length = 0
                · have e1 : decide ((0 : Int) < (out.length : Int)) = false := decide_eq_false (by omega)
                  have e2 : decide (0 < out.length) = false := decide_eq_false (by omega)
                  have e3 : ¬ (0 : Int) < (out.length : Int) := by omega
                  have HPU : Hid (pushS out (r : Int) nn = out ++ [((r : Int), nn, nn)]) := hid (by
                    rw [List.eq_nil_of_length_eq_zero hz]
                    rfl)
                  replace hz := hid hz
                  have hsrc := Sl.one (R := Pl encSn) w5 [.int .i64 (r : Int), .int .i64 nn, .int .i64 nn] 83 3 ((r : Int), nn, nn) rfl rfl
                  have k6 := (Kp.refl w5).alloc (.cells #[.int .i64 (r : Int), .int .i64 nn, .int .i64 nn] 83)
                  have ow6 := ow4.kp k6
                  have z6 := k6.size
                  have hwo := hkw.out
                  go_wp2_with (first | (refine wpList_store_mid rfl 33 (.tmp 9) (.tmp 60) rfl wb.heap.size 0 LV.toArray rfl rfl hth (iEv2 lLV) (all_oneCell_toArray oLV) ?_; rw [List.toList_toArray, ← hw5.out]) | (at_builtin; refine wpl_append_flat rfl (.tmp 94) (.tmp 99) rfl stSn encSn_len encSn_one rfl ow6 rfl hsrc (by simp; omega) (by simp; omega) (by omega) ?_; intro v7 w7 hown7 hgrow7 hat7 hnil7))
                  have HI3 : Hid (out ++ [((r : Int), nn, nn)] = (NU.take (i + 1)).foldl (missN H (r : Int)) out0) := hid (by rw [HIP.out, HPU.out])
                  have kf := (kir.trans k6).grown hgrow7 (fun j hj => ow6.ge j hj)
                  obtain ⟨A7, c7, rfl, -, -⟩ := hown7.form
                  clear hgrow7 hat7 hnil7 ow6 hsrc
                  go_roundw
                  case rel => exact ⟨i + 1, _, by omega, by first | (rw [hn1.out]) | (congr 1; have := hn1.out; omega), HI3, by rw [List.length_append, List.length_singleton]; omega, hown7, kf⟩
                  case measure => have := hn1.out; simp [intOf]; omega
                · have e1 : decide ((0 : Int) < (out.length : Int)) = true := decide_eq_true (by omega)
                  have e2 : decide (0 < out.length) = true := decide_eq_true (by omega)
                  have e3 : (0 : Int) < (out.length : Int) := by omega
                  obtain ⟨q, hq⟩ : ∃ q, q = out.length - 1 := ⟨_, rfl⟩
                  have hqn : q < out.length := by omega
                  have hql : (out.length : Int) - 1 = (q : Int) := by omega
                  have hqI : (q : Int) < (out.length : Int) := by omega
                  obtain ⟨g, cg, hAb, -, -, hgb, hg5⟩ := ow4.row (by omega)
                  injection hAb with hAb _ hcg
                  subst hAb
                  have d0 := ow4.cellAt encSn_len rfl hqn (j := 0) (by omega)
                  have d2 := ow4.cellAt encSn_len rfl hqn (j := 2) (by omega)
                  have fz := ow4.frozen rfl (q * 3 + 2)
                  have hset := fun (x : Sn) (hx : (encSn out[q]).set 2 (.int .i64 nn) = encSn x) => Own.set (k := q) (j := 2) (u := .int .i64 nn) (x := x) encSn_len ow4 hqn (by omega) (fun _ => hx)
                  have HG : Hid (out.getLast? = some out[q]) := hid (by subst hq; exact getLast_at (by omega))
                  have HDL : Hid (∀ x : Sn, out.dropLast ++ [x] = out.set q x) := hid fun x => by
                    subst hq
                    rw [List.dropLast_eq_take]
                    apply List.ext_getElem
                    · simp; omega
                    · intro k h1 h2
                      rw [List.getElem_set]
                      by_cases hk2 : out.length - 1 = k
                      · subst hk2
                        simp
                      · rw [if_neg hk2, List.getElem_append_left (by simp; simp at h2; omega)]
                        simp
                  generalize out[q] = sp at *
                  obtain ⟨sp1, sp2, sp3⟩ := sp
                  replace hq := hid hq
                  replace hz := hid hz
                  replace hset := hid hset
                  have HPS : Hid (pushS out (r : Int) nn = if sp1 = (r : Int) ∧ sp3 = nn - 1 then out.set q ((r : Int), sp2, nn) else out ++ [((r : Int), nn, nn)]) := hid (by
                    unfold pushS
                    rw [HG.out]
                    dsimp only
                    rw [HDL.out])
                  simp only [encSn, List.getElem?_cons_zero, List.getElem?_cons_succ, Nat.add_zero] at d0 d2
                  clear hcg
                  by_cases h1 : sp1 = (r : Int)
                  · have f1 : (sp1 == (r : Int)) = true := by simpa using h1
                    by_cases h2 : sp3 = nn - 1
                    · have f2 : (sp3 == nn - 1) = true := by simpa using h2
                      have HI3 : Hid (out.set q ((r : Int), sp2, nn) = (NU.take (i + 1)).foldl (missN H (r : Int)) out0) := hid (by rw [HIP.out, HPS.out, if_pos ⟨h1, h2⟩])
                      have hset7 := hset.out ((r : Int), sp2, nn) (by rw [h1]; rfl)
                      have kf := kir.set (p := ⟨g, q * 3 + 2, none⟩) hgb (.int .i64 nn)
                      have hll : Hid ((out.set q ((r : Int), sp2, nn)).length = out.length) := hid (List.length_set ..)
                      rw [h1] at d0
                      rw [h2] at d2
                      replace h1 := hid h1
                      replace h2 := hid h2
                      clear f1 f2
                      go_wp2_with (refine wpList_store_mid rfl 33 (.tmp 9) (.tmp 60) rfl wb.heap.size 0 LV.toArray rfl rfl hth (iEv2 lLV) (all_oneCell_toArray oLV) ?_; rw [List.toList_toArray, ← hw5.out])
                      go_roundw
                      case rel => exact ⟨i + 1, _, by omega, by first | (rw [hn1.out]) | (congr 1; have := hn1.out; omega), HI3, by rw [hll.out]; omega, hset7, kf⟩
                      case measure => have := hn1.out; simp [intOf]; omega
                    · have f2 : (sp3 == nn - 1) = false := by simpa using h2
                      have HPU : Hid (pushS out (r : Int) nn = out ++ [((r : Int), nn, nn)]) := hid (by rw [HPS.out, if_neg (fun h => h2 h.2)])
                      replace h1 := hid h1
                      have hsrc := Sl.one (R := Pl encSn) w5 [.int .i64 (r : Int), .int .i64 nn, .int .i64 nn] 83 3 ((r : Int), nn, nn) rfl rfl
                      have k6 := (Kp.refl w5).alloc (.cells #[.int .i64 (r : Int), .int .i64 nn, .int .i64 nn] 83)
                      have ow6 := ow4.kp k6
                      have z6 := k6.size
                      have hwo := hkw.out
                      go_wp2_with (first | (refine wpList_store_mid rfl 33 (.tmp 9) (.tmp 60) rfl wb.heap.size 0 LV.toArray rfl rfl hth (iEv2 lLV) (all_oneCell_toArray oLV) ?_; rw [List.toList_toArray, ← hw5.out]) | (at_builtin; refine wpl_append_flat rfl (.tmp 94) (.tmp 99) rfl stSn encSn_len encSn_one rfl ow6 rfl hsrc (by simp; omega) (by simp; omega) (by omega) ?_; intro v7 w7 hown7 hgrow7 hat7 hnil7))
                      have HI3 : Hid (out ++ [((r : Int), nn, nn)] = (NU.take (i + 1)).foldl (missN H (r : Int)) out0) := hid (by rw [HIP.out, HPU.out])
                      have kf := (kir.trans k6).grown hgrow7 (fun j hj => ow6.ge j hj)
                      obtain ⟨A7, c7, rfl, -, -⟩ := hown7.form
                      clear hgrow7 hat7 hnil7 ow6 hsrc
                      go_roundw
                      case rel => exact ⟨i + 1, _, by omega, by first | (rw [hn1.out]) | (congr 1; have := hn1.out; omega), HI3, by rw [List.length_append, List.length_singleton]; omega, hown7, kf⟩
                      case measure => have := hn1.out; simp [intOf]; omega
                  · have f1 : (sp1 == (r : Int)) = false := by simpa using h1
                    have HPU : Hid (pushS out (r : Int) nn = out ++ [((r : Int), nn, nn)]) := hid (by rw [HPS.out, if_neg (fun h => h1 h.1)])
                    have hsrc := Sl.one (R := Pl encSn) w5 [.int .i64 (r : Int), .int .i64 nn, .int .i64 nn] 83 3 ((r : Int), nn, nn) rfl rfl
                    have k6 := (Kp.refl w5).alloc (.cells #[.int .i64 (r : Int), .int .i64 nn, .int .i64 nn] 83)
                    have ow6 := ow4.kp k6
                    have z6 := k6.size
                    have hwo := hkw.out
                    go_wp2_with (first | (refine wpList_store_mid rfl 33 (.tmp 9) (.tmp 60) rfl wb.heap.size 0 LV.toArray rfl rfl hth (iEv2 lLV) (all_oneCell_toArray oLV) ?_; rw [List.toList_toArray, ← hw5.out]) | (at_builtin; refine wpl_append_flat rfl (.tmp 94) (.tmp 99) rfl stSn encSn_len encSn_one rfl ow6 rfl hsrc (by simp; omega) (by simp; omega) (by omega) ?_; intro v7 w7 hown7 hgrow7 hat7 hnil7))
                    have HI3 : Hid (out ++ [((r : Int), nn, nn)] = (NU.take (i + 1)).foldl (missN H (r : Int)) out0) := hid (by rw [HIP.out, HPU.out])
                    have kf := (kir.trans k6).grown hgrow7 (fun j hj => ow6.ge j hj)
                    obtain ⟨A7, c7, rfl, -, -⟩ := hown7.form
                    clear hgrow7 hat7 hnil7 ow6 hsrc
                    go_roundw
                    case rel => exact ⟨i + 1, _, by omega, by first | (rw [hn1.out]) | (congr 1; have := hn1.out; omega), HI3, by rw [List.length_append, List.length_singleton]; omega, hown7, kf⟩
                    case measure => have := hn1.out; simp [intOf]; omega
            · have hle : ¬ x + 1 + (i : Int) ≤ y := by have := hK.out; omega
              obtain rfl : i = K := by omega
              have HX : Hid (out = missTo c t H (r + 1)) := hid (by
                rw [HMR.out, HI.out, List.take_of_length_le (by rw [HNL.out]; exact Nat.le_refl _)])
              go_wp2
              go_roundw
              case rel => exact ⟨r + 1, out, by omega, by go_num, HX, by omega, ow, kb⟩
              case measure => simp [intOf]; omega
        · have hrI : ¬ (r : Int) < (n : Int) := by omega
          obtain rfl : r = n := by omega
          have HX : Hid (out0 = missE (c, H)) := hid (by
            rw [HO.out]
            unfold missE missTo
            rw [show (c, H).1.length = r from hlen.out, ht.out])
          go_wp2
          go_ret
          exact ⟨_, rfl, by rw [← HX.out]; exact own.less hk.size, hk.trans kr⟩
    · intro kr kn v left' w5 hp2 hmem hrg2 kg2 hz5 hen
      obtain ⟨x, Mr, hkn, rfl, hpx, hlp⟩ := entL_take (hp2.symm.trans HL.out)
      rw [hkn] at hp2 hmem hen ⊢
      clear hkn
      have HLN : Hid (left.length = left'.length + 1) := hid (by have := hp2.length_eq; simpa using this)
      have hleft := hrg.leftN
      have hxM := HM.out x (hpx.mem_iff.2 (by simp))
      have kW2 := Kg.to_kp hk kg2 (Nat.le_refl _)
      have hev := HEV.out x hxM
      have fxi : Fx (fun q => q = w.heap.size) wo w5 := kg2.fx (.inl rfl)
      have HA2 := hid (HA.out.snoc (e := x.e) hev.1 hev.2)
      have hjo := hid (allC_snoc c D x.e)
      have HD2 : Hid (((D ++ [x.e]) ++ Mr.map (·.e)).Perm (M.map (·.e))) := hid (by
        refine List.Perm.trans ?_ HD.out
        rw [List.append_assoc]
        exact List.Perm.append_left _ (hpx.map fun z : EvS => z.e).symm)
      have HMr : Hid (∀ z ∈ Mr, z ∈ M) := hid fun z hz => HM.out z (hpx.mem_iff.2 (by simp [hz]))
      have HT5 := hid (HT.out.fx fxi)
      have hI5 : Ints w5 x.v x.e.past := ((hbh.out.past x hxM).1.kp kW2).sl encInt_len
      have HLP := hid hlp
      obtain ⟨L, hL⟩ : ∃ L, L = encEs x := ⟨_, rfl⟩
      have lL : L.length = 13 := by rw [hL]; rfl
      have oL : ∀ u ∈ L, u.oneCell' = true := by rw [hL]; exact encEs_one x
      rw [show esV x = .agg L.toArray by rw [hL]] at hen ⊢
      have hxv : L[3]? = some x.v := by rw [hL]; rfl
      have k3 := (Kp.refl w5).alloc (.cells #[.int .i64 0, .int .i64 0, .int .i64 0, .slice none 0 0, .int .i64 0, .int .i64 0, .int .i64 0, .int .i64 0, .int .i64 0, .int .i64 0, .int .i64 0, .int .i64 0, .int .i64 0] 33)
      have hR := Bx.new w5 #[.int .i64 0, .int .i64 0, .int .i64 0, .slice none 0 0, .int .i64 0, .int .i64 0, .int .i64 0, .int .i64 0, .int .i64 0, .int .i64 0, .int .i64 0, .int .i64 0, .int .i64 0] 33
      have hB4 := hR.all (cs := L) (by rw [lL]; rfl)
      have k4 : Kp w5 ((w5.alloc (.cells #[.int .i64 0, .int .i64 0, .int .i64 0, .slice none 0 0, .int .i64 0, .int .i64 0, .int .i64 0, .int .i64 0, .int .i64 0, .int .i64 0, .int .i64 0, .int .i64 0, .int .i64 0] 33)).setCells w5.heap.size 0 L) := Kp.setCells (a := w5) (b := w5.heap.size) (Nat.le_refl _) L 0 _ k3
      have hth := (by simpa [lL] using hR.thereAt 0 13 (by simp) : (w5.alloc (.cells #[.int .i64 0, .int .i64 0, .int .i64 0, .slice none 0 0, .int .i64 0, .int .i64 0, .int .i64 0, .int .i64 0, .int .i64 0, .int .i64 0, .int .i64 0, .int .i64 0, .int .i64 0] 33)).there w5.heap.size 0 L.toArray.size)
      have hrl := hrg2.lt
      have hml5 := hrg2.map.lt
      have hz5' : w.heap.size + 1 ≤ w5.heap.size := by omega
      replace hz5 := hid hz5
      replace hL := hid hL
      clear hp2 hmem hpx hlp hrg HL HD HM HA HT hk kg2 fxi k3 hR
      go_wp2_with (first | (refine wpList_store_mid rfl 33 (.tmp 5) (.tmp 24) rfl w5.heap.size 0 L.toArray rfl rfl hth (iEv2 lL) (all_oneCell_toArray oL) ?_; rw [List.toList_toArray]; generalize (w5.alloc (.cells #[.int .i64 0, .int .i64 0, .int .i64 0, .slice none 0 0, .int .i64 0, .int .i64 0, .int .i64 0, .int .i64 0, .int .i64 0, .int .i64 0, .int .i64 0, .int .i64 0, .int .i64 0] 33)).setCells w5.heap.size 0 L = w6 at *; clear hth; have e3 := hB4.cell (j := 3) hxv))
      have hIa : Ints w6 (.slice A n ca) (allC c D) := (HT5.out.kp k4).here
      have hL2 := isL2 w6 hIa (hI5.keep (pl_stable _) k4)
      have C6 := hid (cJoin_any (allC c D) x.e.past w6.heap.size 2 _ hL2)
      have k6 := (Kp.refl w6).alloc (.cells #[.slice A n ca, x.v] 27)
      clear hL2 hIa e3 hB4
      refine C6.out.mono ?_
      rintro z w7 ⟨v7, rfl, own7, k7⟩
      rw [← hjo.out] at own7
      have k57 := (k4.trans k6).trans k7
      obtain ⟨A7, c7, rfl, -, -⟩ := own7.form
      rw [show (allC c (D ++ [x.e])).length = n by rw [HA2.out.len]; exact hlen.out] at own7 ⊢
      have hz46 := (k4.trans k6).size
      have HT7 : Hid (OwF (fun q => q = w.heap.size) w7 fun W => Ints W (.slice A7 n c7) (allC c (D ++ [x.e]))) := hid ((own7.owF (X := fun q => q = w.heap.size) (fun q hq => by omega)).imp fun W h => h.sl encInt_len)
      have hrg7 := hrg2.keep (k57.block hrg2.map.lt) (k57.block hrg2.lt)
      have kW7 := kW2.trans k57
      have hz7 := k57.size
      clear C6 own7 k4 k6 k7 hrg2 HT5
      go_wp2
      go_roundw
      case rel => exact ⟨left', _, Mr, A7, c7, hrg7, HLP, HD2, HMr, HA2, rfl, HT7, kW7, by omega⟩
      case measure => rw [hrg7.leftN, hleft, HLN.out]; omega
end Go.Proofs.Ytcddllaljgfjbaa
