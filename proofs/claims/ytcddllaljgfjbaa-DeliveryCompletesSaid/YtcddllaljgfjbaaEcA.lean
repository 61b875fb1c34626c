
/-
Closed sets of events: the walk.
-/
import Derived.Test.YtcddllaljgfjbaaCsA
import Derived.Test.YtcddllaljgfjbaaDlR
namespace Go.Proofs.Ytcddllaljgfjbaa
set_option linter.unusedSimpArgs false
set_option linter.unusedVariables false
open Go.RowKit

theorem ev_boxE (w : World) (L : List Value) (h : L.length = 13) : (w.alloc (.cells #[.int .i64 0, .int .i64 0, .int .i64 0, .slice none 0 0, .int .i64 0, .int .i64 0, .int .i64 0, .int .i64 0, .int .i64 0, .int .i64 0, .int .i64 0, .int .i64 0, .int .i64 0] 33)).there w.heap.size 0 L.toArray.size ∧ Bx ((w.alloc (.cells #[.int .i64 0, .int .i64 0, .int .i64 0, .slice none 0 0, .int .i64 0, .int .i64 0, .int .i64 0, .int .i64 0, .int .i64 0, .int .i64 0, .int .i64 0, .int .i64 0, .int .i64 0] 33)).setCells w.heap.size 0 L) w.heap.size L ∧ Kp w ((w.alloc (.cells #[.int .i64 0, .int .i64 0, .int .i64 0, .slice none 0 0, .int .i64 0, .int .i64 0, .int .i64 0, .int .i64 0, .int .i64 0, .int .i64 0, .int .i64 0, .int .i64 0, .int .i64 0] 33)).setCells w.heap.size 0 L) :=
  ⟨by simpa [h] using (Bx.new w #[.int .i64 0, .int .i64 0, .int .i64 0, .slice none 0 0, .int .i64 0, .int .i64 0, .int .i64 0, .int .i64 0, .int .i64 0, .int .i64 0, .int .i64 0, .int .i64 0, .int .i64 0] 33).thereAt 0 13 (by simp), (Bx.new w #[.int .i64 0, .int .i64 0, .int .i64 0, .slice none 0 0, .int .i64 0, .int .i64 0, .int .i64 0, .int .i64 0, .int .i64 0, .int .i64 0, .int .i64 0, .int .i64 0, .int .i64 0] 33).all (cs := L) (by rw [h]; rfl), Kp.setCells (Nat.le_refl _) L 0 _ ((Kp.refl w).alloc _)⟩
def contC (a b : List Int) : Bool := alike2 a b && insideC a b
set_option maxHeartbeats 1000000 in
theorem eContained_any (a b : List Int) (va vb : Value) (w : World) (ha : Ints w va a) (hb : Ints w vb b) : Calls Try.prog 63 #[va, vb] w fun e w' => e = .returned (.bool (contC a b)) ∧ Kp w w' := by
  have C1 := hid (cCompare_any a b va vb w ha hb)
  have HX : Hid (contC a b = (decide ((cmpC a b).2 = 0) && (decide ((cmpC a b).1 = 0) || decide ((cmpC a b).1 = 1)))) := hid (by
    unfold contC cmpC
    cases alike2 a b with
    | false => rfl
    | true =>
      cases insideC a b with
      | true =>
        cases insideC b a <;> rfl
      | false =>
        cases insideC b a <;> rfl)
  generalize (cmpC a b).1 = x at *
  generalize (cmpC a b).2 = y at *
  go_enter Try.func63, Try.ntmps63
  go_wp2_with fail
  refine C1.out.mono ?_
  rintro z w1 ⟨rfl, k1⟩
  clear C1
  by_cases h1 : y = 0
  · have e1 : (y == 0) = true := by simpa using h1
    by_cases h2 : x = 0
    · have e2 : (x == 0) = true := by simpa using h2
      have HR : Hid (contC a b = true) := hid (by rw [HX.out, decide_eq_true h1, decide_eq_true h2]; rfl)
      clear h1 h2
      go_wp2
      go_ret
      exact ⟨ret_bool HR.out.symm, k1⟩
    · have e2 : (x == 0) = false := by simpa using h2
      by_cases h3 : x = 1
      · have e3 : (x == 1) = true := by simpa using h3
        have HR : Hid (contC a b = true) := hid (by rw [HX.out, decide_eq_true h1, decide_eq_true h3, Bool.or_true]; rfl)
        clear h1 h2 h3
        go_wp2
        go_ret
        exact ⟨ret_bool HR.out.symm, k1⟩
      · have e3 : (x == 1) = false := by simpa using h3
        have HR : Hid (contC a b = false) := hid (by rw [HX.out, decide_eq_true h1, decide_eq_false h2, decide_eq_false h3]; rfl)
        clear h1 h2 h3
        go_wp2
        go_ret
        exact ⟨ret_bool HR.out.symm, k1⟩
  · have e1 : (y == 0) = false := by simpa using h1
    have HR : Hid (contC a b = false) := hid (by rw [HX.out, decide_eq_false h1]; rfl)
    clear h1
    go_wp2
    go_ret
    exact ⟨ret_bool HR.out.symm, k1⟩
def EclR (l : List Ev) (w : World) (x : Ending) (w' : World) : Prop := ∃ r, x = .returned (.bool r) ∧ (r = true ↔ ClosedP l) ∧ Kp w w'
theorem eclR_no {l : List Ev} {w w' : World} (h : ¬ ClosedP l) (k : Kp w w') : EclR l w (.returned (.bool false)) w' := ⟨false, rfl, ⟨fun e => (by cases e), fun e => absurd e h⟩, k⟩
def PastP (l : List Ev) (e : Ev) (r : Nat) (i : Int) : Prop := ∃ x ∈ l, nameE x = ((r : Int), i) ∧ LeC x.past e.past ∧ x.t < e.t
def w0 (l : List Ev) : Nat := (l.headD zEv).past.length
structure ClPre (l : List Ev) (k : Nat) : Prop where
  names : NamesU (l.take k)
  fe : ∀ e ∈ l.take k, formedE e = true
  width : ∀ e ∈ l.take k, e.past.length = w0 l
theorem ClPre.zero (l : List Ev) : ClPre l 0 := ⟨by simp [NamesU], by simp, by simp⟩
theorem w0_mem {l : List Ev} (h : l ≠ []) : ∃ x ∈ l, x.past.length = w0 l := by
  cases l with
  | nil => exact absurd rfl h
  | cons x l => exact ⟨x, by simp, rfl⟩
theorem ClPre.succ {l : List Ev} {k : Nat} (h : ClPre l k) (hk : k < l.length) (h1 : ∀ x ∈ l.take k, nameE x ≠ nameE l[k]) (h2 : formedE l[k] = true) (h3 : l[k].past.length = w0 l) : ClPre l (k + 1) := by
  have e := List.take_succ_eq_append_getElem hk
  refine ⟨?_, fun x hx => ?_, fun x hx => ?_⟩
  · unfold NamesU
    rw [e, List.map_append, List.nodup_append]
    refine ⟨h.names, by simp, fun a ha b hb => ?_⟩
    obtain ⟨x, hx, rfl⟩ := List.mem_map.1 ha
    obtain rfl : b = nameE l[k] := by simpa using hb
    exact h1 x hx
  · rw [e] at hx
    rcases List.mem_append.1 hx with hx | hx
    · exact h.fe x hx
    · obtain rfl : x = l[k] := by simpa using hx
      exact h2
  · rw [e] at hx
    rcases List.mem_append.1 hx with hx | hx
    · exact h.width x hx
    · obtain rfl : x = l[k] := by simpa using hx
      exact h3
theorem closed_of {l : List Ev} (h : ClPre l l.length) (hl : l.length ≤ 1024) (hp : ∀ e ∈ l, ∀ r : Nat, r < e.past.length → ∀ i : Int, 1 ≤ i → i ≤ e.past.getD r 0 → PastP l e r i) : ClosedP l := by
  obtain ⟨h1, h2, h3⟩ := h
  rw [List.take_length] at h1 h2 h3
  exact ⟨hl, h1, h2, fun e he x hx => by rw [h3 e he, h3 x hx], hp⟩
theorem closed_again {l : List Ev} {k : Nat} (hk : k < l.length) {x : Ev} (hx : x ∈ l.take k) (hn : nameE x = nameE l[k]) : ¬ ClosedP l := fun h => by
  have h1 := h.names
  unfold NamesU at h1
  rw [← List.take_append_drop k l, List.map_append, List.nodup_append] at h1
  refine h1.2.2 (nameE x) (List.mem_map.2 ⟨x, hx, rfl⟩) (nameE l[k]) (List.mem_map.2 ⟨l[k], ?_, rfl⟩) hn
  have e : l.drop k = l[k] :: l.drop (k + 1) := List.drop_eq_getElem_cons hk
  rw [e]
  exact List.mem_cons_self ..
theorem contC_iff {x e : Ev} (hx : formedE x = true) (he : formedE e = true) (hl : x.past.length = e.past.length) : contC x.past e.past = true ↔ LeC x.past e.past := by
  unfold contC
  rw [alike2_iff.2 ⟨(formedE_fe hx).past, (formedE_fe he).past, hl.symm⟩, Bool.true_and, insideC_le hl]
theorem getL_entS {d : Dt} {M : List EvS} : (getL d (entL M) = none ∧ ∀ x ∈ M, nameE x.e ≠ d) ∨ ∃ x ∈ M, nameE x.e = d ∧ getL d (entL M) = some (esV x) := by
  cases h : getL d (entL M) with
  | none => exact .inl ⟨rfl, fun x hx => (getL_none.1 h) _ (List.mem_map.2 ⟨x, hx, rfl⟩)⟩
  | some v =>
    obtain ⟨x, hx, e1, rfl⟩ := entL_mem (getL_mem h)
    exact .inr ⟨x, hx, e1.symm, rfl⟩
set_option maxRecDepth 8000 in
set_option maxHeartbeats 8000000 in
theorem eClosed_any (l : List Ev) (v : Value) (w : World) (hS : Evs w v l) : Calls Try.prog 32 #[v] w (EclR l w) := by
  have hmm := @run_makeMap Try.prog
  obtain ⟨A, ca, rfl, hca, hma⟩ := hS.form
  by_cases hl : l.length ≤ 1024
  · have e0 : decide ((1024 : Int) < (l.length : Int)) = false := decide_eq_false (by omega)
    have k1 := (Kp.refl w).alloc (.map #[] 0)
    have hM0 := MapL.new (encK := dtV) w
    go_enter Try.func32, Try.ntmps32
    go_upto_region 4 with (fail)
    generalize w.alloc (.map #[] 0) = w1 at *
    obtain ⟨mb, hmb⟩ : ∃ mb, mb = w.heap.size := ⟨_, rfl⟩
    rw [← hmb] at hM0 ⊢
    have hmbw : w.heap.size ≤ mb := Nat.le_of_eq hmb.symm
    replace hmb := hid hmb
    go_wp2_with fail
    go_loopw [21] (fun vi wr => ∃ (k : Nat) (M : List EvS), k ≤ l.length ∧ vi = .int .i64 (k : Int) ∧ MapL dtV wr mb (entL M) ∧ Hid (M.map (·.e) = l.take k) ∧ Hid (ClPre l k) ∧ Hid (∀ x ∈ M, Ints w x.v x.e.past) ∧ Kp w wr) (fun vi _ => l.length - (intOf vi).toNat)
    case atStart => exact ⟨0, [], Nat.zero_le _, rfl, hM0, hid rfl, hid (ClPre.zero l), hid (by simp), k1⟩
    case round =>
      clear hM0 k1
      obtain ⟨k, M, hk, rfl, hMp, hMe, hPre, hMI, kr⟩ := hrel
      obtain ⟨wo, rfl⟩ : ∃ wo : World, wo = wr := ⟨_, rfl⟩
      by_cases hlt : k < l.length
      · have hltI : (k : Int) < (l.length : Int) := by omega
        obtain ⟨b, o, va, rfl, hb, hr, hva⟩ := Sl.evAt hS hlt
        obtain ⟨b', o', v0, hA0, -, hr0, hv0⟩ := Sl.evAt hS (k := 0) (by omega)
        obtain ⟨rfl, rfl⟩ : b = b' ∧ o = o' := by simpa using hA0
        have hw0 : (l[0]'(by omega)).past.length = w0 l := by cases l with | nil => exact absurd hlt (by simp) | cons x l => rfl
        obtain ⟨A0, c0, rfl, hc0, hm0⟩ := hv0.form
        obtain ⟨Av, cv, rfl, hcv, hmv⟩ := hva.form
        rw [hw0] at hr0 hc0
        have h00 := hr0 3 (.slice A0 (w0 l) c0) (by simp [evL, hw0])
        rw [Nat.zero_mul, Nat.add_zero] at h00
        have HPS := hid (fun (h1 : ∀ x ∈ l.take k, nameE x ≠ nameE l[k]) h2 h3 => hPre.out.succ hlt h1 h2 h3)
        have HAG := hid (fun (x : Ev) (hx : x ∈ l.take k) (hn : nameE x = nameE l[k]) => closed_again hlt hx hn)
        have HTK := hid (List.take_succ_eq_append_getElem hlt)
        have HMEM := hid (List.getElem_mem hlt)
        generalize l[k] = x at *
        obtain ⟨m, hm⟩ : ∃ m, m = x.past.length := ⟨_, rfl⟩
        rw [← hm] at hr hcv hva
        obtain ⟨L, hL⟩ : ∃ L, L = evL x (.slice Av m cv) := ⟨_, rfl⟩
        have lL : L.length = 13 := by rw [hL]; rfl
        have oL : ∀ u ∈ L, u.oneCell' = true := by rw [hL]; exact evL_one _ _ _ _
        have hL3 : L[3]? = some (.slice Av m cv) := by rw [hL]; rfl
        rw [← hL] at hr
        have HNm : Hid (∀ W, Calls Try.prog 62 #[.agg L.toArray] W fun z w' => z = .returned (.agg #[.int .i64 x.r, .int .i64 x.n]) ∧ Kp W w') := hid fun W => by
          rw [hL]
          exact eName_any x _ W
        obtain ⟨fm, hfm⟩ : ∃ fm, fm = formedE x := ⟨_, rfl⟩
        have HFm : Hid (∀ W, Kp w W → Calls Try.prog 40 #[.agg L.toArray] W fun z w' => z = .returned (.bool fm) ∧ Kp W w') := hid fun W kW => by
          rw [hL, hfm]
          exact eFormed_any x _ W (hva.keep (pl_stable _) kW)
        replace hm := hid hm
        replace hL := hid hL
        replace hfm := hid hfm
        replace hw0 := hid hw0
        have hro := rangeAt_kp hr kr
        have hbo := Nat.lt_of_lt_of_le hb kr.size
        have h00o := kr.cellS h00
        obtain ⟨hth, hB, kx⟩ := ev_boxE wo L lL
        obtain ⟨w6, hw6⟩ : ∃ w6, w6 = (wo.alloc (.cells #[.int .i64 0, .int .i64 0, .int .i64 0, .slice none 0 0, .int .i64 0, .int .i64 0, .int .i64 0, .int .i64 0, .int .i64 0, .int .i64 0, .int .i64 0, .int .i64 0, .int .i64 0] 33)).setCells wo.heap.size 0 L := ⟨_, rfl⟩
        rw [← hw6] at hB kx
        replace hw6 := hid hw6
        have hrB := hB.range
        have hlB := hB.lt (by omega)
        have hva' := hid hva
        clear hva hr hr0 hv0 hA0 h00
        go_wp2_with (first | (refine wpList_load_mid rfl 33 (.tmp 23) rfl b (o + k * 13) rfl _ _ hro Try.underlying33 rfl (iEv lL) ?_) | (refine wpList_store_mid rfl 33 (.tmp 5) (.tmp 24) rfl wo.heap.size 0 L.toArray rfl rfl hth (iEv2 lL) (all_oneCell_toArray oL) ?_; rw [List.toList_toArray, ← hw6.out]) | (refine wpList_load_mid rfl 33 (.tmp 5) rfl wo.heap.size 0 rfl _ _ hrB Try.underlying33 rfl (iEv lL) ?_))
        refine (HNm.out _).mono ?_
        rintro z w7 ⟨rfl, k7⟩
        obtain ⟨LV, lLV, oLV, hLV⟩ := getL_entV (nameE x) M
        obtain ⟨hd, hhd⟩ : ∃ hd, hd = M.any (fun z => decide (nameE z.e = nameE x)) := ⟨_, rfl⟩
        have hM7 := (hMp.kp kx).kp k7
        have hlk : Sem.run Try.prog (Instr.lookup 93 (.map (some mb)) (.agg #[.int .i64 x.r, .int .i64 x.n]) true) w7 = .ok (.tuple #[.agg LV.toArray, .bool hd]) w7 := by
          have := hM7.look keyDt Try.underlying93 (zeroEv w7) (nameE x) true
          rw [if_pos rfl, hLV, getL_ent, ← hhd] at this
          exact this
        replace hhd := hid hhd
        obtain ⟨hth8, hB8', kx8⟩ := ev_boxE w7 LV lLV
        obtain ⟨w8, hw8⟩ : ∃ w8, w8 = (w7.alloc (.cells #[.int .i64 0, .int .i64 0, .int .i64 0, .slice none 0 0, .int .i64 0, .int .i64 0, .int .i64 0, .int .i64 0, .int .i64 0, .int .i64 0, .int .i64 0, .int .i64 0, .int .i64 0] 33)).setCells w7.heap.size 0 LV := ⟨_, rfl⟩
        rw [← hw8] at kx8
        replace hw8 := hid hw8
        have k68 := k7.trans kx8
        have k08 := kx.trans k68
        have hB8 := hB.kp k68 hlB
        have hl8 := hB8.lt (by omega)
        have e3 := hB8.cell (j := 3) hL3
        have h8 := k08.cellS h00o
        have hb8 := Nat.lt_of_lt_of_le hbo k08.size
        have hM8 := hM7.kp kx8
        have kw8 := kr.trans k08
        have HrE : Hid (∀ W, Kp w8 W → W.rangeAt wo.heap.size 0 L) := hid fun W kW => (hB8.kp kW hl8).range
        have HF8 : Hid (∀ W, Kp w8 W → Calls Try.prog 40 #[.agg L.toArray] W fun z w' => z = .returned (.bool fm) ∧ Kp W w') := hid fun W kW => HFm.out W (kw8.trans kW)
        clear hLV hB8' hM7 hMp kx k7 kx8 k68 hrB hlB hB hro h00o HFm hbo
        go_wp2_with (refine wpList_store_mid rfl 33 (.tmp 6) (.tmp 30) rfl w7.heap.size 0 LV.toArray rfl rfl hth8 (iEv2 lLV) (all_oneCell_toArray oLV) ?_; rw [List.toList_toArray, ← hw8.out])
        go_upto_region 8 with (fail)
        clear hlk hth8 hth
        cases hd with
        | true =>
          have HBAD : Hid (¬ ClosedP l) := hid (by
            obtain ⟨z, hz, hzn⟩ := List.any_eq_true.1 hhd.out.symm
            exact HAG.out z.e (by rw [← hMe.out]; exact List.mem_map.2 ⟨z, hz, rfl⟩) (by simpa using hzn))
          refine G2.wp_region_growT Kp [] 16 100 (G2.pvL [G2.eqv (.bool true), G2.eqv (.bool true), G2.eqv (undef), G2.eqv (undef), G2.eqv (undef), G2.eqv (.bool true), G2.eqv (.bool true), G2.eqv (undef), G2.eqv (undef), G2.eqv (undef), G2.eqv (undef), G2.eqv (undef), G2.eqv (undef), G2.eqv (undef), G2.eqv (undef), G2.eqv (undef)]) (by kernel_rfl) (by kernel_rfl) rfl (fun x => Kp.refl x) (fun _ _ _ h k => h.trans k) (Kp.refl _).drew (by intro _ _ _ _ _ h; exact h) (G2.pvL_keep (G2.stabL_cons (G2.stab_eq _) (G2.stabL_cons (G2.stab_eq _) (G2.stabL_cons (G2.stab_eq _) (G2.stabL_cons (G2.stab_eq _) (G2.stabL_cons (G2.stab_eq _) (G2.stabL_cons (G2.stab_eq _) (G2.stabL_cons (G2.stab_eq _) (G2.stabL_cons (G2.stab_eq _) (G2.stabL_cons (G2.stab_eq _) (G2.stabL_cons (G2.stab_eq _) (G2.stabL_cons (G2.stab_eq _) (G2.stabL_cons (G2.stab_eq _) (G2.stabL_cons (G2.stab_eq _) (G2.stabL_cons (G2.stab_eq _) (G2.stabL_cons (G2.stab_eq _) (G2.stabL_cons (G2.stab_eq _) (G2.stabL_nil)))))))))))))))))) (G2.stepsT_cons 0 ?_ (G2.stepsT_cons 1 ?_ (G2.stepsT_cons 2 ?_ (G2.stepsT_cons 3 ?_ (G2.stepsT_cons 4 ?_ (G2.stepsT_cons 5 ?_ (G2.stepsT_cons 6 ?_ (G2.stepsT_cons 7 ?_ (G2.stepsT_cons 8 ?_ (G2.stepsT_cons 9 ?_ (G2.stepsT_cons 10 ?_ (G2.stepsT_cons 11 ?_ (G2.stepsT_cons 12 ?_ (G2.stepsT_cons 13 ?_ (G2.stepsT_cons 14 ?_ (G2.stepsT_cons 15 ?_ (G2.stepsT_nil _ _ _))))))))))))))))) ?_ ?_
          · intro a w' hk hF hD K hK
            have h7 : a.tmps[7]?.getD undef = .bool true := hF 7 (by kernel_rfl)
            clear hF hD
            go_simp
            exact hK.out _ _ (Kp.refl _) rfl
          · intro a w' hk hF hD K hK
            have h32 : a.tmps[32]?.getD undef = .bool true := hD 0 (by kernel_rfl)
            clear hF hD
            go_simp
            exact hK.out _ _ (Kp.refl _) rfl
          · intro a w' hk hF hD K hK
            have h5 : a.tmps[5]?.getD undef = .pointer (some ⟨wo.heap.size, 0, none⟩) := hF 5 (by kernel_rfl)
            have h33 : a.tmps[33]?.getD undef = .bool true := hD 1 (by kernel_rfl)
            have g33 := guard_get h33
            clear hF hD
            go_simp
            exact hK.out _ _ (Kp.refl _) rfl
          · intro a w' hk hF hD K hK
            have h34 : a.tmps[34]?.getD undef = undef := hD 2 (by kernel_rfl)
            have h33 : a.tmps[33]?.getD undef = .bool true := hD 1 (by kernel_rfl)
            have g33 := guard_get h33
            clear hF hD
            go_simp
            exact hK.out _ _ (Kp.refl _) rfl
          · intro a w' hk hF hD K hK
            have h35 : a.tmps[35]?.getD undef = undef := hD 3 (by kernel_rfl)
            have h33 : a.tmps[33]?.getD undef = .bool true := hD 1 (by kernel_rfl)
            have g33 := guard_get h33
            clear hF hD
            go_simp
            exact hK.out _ _ (Kp.refl _) rfl
          · intro a w' hk hF hD K hK
            have h33 : a.tmps[33]?.getD undef = .bool true := hD 1 (by kernel_rfl)
            have h36 : a.tmps[36]?.getD undef = undef := hD 4 (by kernel_rfl)
            clear hF hD
            go_simp
            exact hK.out _ _ (Kp.refl _) rfl
          · intro a w' hk hF hD K hK
            have h37 : a.tmps[37]?.getD undef = .bool true := hD 5 (by kernel_rfl)
            clear hF hD
            go_simp
            exact hK.out _ _ (Kp.refl _) rfl
          · intro a w' hk hF hD K hK
            have h5 : a.tmps[5]?.getD undef = .pointer (some ⟨wo.heap.size, 0, none⟩) := hF 5 (by kernel_rfl)
            have h38 : a.tmps[38]?.getD undef = .bool true := hD 6 (by kernel_rfl)
            have g38 := guard_get h38
            clear hF hD
            go_simp
            exact hK.out _ _ (Kp.refl _) rfl
          · intro a w' hk hF hD K hK
            have h39 : a.tmps[39]?.getD undef = undef := hD 7 (by kernel_rfl)
            have h38 : a.tmps[38]?.getD undef = .bool true := hD 6 (by kernel_rfl)
            have g38 := guard_get h38
            clear hF hD
            go_simp
            exact hK.out _ _ (Kp.refl _) rfl
          · intro a w' hk hF hD K hK
            have h40 : a.tmps[40]?.getD undef = undef := hD 8 (by kernel_rfl)
            have h38 : a.tmps[38]?.getD undef = .bool true := hD 6 (by kernel_rfl)
            have g38 := guard_get h38
            clear hF hD
            go_simp
            exact hK.out _ _ (Kp.refl _) rfl
          · intro a w' hk hF hD K hK
            have h0 : a.tmps[0]?.getD undef = .slice (some ⟨b, o, none⟩) l.length ca := hF 0 (by kernel_rfl)
            have h38 : a.tmps[38]?.getD undef = .bool true := hD 6 (by kernel_rfl)
            have g38 := guard_get h38
            clear hF hD
            go_simp
            exact hK.out _ _ (Kp.refl _) rfl
          · intro a w' hk hF hD K hK
            have h42 : a.tmps[42]?.getD undef = undef := hD 10 (by kernel_rfl)
            have h38 : a.tmps[38]?.getD undef = .bool true := hD 6 (by kernel_rfl)
            have g38 := guard_get h38
            clear hF hD
            go_simp
            exact hK.out _ _ (Kp.refl _) rfl
          · intro a w' hk hF hD K hK
            have h43 : a.tmps[43]?.getD undef = undef := hD 11 (by kernel_rfl)
            have h38 : a.tmps[38]?.getD undef = .bool true := hD 6 (by kernel_rfl)
            have g38 := guard_get h38
            clear hF hD
            go_simp
            exact hK.out _ _ (Kp.refl _) rfl
          · intro a w' hk hF hD K hK
            have h44 : a.tmps[44]?.getD undef = undef := hD 12 (by kernel_rfl)
            have h38 : a.tmps[38]?.getD undef = .bool true := hD 6 (by kernel_rfl)
            have g38 := guard_get h38
            clear hF hD
            go_simp
            exact hK.out _ _ (Kp.refl _) rfl
          · intro a w' hk hF hD K hK
            have h45 : a.tmps[45]?.getD undef = undef := hD 13 (by kernel_rfl)
            have h38 : a.tmps[38]?.getD undef = .bool true := hD 6 (by kernel_rfl)
            have g38 := guard_get h38
            clear hF hD
            go_simp
            exact hK.out _ _ (Kp.refl _) rfl
          · intro a w' hk hF hD K hK
            have h41 : a.tmps[41]?.getD undef = undef := hD 9 (by kernel_rfl)
            have h46 : a.tmps[46]?.getD undef = undef := hD 14 (by kernel_rfl)
            have h38 : a.tmps[38]?.getD undef = .bool true := hD 6 (by kernel_rfl)
            have g38 := guard_get h38
            clear hF hD
            go_simp
            exact hK.out _ _ (Kp.refl _) rfl
          · exact fun i0 hi0 => by simp at hi0
          intro v w9 k9 hv
          have v6 : v 6 = .bool true := hv 6 (by omega)
          have v15 : v 15 = undef := hv 15 (by omega)
          clear hv
          simp only [G2.growPut, G2.gSlot, List.getElem?_toArray, List.getElem?_cons_zero, List.getElem?_cons_succ, Option.bind_some, List.setIfInBounds_toArray, List.set_cons_zero, List.set_cons_succ, List.drop_succ_cons, List.drop_zero, v6, v15]
          have kf := kw8.trans k9
          clear e3 h8
          go_wp2
          go_ret
          exact eclR_no HBAD.out kf
        | false =>
          have hnew : ∀ z ∈ l.take k, nameE z ≠ nameE x := fun z hz => by
            rw [← hMe.out] at hz
            obtain ⟨y, hy, rfl⟩ := List.mem_map.1 hz
            have := List.any_eq_false.1 hhd.out.symm y hy
            simpa using this
          replace hnew := hid hnew
          cases fm with
          | false =>
            have HBAD : Hid (¬ ClosedP l) := hid fun h => by
              have := h.fe x HMEM.out
              rw [← hfm.out] at this
              cases this
            refine G2.wp_region_growT Kp [] 16 100 (G2.pvL [G2.eqv (.bool false), G2.eqv (.bool false), G2.eqv (.agg L.toArray), G2.eqv (.bool false), G2.eqv (.bool true), G2.eqv (.bool true), G2.eqv (.bool true), G2.eqv (undef), G2.eqv (undef), G2.eqv (undef), G2.eqv (undef), G2.eqv (undef), G2.eqv (undef), G2.eqv (undef), G2.eqv (undef), G2.eqv (undef)]) (by kernel_rfl) (by kernel_rfl) rfl (fun x => Kp.refl x) (fun _ _ _ h k => h.trans k) (Kp.refl _).drew (by intro _ _ _ _ _ h; exact h) (G2.pvL_keep (G2.stabL_cons (G2.stab_eq _) (G2.stabL_cons (G2.stab_eq _) (G2.stabL_cons (G2.stab_eq _) (G2.stabL_cons (G2.stab_eq _) (G2.stabL_cons (G2.stab_eq _) (G2.stabL_cons (G2.stab_eq _) (G2.stabL_cons (G2.stab_eq _) (G2.stabL_cons (G2.stab_eq _) (G2.stabL_cons (G2.stab_eq _) (G2.stabL_cons (G2.stab_eq _) (G2.stabL_cons (G2.stab_eq _) (G2.stabL_cons (G2.stab_eq _) (G2.stabL_cons (G2.stab_eq _) (G2.stabL_cons (G2.stab_eq _) (G2.stabL_cons (G2.stab_eq _) (G2.stabL_cons (G2.stab_eq _) (G2.stabL_nil)))))))))))))))))) (G2.stepsT_cons 0 ?_ (G2.stepsT_cons 1 ?_ (G2.stepsT_cons 2 ?_ (G2.stepsT_cons 3 ?_ (G2.stepsT_cons 4 ?_ (G2.stepsT_cons 5 ?_ (G2.stepsT_cons 6 ?_ (G2.stepsT_cons 7 ?_ (G2.stepsT_cons 8 ?_ (G2.stepsT_cons 9 ?_ (G2.stepsT_cons 10 ?_ (G2.stepsT_cons 11 ?_ (G2.stepsT_cons 12 ?_ (G2.stepsT_cons 13 ?_ (G2.stepsT_cons 14 ?_ (G2.stepsT_cons 15 ?_ (G2.stepsT_nil _ _ _))))))))))))))))) ?_ ?_
            · intro a w' hk hF hD K hK
              have h7 : a.tmps[7]?.getD undef = .bool false := hF 7 (by kernel_rfl)
              clear hF hD
              go_simp
              exact hK.out _ _ (Kp.refl _) rfl
            · intro a w' hk hF hD K hK
              have h32 : a.tmps[32]?.getD undef = .bool false := hD 0 (by kernel_rfl)
              clear hF hD
              go_simp
              exact hK.out _ _ (Kp.refl _) rfl
            · intro a w' hk hF hD K hK
              have h5 : a.tmps[5]?.getD undef = .pointer (some ⟨wo.heap.size, 0, none⟩) := hF 5 (by kernel_rfl)
              have h33 : a.tmps[33]?.getD undef = .bool false := hD 1 (by kernel_rfl)
              have g33 := guard_get h33
              clear hF hD
              rw [if_pos (by simp [Region.wanted, yielded, g33])]
              refine wp_load_mid 33 (.tmp 5) rfl wo.heap.size 0 ((eval_tmp _ _).trans h5) L _ (HrE.out _ hk) Try.underlying33 rfl (iEv lL) ?_
              exact hK.out _ _ (Kp.refl _) rfl
            · intro a w' hk hF hD K hK
              have h34 : a.tmps[34]?.getD undef = .agg L.toArray := hD 2 (by kernel_rfl)
              have h33 : a.tmps[33]?.getD undef = .bool false := hD 1 (by kernel_rfl)
              have g33 := guard_get h33
              clear hF hD
              go_simp
              refine (HF8.out _ hk).mono ?_
              rintro e w9 ⟨rfl, k9⟩
              exact hK.out _ _ k9 rfl
            · intro a w' hk hF hD K hK
              have h35 : a.tmps[35]?.getD undef = .bool false := hD 3 (by kernel_rfl)
              have h33 : a.tmps[33]?.getD undef = .bool false := hD 1 (by kernel_rfl)
              have g33 := guard_get h33
              clear hF hD
              go_simp
              exact hK.out _ _ (Kp.refl _) rfl
            · intro a w' hk hF hD K hK
              have h33 : a.tmps[33]?.getD undef = .bool false := hD 1 (by kernel_rfl)
              have h36 : a.tmps[36]?.getD undef = .bool true := hD 4 (by kernel_rfl)
              clear hF hD
              go_simp
              exact hK.out _ _ (Kp.refl _) rfl
            · intro a w' hk hF hD K hK
              have h37 : a.tmps[37]?.getD undef = .bool true := hD 5 (by kernel_rfl)
              clear hF hD
              go_simp
              exact hK.out _ _ (Kp.refl _) rfl
            · intro a w' hk hF hD K hK
              have h5 : a.tmps[5]?.getD undef = .pointer (some ⟨wo.heap.size, 0, none⟩) := hF 5 (by kernel_rfl)
              have h38 : a.tmps[38]?.getD undef = .bool true := hD 6 (by kernel_rfl)
              have g38 := guard_get h38
              clear hF hD
              go_simp
              exact hK.out _ _ (Kp.refl _) rfl
            · intro a w' hk hF hD K hK
              have h39 : a.tmps[39]?.getD undef = undef := hD 7 (by kernel_rfl)
              have h38 : a.tmps[38]?.getD undef = .bool true := hD 6 (by kernel_rfl)
              have g38 := guard_get h38
              clear hF hD
              go_simp
              exact hK.out _ _ (Kp.refl _) rfl
            · intro a w' hk hF hD K hK
              have h40 : a.tmps[40]?.getD undef = undef := hD 8 (by kernel_rfl)
              have h38 : a.tmps[38]?.getD undef = .bool true := hD 6 (by kernel_rfl)
              have g38 := guard_get h38
              clear hF hD
              go_simp
              exact hK.out _ _ (Kp.refl _) rfl
            · intro a w' hk hF hD K hK
              have h0 : a.tmps[0]?.getD undef = .slice (some ⟨b, o, none⟩) l.length ca := hF 0 (by kernel_rfl)
              have h38 : a.tmps[38]?.getD undef = .bool true := hD 6 (by kernel_rfl)
              have g38 := guard_get h38
              clear hF hD
              go_simp
              exact hK.out _ _ (Kp.refl _) rfl
            · intro a w' hk hF hD K hK
              have h42 : a.tmps[42]?.getD undef = undef := hD 10 (by kernel_rfl)
              have h38 : a.tmps[38]?.getD undef = .bool true := hD 6 (by kernel_rfl)
              have g38 := guard_get h38
              clear hF hD
              go_simp
              exact hK.out _ _ (Kp.refl _) rfl
            · intro a w' hk hF hD K hK
              have h43 : a.tmps[43]?.getD undef = undef := hD 11 (by kernel_rfl)
              have h38 : a.tmps[38]?.getD undef = .bool true := hD 6 (by kernel_rfl)
              have g38 := guard_get h38
              clear hF hD
              go_simp
              exact hK.out _ _ (Kp.refl _) rfl
            · intro a w' hk hF hD K hK
              have h44 : a.tmps[44]?.getD undef = undef := hD 12 (by kernel_rfl)
              have h38 : a.tmps[38]?.getD undef = .bool true := hD 6 (by kernel_rfl)
              have g38 := guard_get h38
              clear hF hD
              go_simp
              exact hK.out _ _ (Kp.refl _) rfl
            · intro a w' hk hF hD K hK
              have h45 : a.tmps[45]?.getD undef = undef := hD 13 (by kernel_rfl)
              have h38 : a.tmps[38]?.getD undef = .bool true := hD 6 (by kernel_rfl)
              have g38 := guard_get h38
              clear hF hD
              go_simp
              exact hK.out _ _ (Kp.refl _) rfl
            · intro a w' hk hF hD K hK
              have h41 : a.tmps[41]?.getD undef = undef := hD 9 (by kernel_rfl)
              have h46 : a.tmps[46]?.getD undef = undef := hD 14 (by kernel_rfl)
              have h38 : a.tmps[38]?.getD undef = .bool true := hD 6 (by kernel_rfl)
              have g38 := guard_get h38
              clear hF hD
              go_simp
              exact hK.out _ _ (Kp.refl _) rfl
            · exact fun i0 hi0 => by simp at hi0
            intro v w9 k9 hv
            have v6 : v 6 = .bool true := hv 6 (by omega)
            have v15 : v 15 = undef := hv 15 (by omega)
            clear hv
            simp only [G2.growPut, G2.gSlot, List.getElem?_toArray, List.getElem?_cons_zero, List.getElem?_cons_succ, Option.bind_some, List.setIfInBounds_toArray, List.set_cons_zero, List.set_cons_succ, List.drop_succ_cons, List.drop_zero, v6, v15]
            have kf := kw8.trans k9
            clear e3 h8
            go_wp2
            go_ret
            exact eclR_no HBAD.out kf
          | true =>
            obtain ⟨nb, hnb⟩ : ∃ nb, nb = !decide (m = w0 l) := ⟨_, rfl⟩
            have q1 : ((m : Int) != (w0 l : Int)) = nb := by
              rw [hnb, Bool.eq_iff_iff]
              simp
              omega
            have q2 : (m != w0 l) = nb := by
              rw [hnb, Bool.eq_iff_iff]
              simp
            have q3 : (!decide (m = w0 l)) = nb := hnb.symm
            have q4 : ((m : Int) == (w0 l : Int)) = !nb := by
              rw [hnb, Bool.eq_iff_iff]
              simp
              omega
            replace hnb := hid hnb
            refine G2.wp_region_growT Kp [] 16 100 (G2.pvL [G2.eqv (.bool false), G2.eqv (.bool false), G2.eqv (.agg L.toArray), G2.eqv (.bool true), G2.eqv (.bool false), G2.eqv (.bool false), G2.eqv (.bool false), G2.eqv (.pointer (some ⟨wo.heap.size, 3, none⟩)), G2.eqv (.slice Av m cv), G2.eqv (.int .i64 (m : Int)), G2.eqv (.slice (some ⟨b, o, none⟩) l.length ca), G2.eqv (.pointer (some ⟨b, o, none⟩)), G2.eqv (.pointer (some ⟨b, o + 3, none⟩)), G2.eqv (.slice A0 (w0 l) c0), G2.eqv (.int .i64 (w0 l : Int)), G2.eqv (.bool nb)]) (by kernel_rfl) (by kernel_rfl) rfl (fun x => Kp.refl x) (fun _ _ _ h k => h.trans k) (Kp.refl _).drew (by intro _ _ _ _ _ h; exact h) (G2.pvL_keep (G2.stabL_cons (G2.stab_eq _) (G2.stabL_cons (G2.stab_eq _) (G2.stabL_cons (G2.stab_eq _) (G2.stabL_cons (G2.stab_eq _) (G2.stabL_cons (G2.stab_eq _) (G2.stabL_cons (G2.stab_eq _) (G2.stabL_cons (G2.stab_eq _) (G2.stabL_cons (G2.stab_eq _) (G2.stabL_cons (G2.stab_eq _) (G2.stabL_cons (G2.stab_eq _) (G2.stabL_cons (G2.stab_eq _) (G2.stabL_cons (G2.stab_eq _) (G2.stabL_cons (G2.stab_eq _) (G2.stabL_cons (G2.stab_eq _) (G2.stabL_cons (G2.stab_eq _) (G2.stabL_cons (G2.stab_eq _) (G2.stabL_nil)))))))))))))))))) (G2.stepsT_cons 0 ?_ (G2.stepsT_cons 1 ?_ (G2.stepsT_cons 2 ?_ (G2.stepsT_cons 3 ?_ (G2.stepsT_cons 4 ?_ (G2.stepsT_cons 5 ?_ (G2.stepsT_cons 6 ?_ (G2.stepsT_cons 7 ?_ (G2.stepsT_cons 8 ?_ (G2.stepsT_cons 9 ?_ (G2.stepsT_cons 10 ?_ (G2.stepsT_cons 11 ?_ (G2.stepsT_cons 12 ?_ (G2.stepsT_cons 13 ?_ (G2.stepsT_cons 14 ?_ (G2.stepsT_cons 15 ?_ (G2.stepsT_nil _ _ _))))))))))))))))) ?_ ?_
            · intro a w' hk hF hD K hK
              have h7 : a.tmps[7]?.getD undef = .bool false := hF 7 (by kernel_rfl)
              clear hF hD
              go_simp
              exact hK.out _ _ (Kp.refl _) rfl
            · intro a w' hk hF hD K hK
              have h32 : a.tmps[32]?.getD undef = .bool false := hD 0 (by kernel_rfl)
              clear hF hD
              go_simp
              exact hK.out _ _ (Kp.refl _) rfl
            · intro a w' hk hF hD K hK
              have h5 : a.tmps[5]?.getD undef = .pointer (some ⟨wo.heap.size, 0, none⟩) := hF 5 (by kernel_rfl)
              have h33 : a.tmps[33]?.getD undef = .bool false := hD 1 (by kernel_rfl)
              have g33 := guard_get h33
              clear hF hD
              rw [if_pos (by simp [Region.wanted, yielded, g33])]
              refine wp_load_mid 33 (.tmp 5) rfl wo.heap.size 0 ((eval_tmp _ _).trans h5) L _ (HrE.out _ hk) Try.underlying33 rfl (iEv lL) ?_
              exact hK.out _ _ (Kp.refl _) rfl
            · intro a w' hk hF hD K hK
              have h34 : a.tmps[34]?.getD undef = .agg L.toArray := hD 2 (by kernel_rfl)
              have h33 : a.tmps[33]?.getD undef = .bool false := hD 1 (by kernel_rfl)
              have g33 := guard_get h33
              clear hF hD
              go_simp
              refine (HF8.out _ hk).mono ?_
              rintro e w9 ⟨rfl, k9⟩
              exact hK.out _ _ k9 rfl
            · intro a w' hk hF hD K hK
              have h35 : a.tmps[35]?.getD undef = .bool true := hD 3 (by kernel_rfl)
              have h33 : a.tmps[33]?.getD undef = .bool false := hD 1 (by kernel_rfl)
              have g33 := guard_get h33
              clear hF hD
              go_simp
              exact hK.out _ _ (Kp.refl _) rfl
            · intro a w' hk hF hD K hK
              have h33 : a.tmps[33]?.getD undef = .bool false := hD 1 (by kernel_rfl)
              have h36 : a.tmps[36]?.getD undef = .bool false := hD 4 (by kernel_rfl)
              clear hF hD
              go_simp
              exact hK.out _ _ (Kp.refl _) rfl
            · intro a w' hk hF hD K hK
              have h37 : a.tmps[37]?.getD undef = .bool false := hD 5 (by kernel_rfl)
              clear hF hD
              go_simp
              exact hK.out _ _ (Kp.refl _) rfl
            · intro a w' hk hF hD K hK
              have h5 : a.tmps[5]?.getD undef = .pointer (some ⟨wo.heap.size, 0, none⟩) := hF 5 (by kernel_rfl)
              have h38 : a.tmps[38]?.getD undef = .bool false := hD 6 (by kernel_rfl)
              have g38 := guard_get h38
              clear hF hD
              go_simp
              exact hK.out _ _ (Kp.refl _) rfl
            · intro a w' hk hF hD K hK
              have h39 : a.tmps[39]?.getD undef = .pointer (some ⟨wo.heap.size, 3, none⟩) := hD 7 (by kernel_rfl)
              have h38 : a.tmps[38]?.getD undef = .bool false := hD 6 (by kernel_rfl)
              have g38 := guard_get h38
              clear hF hD
              have z0 := hk.cellS e3
              go_simp
              exact hK.out _ _ (Kp.refl _) rfl
            · intro a w' hk hF hD K hK
              have h40 : a.tmps[40]?.getD undef = .slice Av m cv := hD 8 (by kernel_rfl)
              have h38 : a.tmps[38]?.getD undef = .bool false := hD 6 (by kernel_rfl)
              have g38 := guard_get h38
              clear hF hD
              go_simp
              exact hK.out _ _ (Kp.refl _) rfl
            · intro a w' hk hF hD K hK
              have h0 : a.tmps[0]?.getD undef = .slice (some ⟨b, o, none⟩) l.length ca := hF 0 (by kernel_rfl)
              have h38 : a.tmps[38]?.getD undef = .bool false := hD 6 (by kernel_rfl)
              have g38 := guard_get h38
              clear hF hD
              go_simp
              exact hK.out _ _ (Kp.refl _) rfl
            · intro a w' hk hF hD K hK
              have h42 : a.tmps[42]?.getD undef = .slice (some ⟨b, o, none⟩) l.length ca := hD 10 (by kernel_rfl)
              have h38 : a.tmps[38]?.getD undef = .bool false := hD 6 (by kernel_rfl)
              have g38 := guard_get h38
              clear hF hD
              have za : 0 < l.length := by omega
              go_simp
              exact hK.out _ _ (Kp.refl _) rfl
            · intro a w' hk hF hD K hK
              have h43 : a.tmps[43]?.getD undef = .pointer (some ⟨b, o, none⟩) := hD 11 (by kernel_rfl)
              have h38 : a.tmps[38]?.getD undef = .bool false := hD 6 (by kernel_rfl)
              have g38 := guard_get h38
              clear hF hD
              go_simp
              exact hK.out _ _ (Kp.refl _) rfl
            · intro a w' hk hF hD K hK
              have h44 : a.tmps[44]?.getD undef = .pointer (some ⟨b, o + 3, none⟩) := hD 12 (by kernel_rfl)
              have h38 : a.tmps[38]?.getD undef = .bool false := hD 6 (by kernel_rfl)
              have g38 := guard_get h38
              clear hF hD
              have z0 := hk.cellS h8
              go_simp
              exact hK.out _ _ (Kp.refl _) rfl
            · intro a w' hk hF hD K hK
              have h45 : a.tmps[45]?.getD undef = .slice A0 (w0 l) c0 := hD 13 (by kernel_rfl)
              have h38 : a.tmps[38]?.getD undef = .bool false := hD 6 (by kernel_rfl)
              have g38 := guard_get h38
              clear hF hD
              go_simp
              exact hK.out _ _ (Kp.refl _) rfl
            · intro a w' hk hF hD K hK
              have h41 : a.tmps[41]?.getD undef = .int .i64 (m : Int) := hD 9 (by kernel_rfl)
              have h46 : a.tmps[46]?.getD undef = .int .i64 (w0 l : Int) := hD 14 (by kernel_rfl)
              have h38 : a.tmps[38]?.getD undef = .bool false := hD 6 (by kernel_rfl)
              have g38 := guard_get h38
              clear hF hD
              have z1 := q1
              have z2 := q2
              have z3 := q3
              have z4 := q4
              go_simp
              exact hK.out _ _ (Kp.refl _) rfl
            · exact fun i0 hi0 => by simp at hi0
            intro v w9 k9 hv
            have v6 : v 6 = .bool false := hv 6 (by omega)
            have v15 : v 15 = .bool nb := hv 15 (by omega)
            clear hv
            simp only [G2.growPut, G2.gSlot, List.getElem?_toArray, List.getElem?_cons_zero, List.getElem?_cons_succ, Option.bind_some, List.setIfInBounds_toArray, List.set_cons_zero, List.set_cons_succ, List.drop_succ_cons, List.drop_zero, v6, v15]
            clear q1 q2 q3 q4
            have kw9 := kw8.trans k9
            have hM9 := hM8.kp k9
            cases nb with
            | true =>
              have HBAD : Hid (¬ ClosedP l) := hid fun h => by
                obtain ⟨y, hy, hyw⟩ := w0_mem (l := l) (by intro e; rw [e] at hlt; simp at hlt)
                have h1 := h.width x HMEM.out y hy
                have h2 := hnb.out
                rw [hyw, ← hm.out] at h1
                simp [h1] at h2
              clear e3 h8
              go_wp2
              go_ret
              exact eclR_no HBAD.out kw9
            | false =>
              have hmw : m = w0 l := by simpa using hnb.out
              replace hmw := hid hmw
              have hl9 := Nat.lt_of_lt_of_le hl8 k9.size
              clear e3 h8
              go_upto_region 10 with (fail)
              have HN9 : Hid (∀ W, Calls Try.prog 62 #[.agg L.toArray] W fun z w' => z = .returned (.agg #[.int .i64 x.r, .int .i64 x.n]) ∧ Kp W w') := HNm
              have HrE9 := hid (fun W (kW : Kp w9 W) => HrE.out W (k9.trans kW))
              obtain ⟨wz, hwz⟩ : ∃ wz, wz = w9 := ⟨_, rfl⟩
              rw [← hwz] at hM9 kw9 hl9 HrE9 ⊢
              clear hwz k9
              refine G2.wp_region_growT Kp [] 4 100 (G2.pvL [G2.eqv (.map (some mb)), G2.eqv (.agg L.toArray), G2.eqv (.agg #[.int .i64 x.r, .int .i64 x.n]), G2.eqv (.agg L.toArray)]) (by kernel_rfl) (by kernel_rfl) rfl (fun x => Kp.refl x) (fun _ _ _ h k => h.trans k) (Kp.refl _).drew (by intro _ _ _ _ _ h; exact h) (G2.pvL_keep (G2.stabL_cons (G2.stab_eq _) (G2.stabL_cons (G2.stab_eq _) (G2.stabL_cons (G2.stab_eq _) (G2.stabL_cons (G2.stab_eq _) (G2.stabL_nil)))))) (G2.stepsT_cons 0 ?_ (G2.stepsT_cons 1 ?_ (G2.stepsT_cons 2 ?_ (G2.stepsT_cons 3 ?_ (G2.stepsT_nil _ _ _))))) ?_ ?_
              · intro a w' hk hF hD K hK
                have h3 : a.tmps[3]?.getD undef = .map (some mb) := hF 3 (by kernel_rfl)
                clear hF hD
                go_simp
                exact hK.out _ _ (Kp.refl _) rfl
              · intro a w' hk hF hD K hK
                have h5 : a.tmps[5]?.getD undef = .pointer (some ⟨wo.heap.size, 0, none⟩) := hF 5 (by kernel_rfl)
                clear hF hD
                rw [if_pos (by simp [Region.wanted])]
                refine wp_load_mid 33 (.tmp 5) rfl wo.heap.size 0 ((eval_tmp _ _).trans h5) L _ (HrE9.out _ hk) Try.underlying33 rfl (iEv lL) ?_
                exact hK.out _ _ (Kp.refl _) rfl
              · intro a w' hk hF hD K hK
                have h50 : a.tmps[50]?.getD undef = .agg L.toArray := hD 1 (by kernel_rfl)
                clear hF hD
                go_simp
                refine (HN9.out _).mono ?_
                rintro e w9 ⟨rfl, k9⟩
                exact hK.out _ _ k9 rfl
              · intro a w' hk hF hD K hK
                have h5 : a.tmps[5]?.getD undef = .pointer (some ⟨wo.heap.size, 0, none⟩) := hF 5 (by kernel_rfl)
                clear hF hD
                rw [if_pos (by simp [Region.wanted])]
                refine wp_load_mid 33 (.tmp 5) rfl wo.heap.size 0 ((eval_tmp _ _).trans h5) L _ (HrE9.out _ hk) Try.underlying33 rfl (iEv lL) ?_
                exact hK.out _ _ (Kp.refl _) rfl
              · exact fun i0 hi0 => by simp at hi0
              intro v w9 k9 hv
              have v0 : v 0 = .map (some mb) := hv 0 (by omega)
              have v2 : v 2 = .agg #[.int .i64 x.r, .int .i64 x.n] := hv 2 (by omega)
              have v3 : v 3 = .agg L.toArray := hv 3 (by omega)
              clear hv
              simp only [G2.growPut, G2.gSlot, List.getElem?_toArray, List.getElem?_cons_zero, List.getElem?_cons_succ, Option.bind_some, List.setIfInBounds_toArray, List.set_cons_zero, List.set_cons_succ, List.drop_succ_cons, List.drop_zero, v0, v2, v3]
              have hM10 := hM9.kp k9
              obtain ⟨wA, r1, r2, r3, r4⟩ := hM10.put keyDt Try.underlying93 (nameE x) (.agg L.toArray)
              have hyL : (.agg L.toArray : Value) = esV ⟨x, Av, m, cv⟩ := by rw [hL.out]; rfl
              have r2' : MapL dtV wA mb (entL (M ++ [⟨x, Av, m, cv⟩])) := by
                rw [hyL, entL_put (e := x) (y := ⟨x, Av, m, cv⟩) hhd.out.symm rfl] at r2
                exact r2
              refine wpl_mapset rfl 93 (.tmp 49) (.tmp 51) (.tmp 52) rfl rfl rfl rfl r1 ?_
              have kwA : Kp w wA := Kg.to_kp (kw9.trans k9) r3 hmbw
              have hMeA : Hid ((M ++ [(⟨x, Av, m, cv⟩ : EvS)]).map (·.e) = l.take (k + 1)) := hid (by rw [HTK.out, List.map_append, hMe.out]; rfl)
              have hPreA : Hid (ClPre l (k + 1)) := hid (HPS.out hnew.out hfm.out.symm (by rw [← hm.out]; exact hmw.out))
              have hMIA : Hid (∀ z ∈ M ++ [(⟨x, Av, m, cv⟩ : EvS)], Ints w z.v z.e.past) := hid fun z hz => by
                rcases List.mem_append.1 hz with hz | hz
                · exact hMI.out z hz
                · obtain rfl : z = ⟨x, Av, m, cv⟩ := by simpa using hz
                  exact hva'.out
              clear r1 r2 r3 r4 hM10 hM9 k9 hyL
              go_wp2
              go_roundw
              case rel => exact ⟨k + 1, _, by omega, by go_num, r2', hMeA, hPreA, hMIA, kwA⟩
              case measure => simp [intOf]; omega
      · have hltI : ¬ (k : Int) < (l.length : Int) := by omega
        obtain rfl : k = l.length := by omega
        have hMe2 : M.map (·.e) = l := by have := hMe.out; rwa [List.take_length] at this
        have hfe : ∀ e ∈ l, formedE e = true ∧ e.past.length = w0 l := fun e he => by
          have h1 := hPre.out.fe e (by rw [List.take_length]; exact he)
          have h2 := hPre.out.width e (by rw [List.take_length]; exact he)
          exact ⟨h1, h2⟩
        have hnm : NamesU l := by have := hPre.out.names; rwa [List.take_length] at this
        replace hMe2 := hid hMe2
        replace hfe := hid hfe
        replace hnm := hid hnm
        clear hMe
        go_wp2_with fail
        go_loopw [56] (fun vi wr => ∃ k : Nat, k ≤ l.length ∧ vi = .int .i64 (k : Int) ∧ Hid (∀ e ∈ l.take k, ∀ r : Nat, r < e.past.length → ∀ i : Int, 1 ≤ i → i ≤ e.past.getD r 0 → PastP l e r i) ∧ Kp wo wr) (fun vi _ => l.length - (intOf vi).toNat)
        case atStart => exact ⟨0, Nat.zero_le _, rfl, hid (by simp), Kp.refl _⟩
        case round =>
          obtain ⟨k, hk, rfl, HP, kk⟩ := hrel
          obtain ⟨wa, rfl⟩ : ∃ wa : World, wa = wr := ⟨_, rfl⟩
          by_cases hlt : k < l.length
          · have hltI : (k : Int) < (l.length : Int) := by omega
            obtain ⟨b, o, va, rfl, hb, hr, hva⟩ := Sl.evAt hS hlt
            obtain ⟨Av, cv, rfl, hcv, hmv⟩ := hva.form
            have HTK := hid (List.take_succ_eq_append_getElem hlt)
            have HMEM := hid (List.getElem_mem hlt)
            generalize l[k] = x at *
            obtain ⟨hxf, hxw⟩ := hfe.out x HMEM.out
            have hxv := (formedE_fe hxf).past
            have hm5 := (validC_iff.1 hxv).2
            obtain ⟨m, hm⟩ : ∃ m, m = x.past.length := ⟨_, rfl⟩
            rw [← hm] at hr hcv hva hm5
            obtain ⟨L, hL⟩ : ∃ L, L = evL x (.slice Av m cv) := ⟨_, rfl⟩
            have lL : L.length = 13 := by rw [hL]; rfl
            have oL : ∀ u ∈ L, u.oneCell' = true := by rw [hL]; exact evL_one _ _ _ _
            have hL3 : L[3]? = some (.slice Av m cv) := by rw [hL]; rfl
            have hL2 : L[2]? = some (.int .i64 x.t) := by rw [hL]; rfl
            rw [← hL] at hr
            replace hL := hid hL
            have kwa := kr.trans kk
            have hro := rangeAt_kp hr kwa
            have hbo := Nat.lt_of_lt_of_le hb kwa.size
            obtain ⟨hth, hB, kx⟩ := ev_boxE wa L lL
            obtain ⟨w6, hw6⟩ : ∃ w6, w6 = (wa.alloc (.cells #[.int .i64 0, .int .i64 0, .int .i64 0, .slice none 0 0, .int .i64 0, .int .i64 0, .int .i64 0, .int .i64 0, .int .i64 0, .int .i64 0, .int .i64 0, .int .i64 0, .int .i64 0] 33)).setCells wa.heap.size 0 L := ⟨_, rfl⟩
            rw [← hw6] at hB kx
            replace hw6 := hid hw6
            have hlB := hB.lt (by omega)
            have e3 := hB.cell (j := 3) hL3
            have kw6 := kwa.trans kx
            have ko6 := kk.trans kx
            replace hm := hid hm
            replace hxf := hid hxf
            replace hxw := hid hxw
            replace hxv := hid hxv
            replace hva := hid hva
            clear hr
            go_wp2_with (first | (refine wpList_load_mid rfl 33 (.tmp 58) rfl b (o + k * 13) rfl _ _ hro Try.underlying33 rfl (iEv lL) ?_) | (refine wpList_store_mid rfl 33 (.tmp 9) (.tmp 59) rfl wa.heap.size 0 L.toArray rfl rfl hth (iEv2 lL) (all_oneCell_toArray oL) ?_; rw [List.toList_toArray, ← hw6.out]))
            go_loopw [63] (fun vi wr => ∃ r : Nat, r ≤ m ∧ vi = .int .i64 (r : Int) ∧ Hid (∀ r' : Nat, r' < r → ∀ i : Int, 1 ≤ i → i ≤ x.past.getD r' 0 → PastP l x r' i) ∧ Kp w6 wr) (fun vi _ => m - (intOf vi).toNat)
            case atStart => exact ⟨0, Nat.zero_le _, rfl, hid (fun r' h => by omega), Kp.refl _⟩
            case round =>
              obtain ⟨r, hrm, rfl, HR, k6⟩ := hrel
              obtain ⟨wb, rfl⟩ : ∃ wb : World, wb = wr := ⟨_, rfl⟩
              by_cases hrl : r < m
              · have hrI : (r : Int) < (m : Int) := by omega
                have hrp : r < x.past.length := by have := hm.out; omega
                obtain ⟨p, q, rfl, hp, y0⟩ := (hva.out.keep (pl_stable _) (kw6.trans k6)).ints hrp
                have hyb := validC_get hxv.out r
                have hyg : Hid (x.past.getD r 0 = x.past[r]) := hid (getD_i hrp)
                rw [hyg.out] at hyb
                generalize x.past[r] = y at *
                go_wp2_with fail
                go_loopw [12] (fun vi wr => ∃ i : Nat, 1 ≤ i ∧ (i : Int) ≤ y + 1 ∧ vi = .int .i64 (i : Int) ∧ Hid (∀ i' : Int, 1 ≤ i' → i' < (i : Int) → PastP l x r i') ∧ Kp w6 wr) (fun vi _ => (y + 1 - intOf vi).toNat)
                case atStart => exact ⟨1, Nat.le_refl _, by omega, rfl, hid (fun i' h1 h2 => by omega), k6⟩
                case round =>
                  obtain ⟨i, hi1, hi2, rfl, HI, kc⟩ := hrel
                  obtain ⟨wc, rfl⟩ : ∃ wc : World, wc = wr := ⟨_, rfl⟩
                  by_cases hiy : (i : Int) ≤ y
                  · have kwc := kw6.trans kc
                    have hMc := hMp.kp (ko6.trans kc)
                    have e3c := kc.cellS e3
                    have hBc := hB.kp kc hlB
                    have hlc := hBc.lt (by omega)
                    have hyI := hyg.out
                    have HUSE : Hid (ClosedP l → PastP l x r (i : Int)) := hid (fun h => h.past x HMEM.out r hrp (i : Int) (by omega) (by rw [hyI]; exact hiy))
                    clear hyI
                    rcases getL_entS (d := ((r : Int), (i : Int))) (M := M) with ⟨hnone, hall⟩ | ⟨zz, hzM, hzn, hsome⟩
                    · have hlk : Sem.run Try.prog (Instr.lookup 93 (.map (some mb)) (.agg #[.int .i64 (r : Int), .int .i64 (i : Int)]) true) wc = .ok (.tuple #[.agg #[.int .i64 0, .int .i64 0, .int .i64 0, .slice none 0 0, .int .i64 0, .int .i64 0, .int .i64 0, .int .i64 0, .int .i64 0, .int .i64 0, .int .i64 0, .int .i64 0, .int .i64 0], .bool false]) wc := by
                        have := hMc.look keyDt Try.underlying93 (zeroEv wc) ((r : Int), (i : Int)) true
                        rw [if_pos rfl, hnone] at this
                        exact this
                      have HBAD : Hid (¬ ClosedP l) := hid (fun h => by
                        obtain ⟨u, hu, hun, -⟩ := HUSE.out h
                        rw [← hMe2.out] at hu
                        obtain ⟨y', hy', rfl⟩ := List.mem_map.1 hu
                        exact hall y' hy' hun)
                      have kf := kwc.alloc (.cells #[.int .i64 0, .int .i64 0, .int .i64 0, .slice none 0 0, .int .i64 0, .int .i64 0, .int .i64 0, .int .i64 0, .int .i64 0, .int .i64 0, .int .i64 0, .int .i64 0, .int .i64 0] 33)
                      replace hnone := hid hnone
                      replace hall := hid hall
                      clear e3 hMc hB
                      go_wp2
                      go_ret
                      exact eclR_no HBAD.out kf
                    · obtain ⟨LZ, hLZ⟩ : ∃ LZ, LZ = encEs zz := ⟨_, rfl⟩
                      have lLZ : LZ.length = 13 := by rw [hLZ]; rfl
                      have oLZ : ∀ u ∈ LZ, u.oneCell' = true := by rw [hLZ]; exact encEs_one zz
                      have hZ3 : LZ[3]? = some zz.v := by rw [hLZ]; rfl
                      have hZ2 : LZ[2]? = some (.int .i64 zz.e.t) := by rw [hLZ]; rfl
                      have hlk : Sem.run Try.prog (Instr.lookup 93 (.map (some mb)) (.agg #[.int .i64 (r : Int), .int .i64 (i : Int)]) true) wc = .ok (.tuple #[.agg LZ.toArray, .bool true]) wc := by
                        have := hMc.look keyDt Try.underlying93 (zeroEv wc) ((r : Int), (i : Int)) true
                        rw [if_pos rfl, hsome] at this
                        rw [hLZ]
                        exact this
                      replace hLZ := hid hLZ
                      have hzl : zz.e ∈ l := by rw [← hMe2.out]; exact List.mem_map.2 ⟨zz, hzM, rfl⟩
                      obtain ⟨hth9, hB9, kx9⟩ := ev_boxE wc LZ lLZ
                      obtain ⟨w9, hw9⟩ : ∃ w9, w9 = (wc.alloc (.cells #[.int .i64 0, .int .i64 0, .int .i64 0, .slice none 0 0, .int .i64 0, .int .i64 0, .int .i64 0, .int .i64 0, .int .i64 0, .int .i64 0, .int .i64 0, .int .i64 0, .int .i64 0] 33)).setCells wc.heap.size 0 LZ := ⟨_, rfl⟩
                      rw [← hw9] at hB9 kx9
                      replace hw9 := hid hw9
                      have z3 := hB9.cell (j := 3) hZ3
                      have e3d := kx9.cellS e3c
                      have hl9 := hB9.lt (by omega)
                      have hlc9 := Nat.lt_of_lt_of_le hlc kx9.size
                      have kw9 := kwc.trans kx9
                      have C9 := hid (eContained_any zz.e.past x.past zz.v (.slice (some ⟨p, q, none⟩) m cv) w9 ((hMI.out zz hzM).keep (pl_stable _) kw9) (hva.out.keep (pl_stable _) kw9))
                      have hzf := hfe.out zz.e hzl
                      have HCI := hid (contC_iff (x := zz.e) (e := x) hzf.1 hxf.out (by rw [hzf.2, hxw.out]))
                      have HUN : Hid (∀ u ∈ l, nameE u = ((r : Int), (i : Int)) → u = zz.e) := hid (fun u hu hun => hnm.out.eq_of u hu zz.e hzl (hun.trans hzn.symm))
                      have hBc9 := hBc.kp kx9 hlc
                      replace hsome := hid hsome
                      replace hzn := hid hzn
                      replace hzf := hid hzf
                      clear hMc hB e3 hlc e3c hBc
                      go_wp2_with (refine wpList_store_mid rfl 33 (.tmp 13) (.tmp 79) rfl wc.heap.size 0 LZ.toArray rfl rfl hth9 (iEv2 lLZ) (all_oneCell_toArray oLZ) ?_; rw [List.toList_toArray, ← hw9.out])
                      refine C9.out.mono ?_
                      rintro z wd ⟨rfl, kd⟩
                      have z2 := (hB9.kp kd hl9).cell (j := 2) hZ2
                      have e2 := (hBc9.kp kd hlc9).cell (j := 2) hL2
                      have hl10 := Nat.lt_of_lt_of_le hl9 kd.size
                      have hl11 := Nat.lt_of_lt_of_le hlc9 kd.size
                      have kwd := kw9.trans kd
                      have kcd := (kc.trans kx9).trans kd
                      clear C9 hlk hth9 z3 e3d hB9 hBc9
                      cases hcc : contC zz.e.past x.past with
                      | false =>
                        have HBAD : Hid (¬ ClosedP l) := hid (fun h => by
                          obtain ⟨u, hu, hun, hle, -⟩ := HUSE.out h
                          rw [HUN.out u hu hun] at hle
                          rw [HCI.out.2 hle] at hcc
                          cases hcc)
                        replace hcc := hid hcc
                        go_wp2
                        go_ret
                        exact eclR_no HBAD.out kwd
                      | true =>
                        by_cases htt : zz.e.t < x.t
                        · have g1 : decide (x.t ≤ zz.e.t) = false := decide_eq_false (by omega)
                          have HI2 : Hid (∀ i' : Int, 1 ≤ i' → i' < ((i + 1 : Nat) : Int) → PastP l x r i') := hid (fun i' h1 h2 => by
                            by_cases e : i' = (i : Int)
                            · subst e
                              exact ⟨zz.e, hzl, hzn.out, HCI.out.1 hcc, htt⟩
                            · exact HI.out i' h1 (by omega))
                          replace hcc := hid hcc
                          go_wp2
                          go_roundw
                          case rel => exact ⟨i + 1, by omega, by omega, by go_num, HI2, kcd⟩
                          case measure => simp [intOf]; omega
                        · have g1 : decide (x.t ≤ zz.e.t) = true := decide_eq_true (by omega)
                          have HBAD : Hid (¬ ClosedP l) := hid (fun h => by
                            obtain ⟨u, hu, hun, -, hlt'⟩ := HUSE.out h
                            rw [HUN.out u hu hun] at hlt'
                            exact htt hlt')
                          replace hcc := hid hcc
                          go_wp2
                          go_ret
                          exact eclR_no HBAD.out kwd
                  · have HR2 : Hid (∀ r' : Nat, r' < r + 1 → ∀ i : Int, 1 ≤ i → i ≤ x.past.getD r' 0 → PastP l x r' i) := hid (fun r' hr' i' h1 h2 => by
                      by_cases e : r' = r
                      · subst e
                        rw [hyg.out] at h2
                        exact HI.out i' h1 (by omega)
                      · exact HR.out r' (by omega) i' h1 h2)
                    go_wp2
                    go_roundw
                    case rel => exact ⟨r + 1, by omega, by go_num, HR2, kc⟩
                    case measure => simp [intOf]; omega
              · have hrI : ¬ (r : Int) < (m : Int) := by omega
                have HP2 : Hid (∀ e ∈ l.take (k + 1), ∀ r : Nat, r < e.past.length → ∀ i : Int, 1 ≤ i → i ≤ e.past.getD r 0 → PastP l e r i) := hid (fun e he r' hr' i' h1 h2 => by
                  rw [HTK.out] at he
                  rcases List.mem_append.1 he with he | he
                  · exact HP.out e he r' hr' i' h1 h2
                  · obtain rfl : e = x := by simpa using he
                    exact HR.out r' (by have := hm.out; omega) i' h1 h2)
                have kf := ko6.trans k6
                go_wp2
                go_roundw
                case rel => exact ⟨k + 1, by omega, by go_num, HP2, kf⟩
                case measure => simp [intOf]; omega
          · have hltI : ¬ (k : Int) < (l.length : Int) := by omega
            obtain rfl : k = l.length := by omega
            have HG : Hid (ClosedP l) := hid (closed_of hPre.out hl (by have := HP.out; rwa [List.take_length] at this))
            have kf := kr.trans kk
            go_wp2
            go_ret
            exact ⟨true, rfl, ⟨fun _ => HG.out, fun _ => rfl⟩, kf⟩
  · have e0 : decide ((1024 : Int) < (l.length : Int)) = true := decide_eq_true (by omega)
    have HBAD : Hid (¬ ClosedP l) := hid fun h => hl h.len
    go_enter Try.func32, Try.ntmps32
    go_wp2
    go_ret
    exact eclR_no HBAD.out (Kp.refl w)
end Go.Proofs.Ytcddllaljgfjbaa
