
/-
What the causal buffer delivers as long as something is ready: the walk.
-/
import Derived.Test.YtcddllaljgfjbaaDlC
namespace Go.Proofs.Ytcddllaljgfjbaa
set_option linter.unusedSimpArgs false
set_option linter.unusedVariables false
open Go.RowKit

/-- the place of the first one -/
def idxF {α : Type} (p : α → Bool) : Nat → List α → Int
  | _, [] => -1
  | i, x :: l => if p x then i else idxF p (i + 1) l
theorem idxF_find {α : Type} (p : α → Bool) : ∀ (l : List α) (k : Nat), (l.find? p = none ∧ idxF p k l = -1) ∨ ∃ (i : Nat) (h : i < l.length), l.find? p = some l[i] ∧ idxF p k l = ((k + i : Nat) : Int)
  | [], k => .inl ⟨rfl, rfl⟩
  | x :: l, k => by
    unfold idxF
    by_cases hp : p x = true
    · exact .inr ⟨0, by simp, by rw [List.find?_cons_of_pos hp]; rfl, by rw [if_pos hp]; rfl⟩
    · rw [if_neg hp, List.find?_cons_of_neg hp]
      rcases idxF_find p l (k + 1) with ⟨h1, h2⟩ | ⟨i, hi, h1, h2⟩
      · exact .inl ⟨h1, h2⟩
      · exact .inr ⟨i + 1, by simpa using hi, by simpa using h1, by rw [h2]; congr 1; omega⟩
theorem Sl.evRange {w : World} {A : Option Addr} {n c : Nat} {xs : List EvS} (h : EsL w (.slice A n c) xs) {k : Nat} (hk : k < xs.length) : ∃ b o, A = some ⟨b, o, none⟩ ∧ b < w.heap.size ∧ w.rangeAt b (o + k * 13) (encEs xs[k]) := by
  obtain ⟨b, o, cs, hA, had, hcs, hc, hr⟩ := h.at_ hk
  unfold Pl at hr
  subst hr
  exact ⟨b, o, hA, had, fun j u hu => hc j u hu⟩
set_option maxRecDepth 8000 in
set_option maxHeartbeats 2000000 in
theorem IndexFuncEv_any (p : EvS → Bool) (F : FuncId) (bound cap : List Value) (v : Value) (xs : List EvS) (w : World) (hS : EsL w v xs) (hr : Real Try.prog F)
    (hf : ∀ (w' : World) (x : EvS), Kp w w' → x ∈ xs → Calls Try.prog F (bound ++ esV x :: cap).toArray w' fun e w'' => e = .returned (.bool (p x)) ∧ Kp w' w'') :
    Calls Try.prog 33 #[v, .func (.func F) bound.toArray cap.toArray] w fun e w' => e = .returned (.int .i64 (idxF p 0 xs)) ∧ Kp w w' := by
  have HC := hid hf
  clear hf
  have hcf := fun args w => hr.run args w
  obtain ⟨A, c, rfl, hc, hm⟩ := hS.form
  go_enter Try.func33, Try.ntmps33
  go_wp2
  go_loopw [8] (fun i wr => ∃ k : Nat, k ≤ xs.length ∧ i = .int .i64 k ∧ Hid (idxF p 0 xs = idxF p k (xs.drop k)) ∧ Kp w wr) (fun i _ => xs.length - (intOf i).toNat)
  case atStart => exact ⟨0, Nat.zero_le _, rfl, hid rfl, Kp.refl _⟩
  case round =>
    obtain ⟨k, hk, rfl, HB, hbel⟩ := hrel
    by_cases hlt : k < xs.length
    · obtain ⟨b, o, rfl, hb, hrg⟩ := Sl.evRange (hS.keep (pl_stable _) hbel) hlt
      have HD := hid (List.drop_eq_getElem_cons hlt)
      have HX := hid (List.getElem_mem hlt)
      have hkI : (k : Int) < (xs.length : Int) := by omega
      generalize xs[k] = x at *
      clear hS
      by_cases hp : p x = true
      · have HF : Hid (idxF p 0 xs = k) := hid (by rw [HB.out, HD.out, idxF, if_pos hp])
        have HP := hid hp
        clear hp
        go_wp2_with (refine wpList_load_mid rfl 33 (.tmp 14) rfl b (o + k * 13) rfl _ _ hrg Try.underlying33 rfl (hiEv _) ?_)
        refine (HC.out wr x hbel HX.out).mono ?_
        rintro e w1 ⟨rfl, hk1⟩
        have hbel1 := hbel.trans hk1
        rw [HP.out]
        go_wp2
        go_ret
        exact ⟨ret_int HF.out.symm, hbel1⟩
      · have HF : Hid (idxF p 0 xs = idxF p (k + 1) (xs.drop (k + 1))) := hid (by rw [HB.out, HD.out, idxF, if_neg hp])
        have HP := hid (show p x = false by simpa using hp)
        clear hp
        go_wp2_with (refine wpList_load_mid rfl 33 (.tmp 14) rfl b (o + k * 13) rfl _ _ hrg Try.underlying33 rfl (hiEv _) ?_)
        refine (HC.out wr x hbel HX.out).mono ?_
        rintro e w1 ⟨rfl, hk1⟩
        have hbel1 := hbel.trans hk1
        rw [HP.out]
        go_wp2
        go_roundw
        case rel => exact ⟨k + 1, by omega, by go_num, HF, hbel1⟩
        case measure => simp [intOf]; omega
    · have HF : Hid (idxF p 0 xs = -1) := hid (by rw [HB.out, List.drop_of_length_le (by omega)]; rfl)
      have hkI : ¬ (k : Int) < (xs.length : Int) := by omega
      go_wp2
      go_ret
      exact ⟨ret_int HF.out.symm, hbel⟩
/-- how long a slice is -/
def slLen : Value → Nat
  | .slice _ n _ => n
  | _ => 0
/-- a settled buffer -/
def SettleR (S : Nat → Prop) (base : Nat) (w : World) (b cb cc mb n : Nat) (R : List Int × List Ev × List Ev) (x : Ending) (w' : World) : Prop :=
  ∃ v outs M', x = .returned v ∧ BfW S base w' b cb cc mb n R.1 M' ∧ (M'.map (·.e)).Perm R.2.1 ∧ EsR w.heap.size w' v outs ∧ outs.map (·.e) = R.2.2 ∧ Fx (fun q => q = mb ∨ q = cb) w w'
theorem dropM_map (e : Ev) {M : List EvS} {H : List Ev} (h : (M.map (·.e)).Perm H) : ((dropM e M).map (·.e)).Perm (dropE e H) := by
  have h1 : (dropM e M).map (·.e) = dropE e (M.map (·.e)) := by
    unfold dropM dropE
    rw [List.filter_map]
    rfl
  rw [h1]
  exact h.filter _
theorem find_map_e {ys : List EvS} (p : Ev → Bool) : (ys.map (·.e)).find? p = (ys.find? fun x => p x.e).map (·.e) := by
  rw [List.find?_map]
  rfl
set_option maxRecDepth 8000 in
set_option maxHeartbeats 4000000 in
theorem bSettle_any {S : Nat → Prop} {base : Nat} {w : World} {b cb cc mb n : Nat} {c0 : List Int} {M0 : List EvS} (h : BfW S base w b cb cc mb n c0 M0) (hS : ∀ q, S q → q < w.heap.size) {H0 : List Ev} (hH0 : (M0.map (·.e)).Perm H0) (ok0 : BfOk c0 H0) :
    Calls Try.prog 44 #[.pointer (some ⟨b, 0, none⟩)] w (SettleR S base w b cb cc mb n (settleE H0.length c0 H0)) := by
  have hmf : ∀ (fn : Fn) (first cap : Array Value) (w : World), (Instr.makeFunc fn first cap).run Try.prog w = .ok (.func fn first cap) w := fun _ _ _ _ => rfl
  have hbl := h.blt
  have hcl := h.clt
  have hml := h.mlt
  have hlen0 := ok0.len
  go_enter Try.func44, Try.ntmps44
  go_wp2_with fail
  go_loopw [3] (fun s3 wr => ∃ (k : Nat) (c : List Int) (H : List Ev) (M outs : List EvS), BfW S base wr b cb cc mb n c M ∧ Hid ((M.map (·.e)).Perm H) ∧ Hid (BfOk c H) ∧ Hid (H.length ≤ k) ∧ EsR w.heap.size wr s3 outs ∧ Hid (outs.length + H.length ≤ 256) ∧ Hid (settleE H0.length c0 H0 = ((settleE k c H).1, (settleE k c H).2.1, outs.map (·.e) ++ (settleE k c H).2.2)) ∧ Fx (fun q => q = mb ∨ q = cb) w wr) (fun s3 _ => 300 - slLen s3)
  case atStart => exact ⟨H0.length, c0, H0, M0, [], h, hid hH0, hid ok0, hid (Nat.le_refl _), EsR.nil _ _, hid (by simpa using hlen0), hid (by simp), Fx.refl _ _⟩
  case round =>
    clear h hH0 ok0 hlen0
    obtain ⟨k, c, H, M, outs, hB, hH, ok, hk, hE, hbd, HS, fx⟩ := hrel
    obtain ⟨wo, rfl⟩ : ∃ wo : World, wo = wr := ⟨_, rfl⟩
    have C1 := hid (bList_any hB hH.out ok.out.sort (by have := hbd.out; omega) (fun e he => by
      have h1 := (ok.out.ev e he).2
      have h2 := (validC_iff.1 ok.out.clk).2
      omega))
    obtain ⟨A3, c3, rfl, hc3, hm3⟩ := hE.own.form
    go_wp2_with fail
    refine C1.out.mono ?_
    rintro e w1 ⟨v4, ys, rfl, hY, hye, k1⟩
    clear C1
    have hB1 := hB.kp k1
    have hE1 := hE.kp k1
    have fx1 := fx.trans (k1.fx _)
    have hyl : ys.length = H.length := by rw [← hye, List.length_map]
    have hev : ∀ x ∈ ys, formedE x.e = true ∧ x.e.past.length = c.length := fun x hx => ok.out.ev x.e (by rw [← hye]; exact List.mem_map.2 ⟨x, hx, rfl⟩)
    have C2 := hid (IndexFuncEv_any (fun x => readyE c x.e) 41 [.pointer (some ⟨b, 0, none⟩)] [] v4 ys w1 (hY.own.sl encEs_len) ⟨Try.f41, Try.func41, by kernel_rfl, by kernel_rfl⟩ fun w' x kx hx =>
      bReady_any (hB1.kp kx) ok.out.clk x.e x.v (formedE_fe (hev x hx).1) (hev x hx).2 (((hY.pst x hx).1.sl encInt_len).keep (pl_stable _) kx))
    obtain ⟨A4, c4, rfl, hc4, hm4⟩ := hY.own.form
    have hfi := idxF_find (fun x : EvS => readyE c x.e) ys 0
    have hfm := find_map_e (ys := ys) (readyE c)
    rw [hye] at hfm
    generalize idxF (fun x : EvS => readyE c x.e) 0 ys = iv at *
    replace hyl := hid hyl
    replace hfm := hid hfm
    have hye' := hid hye
    have hbd' := hbd.out
    have hyl' : ys.length ≤ 256 := by have := hyl.out; omega
    clear hbd'
    have hwz0 := hid fx.size
    have hup := hid hE.own.blt
    have hz1w := hid k1.size
    clear hye hB hE k1 fx
    go_wp2_with fail
    refine C2.out.mono ?_
    rintro e w2 ⟨rfl, k2⟩
    clear C2
    have hB2 := hB1.kp k2
    have hE2 := hE1.kp k2
    have hY2 := hY.kp k2
    have fx2 := fx1.trans (k2.fx _)
    have hz1 := hY.own.blt
    have hwz := hwz0.out
    have hcl2 : cb < wo.heap.size := by omega
    have hml2 : mb < wo.heap.size := by omega
    have hblo := hE2.own.ge
    have hbup := hup.out
    clear hB1 hE1 hY fx1
    rcases hfi with ⟨hn1, hn2⟩ | ⟨i, hi, hn1, hn2⟩
    · have hfn : H.find? (readyE c) = none := by rw [hfm.out, hn1]; rfl
      have HF := hid (settleE_none hfn k)
      subst hn2
      clear hn1 hfm
      go_wp2
      go_ret
      refine ⟨_, outs, M, rfl, ?_, ?_, hE2, ?_, fx2⟩
      · rw [HS.out, HF.out]; exact hB2
      · rw [HS.out, HF.out]; exact hH.out
      · rw [HS.out, HF.out]; simp
    · have hfn : H.find? (readyE c) = some ys[i].e := by rw [hfm.out, hn1]; rfl
      have hyi := List.getElem_mem hi
      have HRD := List.find?_some hfn
      obtain ⟨hfe, hpl⟩ := hev _ hyi
      have f := formedE_fe hfe
      obtain ⟨bq, oq, hA4, hbq, hrq⟩ := Sl.evRange (hY2.own.sl encEs_len) hi
      obtain ⟨gq, hgq, hgq1, hgq2⟩ := hY2.own.at_ (by omega)
      rw [hgq] at hA4
      obtain ⟨rfl, rfl⟩ : gq = bq ∧ 0 = oq := by simpa using hA4
      rw [Nat.zero_add] at hrq
      obtain ⟨hpo, hpn⟩ := hY2.pst _ hyi
      have hHm : ys[i].e ∈ H := List.mem_of_find?_eq_some hfn
      have hdl := dropE_len hHm
      obtain ⟨r1, r2⟩ := (readyE_iff ok.out.clk f hpl).1 HRD
      have hra := ready_at f r1 r2
      have hlenc := hB2.len
      have C3 := hid (bDeliver_any hB2 ys[i].e ys[i].v f.r0 (by have := f.r1; omega) (by omega))
      clear hA4
      have hHd := dropM_map ys[i].e hH.out
      have okd := ok.out.drop f
      have hiI : (i : Int) < (ys.length : Int) := by omega
      generalize ys[i] = y at *
      rw [Nat.zero_add] at hn2
      subst hn2
      subst hgq
      replace hHd := hid hHd
      replace okd := hid okd
      replace hdl := hid hdl
      replace hfn := hid hfn
      replace hlenc := hid hlenc
      clear hn1 hfm hra r1 r2 HRD hpl hfe f hyi hHm
      go_wp2_with (refine wpList_load_mid rfl 33 (.tmp 18) rfl gq (i * 13) rfl _ _ hrq Try.underlying33 rfl (hiEv _) ?_)
      refine C3.out.mono ?_
      rintro e w3 ⟨rfl, hB3, fx3⟩
      have hE3 := hE2.fx fx3 (fun q hq => by rcases hq with rfl | rfl <;> assumption)
      have hrq3 : w3.rangeAt gq (i * 13) (encEs y) := fun j u hu => fx3.cellS (hrq j u hu) (fun e => by
        have e' : gq = mb ∨ gq = cb := e
        omega)
      have hpo3 := (hpo.owF (X := fun q => q = mb ∨ q = cb) (fun q hq => by rcases hq with rfl | rfl <;> assumption)) w3 fx3
      have k4 := (Kp.refl w3).alloc (.cells (encEs y).toArray 33)
      have hsrc : EsL (w3.alloc (.cells (encEs y).toArray 33)) (.slice (some ⟨w3.heap.size, 0, none⟩) 1 1) [y] := Sl.one (R := Pl encEs) w3 (encEs y) 33 13 y rfl rfl
      have hE4 := hE3.kp k4
      have hB4 := hB3.kp k4
      have hpo4 := (hpo3.kp k4).less hwz
      have fx4 := (fx2.trans fx3).trans (k4.fx _)
      have hge4 := hE4.own.ge
      have hpge : ∀ q, y.v.ownBlock = some q → wo.heap.size ≤ q := hpo.ge
      have hz34 := k4.size
      have hz3 := fx3.size
      have hz2 := k2.size
      have hw14 : wo.heap.size ≤ w1.heap.size := hz1w.out
      have hol : outs.length ≤ 255 := by
        have := hbd.out
        have h2 := hyl.out
        omega
      clear hB2 hE2 hB3 hE3 hrq hpo3 k4 fx2 fx3 C3 hpo
      go_wp2_with (first | (refine wpList_load_mid rfl 33 (.tmp 24) rfl gq (i * 13) rfl _ _ hrq3 Try.underlying33 rfl (hiEv _) ?_) | (refine wpl_buildOne rfl (.tmp 25) rfl rfl stEvs (encEs_len y) (by omega) ?_; generalize w3.alloc (.cells (encEs y).toArray 33) = w4 at *) | (at_builtin; refine wpl_append_flat rfl (.tmp 21) (.tmp 26) rfl stEvs encEs_len encEs_one rfl hE4.own rfl hsrc (by simp; omega) (by simp; omega) (by omega) ?_; intro v7 w7 hown7 hgrow7 hat7 hnil7))
      have hE7 := hE4.snoc (y := y) hpo4 (fun q hq e => by
        have h1 := hbup q hq
        have h2 := hpge q e
        omega) hown7 hgrow7 hat7
      have fx7 : Fx (fun q => q = mb ∨ q = cb) w w7 := fx4.grown hgrow7 fun q hq => .inr (hge4 q hq)
      have hB7 := hB4.fx (X := fun q => (Value.slice A3 outs.length c3).ownBlock = some q) ((Fx.refl _ w4).grown hgrow7 fun q hq => .inl hq) fun q hq hx => by
        have h1 := hge4 q hx
        have h2 := hS q hq
        omega
      obtain ⟨k', rfl⟩ : ∃ k', k = k' + 1 := ⟨k - 1, by have := hk.out; have := hdl.out; omega⟩
      have HS7 : Hid (settleE H0.length c0 H0 = ((settleE k' (setD c y.e) (dropE y.e H)).1, (settleE k' (setD c y.e) (dropE y.e H)).2.1, (outs ++ [y]).map (·.e) ++ (settleE k' (setD c y.e) (dropE y.e H)).2.2)) := hid (by
        rw [HS.out, settleE_some hfn.out]
        simp)
      have hk7 : Hid ((dropE y.e H).length ≤ k') := hid (by have := hk.out; have := hdl.out; omega)
      have hb7 : Hid ((outs ++ [y]).length + (dropE y.e H).length ≤ 256) := hid (by have := hbd.out; have := hdl.out; rw [List.length_append, List.length_singleton]; omega)
      obtain ⟨A7, c7, rfl, -, -⟩ := hown7.form
      clear hown7 hgrow7 hat7 hnil7 hE4 hsrc hB4
      go_roundw
      case rel => exact ⟨k', _, _, _, _, hB7, hHd, okd, hk7, hE7, hb7, HS7, fx7⟩
      case measure => simp [slLen]; omega
end Go.Proofs.Ytcddllaljgfjbaa
