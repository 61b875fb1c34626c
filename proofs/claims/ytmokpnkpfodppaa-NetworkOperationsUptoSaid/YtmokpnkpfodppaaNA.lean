/-
The reference: the numbers of lists and events.
The reference: the numbers of entries.
The reference: the numbers of a request; of a bool.
-/
import Derived.Test.YtmokpnkpfodppaaCodS1
import Derived.Deep.RegionHeld3
import Derived.Test.YtmokpnkpfodppaaWB
namespace Go.Proofs.Ytmokpnkpfodppaa
set_option linter.unusedSimpArgs false
set_option linter.unusedVariables false
open Go.RowKit

theorem numIs_eq (l : List Int) : numIs l = (l.length : Int) :: l := by
  unfold numIs numL
  congr 1
  induction l with
  | nil => rfl
  | cons x l ih => rw [List.flatMap_cons, ih]; rfl
theorem numIs_len (l : List Int) : (numIs l).length = l.length + 1 := by rw [numIs_eq]; rfl
/-- a fresh slice of integers that the call owns -/
theorem litOwn {w : World} {base : Nat} (l : List Int) (cs : Array Value) (h : cs.toList = flat encInt l) (hl : l.length ≤ 1000) (n : Nat) (hn : n = l.length) (hb : base ≤ w.heap.size) : Own encInt 3 1 base (w.alloc (.cells cs 3)) (.slice (some ⟨w.heap.size, 0, none⟩) n n) l := by
  subst hn
  have hs : cs.size = l.length * 1 := by
    have := flat_length encInt_len l
    rw [← h] at this
    simpa using this
  exact Own.lit (base := base) encInt w cs l hb (by omega) hs h
/-- the call makes the numbers m -/
abbrev Makes (m : List Int) (F : FuncId) (args : Array Value) (w : World) : Prop :=
  Calls Try.prog F args w fun e w' => ∃ v, e = .returned v ∧ Own encInt 3 1 w.heap.size w' v m ∧ Kp w w'
set_option maxHeartbeats 1000000 in
theorem nList_any (v : Value) (l : List Int) (w : World) (hl : Ints w v l) (hlen : l.length ≤ 1000000000) : Makes (numIs l) 28 #[v] w := by
  obtain ⟨A, c, rfl, hc, hm⟩ := hl.form
  rw [numIs_eq]
  have own := litOwn (w := w) (base := w.heap.size) [(l.length : Int)] #[.int .i64 (l.length : Int)] rfl (by simp) 1 rfl (Nat.le_refl _)
  go_enter Try.func28, Try.ntmps28
  go_wp2_with (at_builtin; refine wpl_append_flat rfl (.tmp 5) (.tmp 6) rfl stInt' encInt_len encInt_one rfl own rfl (hl.keep (pl_stable _) ((Kp.refl w).alloc _)) (by simp; omega) (by simp; omega) (by simp) ?_; intro v1 w1 hown1 hgrow1 hat1 hnil1)
  have k1 : Kp w w1 := Kp.grown ((Kp.refl w).alloc _) hgrow1 own.ge
  go_ret
  exact ⟨_, rfl, hown1, k1⟩
set_option maxHeartbeats 2000000 in
theorem nEvent_any (val : Value) (x : Event) (w : World) (hv : EventV w val x) (hlen : x.past.length ≤ 1000000000) : Makes (numEvent x) 29 #[val] w := by
  obtain ⟨v, rfl, hp⟩ := hv
  obtain ⟨A, c, rfl, hc, hm⟩ := hp.form
  obtain ⟨x0, x1, x2, past, x4, x5, ⟨y0, y1, y2, y3⟩, x7, x8, x9⟩ := x
  dsimp only at *
  have HSZ := hid (numIs_len past)
  have kB := (Kp.refl w).alloc (.cells #[.int .i64 x0, .int .i64 x1, .int .i64 x2, .slice A past.length c, .int .i64 x4, .int .i64 x5, .int .i64 y0, .int .i64 y1, .int .i64 y2, .int .i64 y3, .int .i64 x7, .int .i64 x8, .int .i64 x9] 82)
  have hB := range_box w [.int .i64 x0, .int .i64 x1, .int .i64 x2, .slice A past.length c, .int .i64 x4, .int .i64 x5, .int .i64 y0, .int .i64 y1, .int .i64 y2, .int .i64 y3, .int .i64 x7, .int .i64 x8, .int .i64 x9] 82
  have hl0 := alloc_lt w (.cells #[.int .i64 x0, .int .i64 x1, .int .i64 x2, .slice A past.length c, .int .i64 x4, .int .i64 x5, .int .i64 y0, .int .i64 y1, .int .i64 y2, .int .i64 y3, .int .i64 x7, .int .i64 x8, .int .i64 x9] 82)
  go_enter Try.func29, Try.ntmps29
  go_wp2_with fail
  rw [← World.size_alloc w (.cells #[.int .i64 x0, .int .i64 x1, .int .i64 x2, .slice A past.length c, .int .i64 x4, .int .i64 x5, .int .i64 y0, .int .i64 y1, .int .i64 y2, .int .i64 y3, .int .i64 x7, .int .i64 x8, .int .i64 x9] 82)]
  generalize w.alloc (.cells #[.int .i64 x0, .int .i64 x1, .int .i64 x2, .slice A past.length c, .int .i64 x4, .int .i64 x5, .int .i64 y0, .int .i64 y1, .int .i64 y2, .int .i64 y3, .int .i64 x7, .int .i64 x8, .int .i64 x9] 82) = wB at *
  have own0 := litOwn (w := wB) (base := wB.heap.size) [x0, x1, x2] #[.int .i64 x0, .int .i64 x1, .int .i64 x2] rfl (by simp) 3 rfl (Nat.le_refl _)
  have k0 := (Kp.refl wB).alloc (.cells #[.int .i64 x0, .int .i64 x1, .int .i64 x2] 3)
  refine (nList_any _ past _ (hp.keep (pl_stable _) (kB.trans k0)) hlen).mono ?_
  rintro e w2 ⟨v2, rfl, own2, k2⟩
  have own02 := own0.kp k2
  have hs2 := own2.sl encInt_len
  have k02 := k0.trans k2
  obtain ⟨A2, c2, rfl, hc2, hm2⟩ := own2.form
  clear own2 own0
  go_wp2_with (first
    | (at_builtin; refine wpl_append_flat rfl (.tmp 11) (.tmp 14) rfl stInt' encInt_len encInt_one rfl own02 rfl hs2 (by have := HSZ.out; simp; omega) (by have := HSZ.out; simp; omega) k02.size ?_; intro v3 w3 hown3 hgrow3 hat3 hnil3; obtain ⟨A3, c3, rfl, hc3, hm3⟩ := hown3.form; have k3 : Kp wB w3 := Kp.grown k02 hgrow3 own02.ge; have d4 := k3.cellS (hB 4 _ rfl); have d5 := k3.cellS (hB 5 _ rfl); have d6 := k3.cellS (hB 6 _ rfl); have d7 := k3.cellS (hB 7 _ rfl); have d8 := k3.cellS (hB 8 _ rfl); have d9 := k3.cellS (hB 9 _ rfl); have d10 := k3.cellS (hB 10 _ rfl); have d11 := k3.cellS (hB 11 _ rfl); have d12 := k3.cellS (hB 12 _ rfl); simp only [Nat.zero_add] at d4 d5 d6 d7 d8 d9 d10 d11 d12)
    | (at_builtin; refine wpl_append_flat rfl (.tmp 16) (.tmp 42) rfl stInt' encInt_len encInt_one rfl (hown3.alloc _) rfl (litInts [x4, x5, y0, y1, y2, y3, x7, x8, x9] _ rfl (by simp) 9 rfl) (by have := HSZ.out; simp; omega) (by have := HSZ.out; simp; omega) (by have := k3.size; simp; omega) ?_; intro v4 w4 hown4 hgrow4 hat4 hnil4))
  have k4 : Kp wB w4 := Kp.grown (k3.alloc _) hgrow4 hown3.ge
  go_ret
  exact ⟨_, rfl, by simpa [numEvent, numNeed] using hown4.less kB.size, kB.trans k4⟩
end Go.Proofs.Ytmokpnkpfodppaa
namespace Go.Proofs.Ytmokpnkpfodppaa
set_option linter.unusedSimpArgs false
set_option linter.unusedVariables false
open Go.RowKit

section
variable {P : Program} {α : Type} {enc : α → List Value} {e size bytes base t : Nat} {w : World} {v : Value} {l : List α}
theorem step_append_flat {ops : Array Oper} {o : Oper} {a : Act} {K : Act → World → Prop} {Q : Exit → Act → World → Prop} {E : Prop} (hgd : o.guard = none) (s x : Operand)
    (ho : o.op = .call { callee := .builtin .append, args := #[s, x], argTypes := #[t, t] }) (hT : SliceT P t e size bytes) (he : ∀ x, (enc x).length = size) (h1 : ∀ x, ∀ u ∈ enc x, u.oneCell' = true)
    (hs : a.eval s = v) (hown : Own enc e size base w v l)
    {v2 : Value} {m : List α} (hx : a.eval x = v2) (hsrc : Sl (Pl enc) size w v2 m) (hlen : l.length + m.length ≤ 4611686018427387904) (hby : (l.length + m.length) * bytes ≤ 140737488355328) (hbase : base ≤ w.heap.size)
    (h : ∀ v' w', Own enc e size base w' v' (l ++ m) → w.grownBy w' v.ownBlock → K (a.put o.dst v') w') : if Region.wanted o (yielded ops a.tmps) = true then Oper.wp P o a w K Q else E := by
  have hw : Region.wanted o (yielded ops a.tmps) = true := by simp [Region.wanted, hgd]
  rw [if_pos hw]
  obtain ⟨v', w', hr, h2, h3, h4, h5⟩ := run_append_flat hT he h1 o.type hown hsrc hlen hby hbase
  unfold Oper.wp execOp
  simp only [ho, resolve, invoke, builtin, Sem.run_bind, Sem.run_pure, Result.andThen_ok, List.map_toArray, List.map_cons, List.map_nil, hs, hx, hr]
  exact h v' w' h2 h3
end
set_option maxRecDepth 100000 in
set_option maxHeartbeats 4000000 in
theorem nEntry_any (val : Value) (x : Entry) (w : World) (hv : EntryV w val x) (hlen : x.voters.length ≤ 1000000000) : Makes (numEntry x) 32 #[val] w := by
  obtain ⟨v, rfl, hp⟩ := hv
  obtain ⟨A, c, rfl, hc, hm⟩ := hp.form
  obtain ⟨x0, x1, x2, x3, x4, vo⟩ := x
  dsimp only at *
  have HSZ := hid (numIs_len vo)
  have kB := (Kp.refl w).alloc (.cells #[.int .i64 x0, .int .i64 x1, .int .i64 x2, .int .i64 x3, .int .i64 x4, .slice A vo.length c] 89)
  have hB := range_box w [.int .i64 x0, .int .i64 x1, .int .i64 x2, .int .i64 x3, .int .i64 x4, .slice A vo.length c] 89
  have hl0 := alloc_lt w (.cells #[.int .i64 x0, .int .i64 x1, .int .i64 x2, .int .i64 x3, .int .i64 x4, .slice A vo.length c] 89)
  go_enter Try.func32, Try.ntmps32
  go_wp2_with fail
  generalize w.alloc (.cells #[.int .i64 x0, .int .i64 x1, .int .i64 x2, .int .i64 x3, .int .i64 x4, .slice A vo.length c] 89) = wB at *
  generalize hbq : w.heap.size = b at *
  have HBq := hid hbq
  clear hbq
  have hS : ∀ W, Kp wB W → (W.cell? ⟨b, 0, none⟩ = some (.int .i64 x0) ∧ W.cell? ⟨b, 1, none⟩ = some (.int .i64 x1) ∧ W.cell? ⟨b, 2, none⟩ = some (.int .i64 x2) ∧ W.cell? ⟨b, 3, none⟩ = some (.int .i64 x3) ∧ W.cell? ⟨b, 4, none⟩ = some (.int .i64 x4) ∧ W.cell? ⟨b, 5, none⟩ = some (.slice A vo.length c) ∧ Kp wB W) := fun W hk =>
    ⟨hk.cellS (hB 0 _ rfl), hk.cellS (hB 1 _ rfl), hk.cellS (hB 2 _ rfl), hk.cellS (hB 3 _ rfl), hk.cellS (hB 4 _ rfl), hk.cellS (hB 5 _ rfl), hk⟩
  have hsB := kB.size
  go_region_held3 (fun W => W.cell? ⟨b, 0, none⟩ = some (.int .i64 x0) ∧ W.cell? ⟨b, 1, none⟩ = some (.int .i64 x1) ∧ W.cell? ⟨b, 2, none⟩ = some (.int .i64 x2) ∧ W.cell? ⟨b, 3, none⟩ = some (.int .i64 x3) ∧ W.cell? ⟨b, 4, none⟩ = some (.int .i64 x4) ∧ W.cell? ⟨b, 5, none⟩ = some (.slice A vo.length c) ∧ Kp wB W)
    (first
      | exact hS _ (by assumption)
      | exact hS _ (Kp.drew (by assumption))
      | exact hS _ (Kp.refl _).drew
      | (go_split_ands; exact hS _ (Kp.alloc (by assumption) _))
      | (go_split_ands; exact hS _ (Kp.trans (by assumption) (by assumption))))
    (first
      | (go_split_ands; go_at_call 28; (with_reducible refine (nList_any _ vo _ (hp.keep (pl_stable _) (kB.trans (by assumption))) hlen).mono ?_); rintro e w2 ⟨v2, rfl, own2, hk2⟩; obtain ⟨A2, c2, rfl, hc2, hm2⟩ := own2.form)
      | (refine step_append_flat rfl (.tmp 13) (.tmp 16) rfl stInt' encInt_len encInt_one rfl ((litOwn (w := wB) (base := wB.heap.size) [x0, x1, x2, x3, x4] #[.int .i64 x0, .int .i64 x1, .int .i64 x2, .int .i64 x3, .int .i64 x4] rfl (by simp) 5 rfl (Nat.le_refl _)).drew.kp hk2) rfl (own2.sl encInt_len) (by have := HSZ.out; simp; omega) (by have := HSZ.out; simp; omega) (((Kp.refl wB).alloc _).drew.trans hk2).size ?_; intro v3 w3 hown3 hgrow3; have k3 : Kp wB w3 := Kp.grown (((Kp.refl wB).alloc _).drew.trans hk2) hgrow3 (Own.ge ((litOwn (w := wB) (base := wB.heap.size) [x0, x1, x2, x3, x4] #[.int .i64 x0, .int .i64 x1, .int .i64 x2, .int .i64 x3, .int .i64 x4] rfl (by simp) 5 rfl (Nat.le_refl _)).drew.kp hk2)))
      | (refine step_append_flat rfl (.tmp 13) (.tmp 16) rfl stInt' encInt_len encInt_one rfl (litOwn (w := w2) (base := wB.heap.size) [x0, x1, x2, x3, x4] #[.int .i64 x0, .int .i64 x1, .int .i64 x2, .int .i64 x3, .int .i64 x4] rfl (by simp) 5 rfl ((Kp.refl wB).drew.trans hk2).size) rfl ((own2.sl encInt_len).keep (pl_stable _) ((Kp.refl w2).alloc _)) (by have := HSZ.out; simp; omega) (by have := HSZ.out; simp; omega) ((((Kp.refl wB).drew.trans hk2).alloc _)).size ?_; intro v3 w3 hown3 hgrow3; have k3 : Kp wB w3 := Kp.grown (((Kp.refl wB).drew.trans hk2).alloc _) hgrow3 (Own.ge (litOwn (w := w2) (base := wB.heap.size) [x0, x1, x2, x3, x4] #[.int .i64 x0, .int .i64 x1, .int .i64 x2, .int .i64 x3, .int .i64 x4] rfl (by simp) 5 rfl ((Kp.refl wB).drew.trans hk2).size))))
  all_goals
    go_wp2
    go_ret
    exact ⟨_, rfl, by simpa [numEntry] using hown3.less hsB, kB.trans k3⟩
end Go.Proofs.Ytmokpnkpfodppaa
namespace Go.Proofs.Ytmokpnkpfodppaa
set_option linter.unusedSimpArgs false
set_option linter.unusedVariables false
open Go.RowKit

theorem nBool_any (b : Bool) (w : World) : Calls Try.prog 31 #[.bool b] w fun e w' => e = .returned (.int .i64 (numB b)) ∧ Kp w w' := by
  cases b <;>
  · go_enter Try.func31, Try.ntmps31
    go_wp2
    go_ret
    exact ⟨rfl, Kp.refl _⟩
theorem flat_take_le {α : Type} (f : α → List Int) (l : List α) (k : Nat) : ((l.take k).flatMap f).length ≤ (l.flatMap f).length := by
  have : l.flatMap f = (l.take k).flatMap f ++ (l.drop k).flatMap f := by rw [← List.flatMap_append, List.take_append_drop]
  rw [this, List.length_append]
  omega
theorem flat_snoc {α : Type} (f : α → List Int) (l : List α) (k : Nat) (h : k < l.length) : (l.take (k + 1)).flatMap f = (l.take k).flatMap f ++ f l[k] := by
  rw [take_snoc' l k h, List.flatMap_append]
  simp
set_option maxRecDepth 8000 in
set_option maxHeartbeats 4000000 in
theorem nAsk_any (val : Value) (x : Ask) (w : World) (hv : AskV w val x) (hlen : (numAsk x).length ≤ 1000000000) : Makes (numAsk x) 30 #[val] w := by
  obtain ⟨v, rfl, hp⟩ := hv
  obtain ⟨A, c, rfl, hc, hm⟩ := hp.form
  obtain ⟨x0, x1, x2, x3, x4, nd⟩ := x
  dsimp only at *
  have HL : Hid ((nd.flatMap numNeed).length ≤ 1000000000) := hid (by simp only [numAsk, numL, List.length_append, List.length_cons] at hlen; omega)
  clear hlen
  have kB := (Kp.refl w).alloc (.cells #[.int .i64 x0, .int .i64 x1, .int .i64 x2, .int .i64 x3, .int .i64 x4, .slice A nd.length c] 31)
  have hB := range_box w [.int .i64 x0, .int .i64 x1, .int .i64 x2, .int .i64 x3, .int .i64 x4, .slice A nd.length c] 31
  have hl0 := alloc_lt w (.cells #[.int .i64 x0, .int .i64 x1, .int .i64 x2, .int .i64 x3, .int .i64 x4, .slice A nd.length c] 31)
  have own0 := litOwn (w := w.alloc (.cells #[.int .i64 x0, .int .i64 x1, .int .i64 x2, .int .i64 x3, .int .i64 x4, .slice A nd.length c] 31)) (base := (w.alloc (.cells #[.int .i64 x0, .int .i64 x1, .int .i64 x2, .int .i64 x3, .int .i64 x4, .slice A nd.length c] 31)).heap.size) [x0, x1, x2, x3, x4, (nd.length : Int)] #[.int .i64 x0, .int .i64 x1, .int .i64 x2, .int .i64 x3, .int .i64 x4, .int .i64 (nd.length : Int)] rfl (by simp) 6 rfl (Nat.le_refl _)
  have hszB := World.size_alloc w (.cells #[.int .i64 x0, .int .i64 x1, .int .i64 x2, .int .i64 x3, .int .i64 x4, .slice A nd.length c] 31)
  go_enter Try.func30, Try.ntmps30
  go_wp2
  try rw [← hszB]
  generalize w.alloc (.cells #[.int .i64 x0, .int .i64 x1, .int .i64 x2, .int .i64 x3, .int .i64 x4, .slice A nd.length c] 31) = wB at *
  clear hszB
  generalize w.heap.size = b at *
  have hsB := kB.size
  go_loopw [3, 4] (fun v i wr => ∃ k : Nat, k ≤ nd.length ∧ i = .int .i64 k ∧ Own encInt 3 1 wB.heap.size wr v ([x0, x1, x2, x3, x4, (nd.length : Int)] ++ (nd.take k).flatMap numNeed) ∧ Kp wB wr) (fun _ i _ => nd.length - (intOf i).toNat)
  case atStart => exact ⟨0, Nat.zero_le _, rfl, by simpa using own0, (Kp.refl wB).alloc _⟩
  case round =>
    clear own0
    obtain ⟨k, hk, rfl, own, hkr⟩ := hrel
    obtain ⟨A1, c1, rfl, hc1, hm1⟩ := own.form
    have d5 := hkr.cellS (hB 5 _ rfl)
    simp only [Nat.zero_add] at d5
    have hlt5 := block_lt_of_cell d5
    have hpr := hp.keep (pl_stable _) (kB.trans hkr)
    have HT := hid (flat_take_le numNeed nd k)
    by_cases hlt : k < nd.length
    · obtain ⟨p, o, cs, rfl, hb, hcs, hq, hrd⟩ := hpr.at_ hlt
      have hrg : wr.rangeAt p (o + k * 4) cs := fun j u hu => hq j u hu
      have HH := hid hrg
      have HI := hid (there_new wr #[.int .i64 0, .int .i64 0, .int .i64 0, .int .i64 0] 80 cs.toArray.size (by simpa using hcs.symm))
      have h1c : ∀ u ∈ cs, u.oneCell' = true := (need_one hrd).2
      have HS := hid (flat_snoc numNeed nd k hlt)
      have hBx := hid ((Bx.new wr #[.int .i64 0, .int .i64 0, .int .i64 0, .int .i64 0] 80).all (cs := cs) (by rw [hcs]; rfl))
      have hkx := Kp.setCells (a := wr) (Nat.le_refl wr.heap.size) cs 0 _ ((Kp.refl wr).alloc (.cells #[.int .i64 0, .int .i64 0, .int .i64 0, .int .i64 0] 80))
      generalize nd[k] = x at *
      obtain ⟨y0, y1, y2, y3⟩ := x
      have HC := hid hrd
      clear hrg hq hrd hpr
      generalize hT : (nd.take k).flatMap numNeed = T at *
      clear hT
      go_wp2_with (first
        | (refine wpList_load_mid rfl 80 (.tmp 35) rfl p (o + k * 4) rfl cs _ HH.out Try.underlying80 rfl (by rw [hcs]; kernel_rfl) ?_)
        | (refine wpList_load_mid rfl 80 (.tmp 34) rfl p (o + k * 4) rfl cs _ HH.out Try.underlying80 rfl (by rw [hcs]; kernel_rfl) ?_)
        | (refine wpList_store_mid rfl 80 (.tmp 5) (.tmp 35) rfl wr.heap.size 0 cs.toArray rfl rfl HI.out (by rw [List.size_toArray, hcs]; kernel_rfl) (all_oneCell_toArray h1c) ?_; have hB4 := hBx.out; have own2 := own.kp hkx; have hk2 := hkr.trans hkx; generalize (wr.alloc (.cells #[.int .i64 0, .int .i64 0, .int .i64 0, .int .i64 0] 80)).setCells wr.heap.size 0 cs = w2 at *; clear hBx hkx HI; have hcl := HC.out; unfold Pl encNeed at hcl; subst hcl; have g0 := hB4.cell (j := 0) rfl; have g1 := hB4.cell (j := 1) rfl; have g2 := hB4.cell (j := 2) rfl; have g3 := hB4.cell (j := 3) rfl; clear hB4 HC HH)
        | (at_builtin; refine wpl_append_flat rfl (.tmp 36) (.tmp 48) rfl stInt' encInt_len encInt_one rfl (own2.alloc _) rfl (litInts [y0, y1, y2, y3] _ rfl (by simp) 4 rfl) (by have := HL.out; have := HT.out; simp; omega) (by have := HL.out; have := HT.out; simp; omega) (by have := hk2.size; simp; omega) ?_; intro v4 w4 hown4 hgrow4 hat4 hnil4))
      have hk4 : Kp wB w4 := Kp.grown (hk2.alloc _) hgrow4 own2.ge
      go_roundw
      case rel => exact ⟨k + 1, by omega, by go_num, by rw [HS.out]; simpa [numNeed] using hown4, hk4⟩
      case measure => simp [intOf]; omega
    · have HF : Hid (nd.take k = nd) := hid (List.take_of_length_le (by omega))
      go_wp2
      go_ret
      have e : numAsk ⟨x0, x1, x2, x3, x4, nd⟩ = [x0, x1, x2, x3, x4, (nd.length : Int)] ++ (nd.take k).flatMap numNeed := by rw [HF.out]; simp [numAsk, numL]
      exact ⟨_, rfl, by rw [e]; simpa using own.less hsB, kB.trans hkr⟩
end Go.Proofs.Ytmokpnkpfodppaa
