/-
The reference: the numbers of a message.
A drawn region taken by hand: an operation that yields in every world that is held comes first; its slot is named.
The reference: whether two messages are the same.
-/
import Derived.Test.YtmokpnkpfodppaaNA
import Derived.Test.YtmokpnkpfodppaaWB
import Derived.Deep.CutRange
import Derived.Test.YtmokpnkpfodppaaLib
import Derived.Deep.RegionHeld3
import Derived.Deep.MidRow
namespace Go.Proofs.Ytmokpnkpfodppaa
set_option linter.unusedSimpArgs false
set_option linter.unusedVariables false
open Go.RowKit

theorem eventV_of {w : World} {cs : List Value} {x : Event} (h : rdEvent w cs x) : EventV w (.agg cs.toArray) x := by
  obtain ⟨v, rfl, h⟩ := h
  exact ⟨v, rfl, h⟩
theorem entryV_of {w : World} {cs : List Value} {x : Entry} (h : rdEntry w cs x) : EntryV w (.agg cs.toArray) x := by
  obtain ⟨v, rfl, h⟩ := h
  exact ⟨v, rfl, h⟩
theorem EntryV.kp {w w' : World} {val : Value} {x : Entry} (h : EntryV w val x) (hb : Kp w w') : EntryV w' val x := by
  obtain ⟨v, h1, h2⟩ := h
  exact ⟨v, h1, h2.keep (pl_stable _) hb⟩
set_option maxRecDepth 100000 in
set_option maxHeartbeats 8000000 in
theorem nMessage_any (val : Value) (x : Message) (w : World) (hv : MessageV w val x) (hlen : (numMessage x).length ≤ 1000000000) : Makes (numMessage x) 9 #[val] w := by
  obtain ⟨v3, v4, v5, v6, v7, rfl, p3, p4, p5, p6, p7⟩ := hv
  obtain ⟨A3, c3, rfl, hc3, hm3⟩ := p3.form
  obtain ⟨A4, c4, rfl, hc4, hm4⟩ := p4.form
  obtain ⟨A5, c5, rfl, hc5, hm5⟩ := p5.form
  obtain ⟨A6, c6, rfl, hc6, hm6⟩ := p6.form
  obtain ⟨A7, c7, rfl, hc7, hm7⟩ := p7.form
  obtain ⟨m0, m1, m2, m3, m4, m5, ⟨a0, a1, a2, a3, a4, a5⟩, t0, t1, t2, t3, t4, t5⟩ := x
  dsimp only at *
  simp only [numMessage, List.length_append, List.length_cons, List.length_nil] at hlen
  have hn4 : (numL numEvent m4).length = (m4.flatMap numEvent).length + 1 := by simp [numL]
  have hn5 : (numL numSpan m5).length = (m5.flatMap numSpan).length + 1 := by simp [numL]
  have hn7 : (numL numEntry t5).length = (t5.flatMap numEntry).length + 1 := by simp [numL]
  have q3 := numIs_len m3
  obtain ⟨P1, HP1, hl1⟩ : ∃ P, Hid (P = [m0, m1, m2] ++ numIs m3) ∧ P.length ≤ 1000000000 := ⟨_, hid rfl, by simp; omega⟩
  obtain ⟨P2, HP2, hl2⟩ : ∃ P, Hid (P = P1 ++ [(m4.length : Int)]) ∧ P.length ≤ 1000000000 := ⟨_, hid rfl, by rw [HP1.out]; simp; omega⟩
  obtain ⟨P3, HP3, hl3⟩ : ∃ P, Hid (P = P2 ++ m4.flatMap numEvent) ∧ P.length ≤ 1000000000 := ⟨_, hid rfl, by rw [HP2.out, HP1.out]; simp only [List.length_append, List.length_cons, List.length_nil]; omega⟩
  obtain ⟨P4, HP4, hl4⟩ : ∃ P, Hid (P = P3 ++ [(m5.length : Int)]) ∧ P.length ≤ 1000000000 := ⟨_, hid rfl, by rw [HP3.out, HP2.out, HP1.out]; simp only [List.length_append, List.length_cons, List.length_nil]; omega⟩
  obtain ⟨P5, HP5, hl5⟩ : ∃ P, Hid (P = P4 ++ m5.flatMap numSpan) ∧ P.length ≤ 1000000000 := ⟨_, hid rfl, by rw [HP4.out, HP3.out, HP2.out, HP1.out]; simp only [List.length_append, List.length_cons, List.length_nil]; omega⟩
  obtain ⟨P6, HP6, hl6⟩ : ∃ P, Hid (P = P5 ++ numAsk ⟨a0, a1, a2, a3, a4, a5⟩) ∧ P.length ≤ 1000000000 := ⟨_, hid rfl, by rw [HP5.out, HP4.out, HP3.out, HP2.out, HP1.out]; simp only [List.length_append, List.length_cons, List.length_nil]; omega⟩
  obtain ⟨P7, HP7, hl7⟩ : ∃ P, Hid (P = P6 ++ [t0, t1, t2, t3, numB t4, (t5.length : Int)]) ∧ P.length ≤ 1000000000 := ⟨_, hid rfl, by rw [HP6.out, HP5.out, HP4.out, HP3.out, HP2.out, HP1.out]; simp only [List.length_append, List.length_cons, List.length_nil]; omega⟩
  have HE : Hid (numMessage ⟨m0, m1, m2, m3, m4, m5, ⟨a0, a1, a2, a3, a4, a5⟩, t0, t1, t2, t3, t4, t5⟩ = P7 ++ t5.flatMap numEntry) := hid (by rw [HP7.out, HP6.out, HP5.out, HP4.out, HP3.out, HP2.out, HP1.out]; simp [numMessage, numL])
  have HQ3 := hid (show m3.length ≤ 1000000000 by omega)
  have HQ4 := hid (show (m4.flatMap numEvent).length ≤ 1000000000 by omega)
  have HQ5 := hid (show (m5.flatMap numSpan).length ≤ 1000000000 by omega)
  have HQ6 := hid (show (numAsk ⟨a0, a1, a2, a3, a4, a5⟩).length ≤ 1000000000 by omega)
  have HQ7 := hid (show (t5.flatMap numEntry).length ≤ 1000000000 by omega)
  have HZ3 := hid q3
  clear hlen hn4 hn5 hn7 q3
  have kB := (Kp.refl w).alloc (.cells #[.int .i64 m0, .int .i64 m1, .int .i64 m2, .slice A3 m3.length c3, .slice A4 m4.length c4, .slice A5 m5.length c5, .int .i64 a0, .int .i64 a1, .int .i64 a2, .int .i64 a3, .int .i64 a4, .slice A6 a5.length c6, .int .i64 t0, .int .i64 t1, .int .i64 t2, .int .i64 t3, .bool t4, .slice A7 t5.length c7] 34)
  have hB := range_box w [.int .i64 m0, .int .i64 m1, .int .i64 m2, .slice A3 m3.length c3, .slice A4 m4.length c4, .slice A5 m5.length c5, .int .i64 a0, .int .i64 a1, .int .i64 a2, .int .i64 a3, .int .i64 a4, .slice A6 a5.length c6, .int .i64 t0, .int .i64 t1, .int .i64 t2, .int .i64 t3, .bool t4, .slice A7 t5.length c7] 34
  have hl0 := alloc_lt w (.cells #[.int .i64 m0, .int .i64 m1, .int .i64 m2, .slice A3 m3.length c3, .slice A4 m4.length c4, .slice A5 m5.length c5, .int .i64 a0, .int .i64 a1, .int .i64 a2, .int .i64 a3, .int .i64 a4, .slice A6 a5.length c6, .int .i64 t0, .int .i64 t1, .int .i64 t2, .int .i64 t3, .bool t4, .slice A7 t5.length c7] 34)
  go_enter Try.func9, Try.ntmps9
  go_wp2_with fail
  generalize w.alloc (.cells #[.int .i64 m0, .int .i64 m1, .int .i64 m2, .slice A3 m3.length c3, .slice A4 m4.length c4, .slice A5 m5.length c5, .int .i64 a0, .int .i64 a1, .int .i64 a2, .int .i64 a3, .int .i64 a4, .slice A6 a5.length c6, .int .i64 t0, .int .i64 t1, .int .i64 t2, .int .i64 t3, .bool t4, .slice A7 t5.length c7] 34) = wB at *
  generalize hbq : w.heap.size = b at *
  clear hbq
  have hsB := kB.size
  have hS : ∀ W, Kp wB W → (W.cell? ⟨b, 0, none⟩ = some (.int .i64 m0) ∧ W.cell? ⟨b, 1, none⟩ = some (.int .i64 m1) ∧ W.cell? ⟨b, 2, none⟩ = some (.int .i64 m2) ∧ W.cell? ⟨b, 3, none⟩ = some (.slice A3 m3.length c3) ∧ Kp wB W) := fun W hk => ⟨hk.cellS (hB 0 _ rfl), hk.cellS (hB 1 _ rfl), hk.cellS (hB 2 _ rfl), hk.cellS (hB 3 _ rfl), hk⟩
  have hcells : ∀ W, Kp wB W → (W.cell? ⟨b, 4, none⟩ = some (.slice A4 m4.length c4) ∧ W.cell? ⟨b, 5, none⟩ = some (.slice A5 m5.length c5) ∧ b < W.heap.size) := fun W hk =>
    ⟨hk.cellS (hB 4 _ rfl), hk.cellS (hB 5 _ rfl), Nat.lt_of_lt_of_le hl0 hk.size⟩
  have HCE := hid hcells
  clear hcells
  have hcells : ∀ W, Kp wB W → (W.cell? ⟨b, 6, none⟩ = some (.int .i64 a0) ∧ W.cell? ⟨b, 7, none⟩ = some (.int .i64 a1) ∧ W.cell? ⟨b, 8, none⟩ = some (.int .i64 a2) ∧ W.cell? ⟨b, 9, none⟩ = some (.int .i64 a3) ∧ W.cell? ⟨b, 10, none⟩ = some (.int .i64 a4) ∧ W.cell? ⟨b, 11, none⟩ = some (.slice A6 a5.length c6)) := fun W hk =>
    ⟨hk.cellS (hB 6 _ rfl), hk.cellS (hB 7 _ rfl), hk.cellS (hB 8 _ rfl), hk.cellS (hB 9 _ rfl), hk.cellS (hB 10 _ rfl), hk.cellS (hB 11 _ rfl)⟩
  have HCA := hid hcells
  clear hcells
  have hcells : ∀ W, Kp wB W → (W.cell? ⟨b, 12, none⟩ = some (.int .i64 t0) ∧ W.cell? ⟨b, 13, none⟩ = some (.int .i64 t1) ∧ W.cell? ⟨b, 14, none⟩ = some (.int .i64 t2) ∧ W.cell? ⟨b, 15, none⟩ = some (.int .i64 t3) ∧ W.cell? ⟨b, 16, none⟩ = some (.bool t4) ∧ W.cell? ⟨b, 17, none⟩ = some (.slice A7 t5.length c7) ∧ b < W.heap.size) := fun W hk =>
    ⟨hk.cellS (hB 12 _ rfl), hk.cellS (hB 13 _ rfl), hk.cellS (hB 14 _ rfl), hk.cellS (hB 15 _ rfl), hk.cellS (hB 16 _ rfl), hk.cellS (hB 17 _ rfl), Nat.lt_of_lt_of_le hl0 hk.size⟩
  have HCT := hid hcells
  clear hcells
  go_cut [3] from 18 (fun s3 wx => Own encInt 3 1 wB.heap.size wx s3 P1 ∧ Kp wB wx)
  case first =>
   go_region_held3 (fun W => W.cell? ⟨b, 0, none⟩ = some (.int .i64 m0) ∧ W.cell? ⟨b, 1, none⟩ = some (.int .i64 m1) ∧ W.cell? ⟨b, 2, none⟩ = some (.int .i64 m2) ∧ W.cell? ⟨b, 3, none⟩ = some (.slice A3 m3.length c3) ∧ Kp wB W)
     (first
       | exact hS _ (by assumption)
       | exact hS _ (Kp.drew (by assumption))
       | exact hS _ (Kp.refl _).drew
       | (go_split_ands; exact hS _ (Kp.alloc (by assumption) _))
       | (go_split_ands; exact hS _ (Kp.trans (by assumption) (by assumption))))
     (first
       | (go_split_ands; go_at_call 28; (with_reducible refine (nList_any _ m3 _ (p3.keep (pl_stable _) (kB.trans (by assumption))) HQ3.out).mono ?_); rintro e w2 ⟨v2, rfl, own2, hk2⟩; obtain ⟨B2, e2, rfl, he2, hf2⟩ := own2.form)
       | (refine step_append_flat rfl (.tmp 13) (.tmp 16) rfl stInt' encInt_len encInt_one rfl ((litOwn (w := wB) (base := wB.heap.size) [m0, m1, m2] #[.int .i64 m0, .int .i64 m1, .int .i64 m2] rfl (by simp) 3 rfl (Nat.le_refl _)).drew.kp hk2) rfl (own2.sl encInt_len) (by have := HZ3.out; have := HQ3.out; simp; omega) (by have := HZ3.out; have := HQ3.out; simp; omega) (((Kp.refl wB).alloc _).drew.trans hk2).size ?_; intro v3 w3 hown3 hgrow3; have k3 : Kp wB w3 := Kp.grown (((Kp.refl wB).alloc _).drew.trans hk2) hgrow3 (Own.ge ((litOwn (w := wB) (base := wB.heap.size) [m0, m1, m2] #[.int .i64 m0, .int .i64 m1, .int .i64 m2] rfl (by simp) 3 rfl (Nat.le_refl _)).drew.kp hk2)))
       | (refine step_append_flat rfl (.tmp 13) (.tmp 16) rfl stInt' encInt_len encInt_one rfl (litOwn (w := w2) (base := wB.heap.size) [m0, m1, m2] #[.int .i64 m0, .int .i64 m1, .int .i64 m2] rfl (by simp) 3 rfl ((Kp.refl wB).drew.trans hk2).size) rfl ((own2.sl encInt_len).keep (pl_stable _) ((Kp.refl w2).alloc _)) (by have := HZ3.out; have := HQ3.out; simp; omega) (by have := HZ3.out; have := HQ3.out; simp; omega) ((((Kp.refl wB).drew.trans hk2).alloc _)).size ?_; intro v3 w3 hown3 hgrow3; have k3 : Kp wB w3 := Kp.grown (((Kp.refl wB).drew.trans hk2).alloc _) hgrow3 (Own.ge (litOwn (w := w2) (base := wB.heap.size) [m0, m1, m2] #[.int .i64 m0, .int .i64 m1, .int .i64 m2] rfl (by simp) 3 rfl ((Kp.refl wB).drew.trans hk2).size))))
   all_goals
     have own3 : Own encInt 3 1 wB.heap.size w3 v3 P1 := by rw [HP1.out]; exact hown3.less (by simp)
     go_wp2
     go_meet
     case rel => exact ⟨own3, k3⟩
  case rest =>
   obtain ⟨own1, k1⟩ := hcut
   clear hS
   obtain ⟨B1, e1, rfl, he1, hf1⟩ := own1.form
   obtain ⟨d4, d5, hlt0⟩ := HCE.out _ k1
   go_wp2_with (at_builtin; refine wpl_append_flat rfl (.tmp 18) (.tmp 22) rfl stInt' encInt_len encInt_one rfl (own1.alloc _) rfl (litInts [(m4.length : Int)] _ rfl (by simp) 1 rfl) (by simp; omega) (by simp; omega) (by have := k1.size; simp; omega) ?_; intro v4 w4 hown4 hgrow4 hat4 hnil4; have k4 : Kp wB w4 := Kp.grown (k1.alloc _) hgrow4 own1.ge; have own4 : Own encInt 3 1 wB.heap.size w4 v4 P2 := (by rw [HP2.out]; exact hown4))
   clear hown4 hgrow4 hat4 hnil4 k1 own1 d4 d5 hlt0
   go_loopw [3, 4] (fun v i wr => ∃ k : Nat, k ≤ m4.length ∧ i = .int .i64 k ∧ Own encInt 3 1 wB.heap.size wr v (P2 ++ (m4.take k).flatMap numEvent) ∧ Kp wB wr) (fun _ i _ => m4.length - (intOf i).toNat)
   case atStart => exact ⟨0, Nat.zero_le _, rfl, by simpa using own4, k4⟩
   case round =>
     clear own4 k4
     obtain ⟨k, hk, rfl, own, hkr⟩ := hrel
     obtain ⟨d4, d5, hlt0⟩ := HCE.out _ hkr
     have HT := hid (flat_take_le numEvent m4 k)
     by_cases hlt : k < m4.length
     · obtain ⟨p, o, cs, rfl, hb, hcs, hq, hrd⟩ := p4.at_ hlt
       have hrg : wr.rangeAt p (o + k * 13) cs := fun j u hu => (kB.trans hkr).cellS (hq j u hu)
       have HH := hid hrg
       have HS := hid (flat_snoc numEvent m4 k hlt)
       have hyl : (numEvent m4[k]).length ≤ 1000000000 := by
         have := flat_take_le numEvent m4 (k + 1)
         rw [HS.out, List.length_append] at this
         have := HQ4.out
         omega
       generalize m4[k] = y at *
       obtain ⟨L, HLq, hLl⟩ : ∃ L, Hid (P2 ++ (m4.take k).flatMap numEvent = L) ∧ L.length ≤ 2000000000 := ⟨_, hid rfl, by have := HT.out; have := HQ4.out; rw [List.length_append]; omega⟩
       rw [HLq.out] at own
       obtain ⟨B1, e1, rfl, he1, hf1⟩ := own.form
       have hpl : y.past.length ≤ 1000000000 := by
         have h1 := numIs_len y.past
         simp only [numEvent, List.length_append, List.length_cons, List.length_nil] at hyl
         omega
       have HPL := hid hpl
       have HYL := hid hyl
       have hev := (eventV_of hrd).kp (kB.trans hkr)
       clear hrg hrd hq hyl hpl
       go_wp2_with (refine wpList_load_mid rfl 82 (.tmp 35) rfl p (o + k * 13) rfl cs _ HH.out Try.underlying82 rfl (by rw [hcs]; kernel_rfl) ?_)
       refine (nEvent_any _ y _ hev HPL.out).mono ?_
       rintro e w2 ⟨vq2, rfl, own2, k2⟩
       have own12 := own.kp k2
       have s2 := own2.sl encInt_len
       have k12 := hkr.trans k2
       obtain ⟨B2, e2, rfl, he2, hf2⟩ := own2.form
       go_wp2_with (at_builtin; refine wpl_append_flat rfl (.tmp 31) (.tmp 37) rfl stInt' encInt_len encInt_one rfl own12 rfl s2 (by have := HYL.out; omega) (by have := HYL.out; omega) k12.size ?_; intro v3 w3 hown3 hgrow3 hat3 hnil3; have k3 : Kp wB w3 := Kp.grown k12 hgrow3 own12.ge)
       go_roundw
       case rel => exact ⟨k + 1, by omega, by go_num, by rw [HS.out, ← List.append_assoc, HLq.out]; exact hown3, k3⟩
       case measure => simp [intOf]; omega
     · have HF : Hid (P2 ++ (m4.take k).flatMap numEvent = P3) := hid (by rw [List.take_of_length_le (by omega), HP3.out])
       rw [HF.out] at own
       obtain ⟨B1, e1, rfl, he1, hf1⟩ := own.form
       go_wp2_with (at_builtin; refine wpl_append_flat rfl (.tmp 39) (.tmp 43) rfl stInt' encInt_len encInt_one rfl (own.alloc _) rfl (litInts [(m5.length : Int)] _ rfl (by simp) 1 rfl) (by simp; omega) (by simp; omega) (by have := hkr.size; simp; omega) ?_; intro v4 w4 hown4 hgrow4 hat4 hnil4; have k4 : Kp wB w4 := Kp.grown (hkr.alloc _) hgrow4 own.ge; have own4 : Own encInt 3 1 wB.heap.size w4 v4 P4 := (by rw [HP4.out]; exact hown4))
       clear hown4 hgrow4 hat4 hnil4 own hkr d4 d5 hlt0 hlt HT HF
       go_loopw [3, 5] (fun v i wr => ∃ k : Nat, k ≤ m5.length ∧ i = .int .i64 k ∧ Own encInt 3 1 wB.heap.size wr v (P4 ++ (m5.take k).flatMap numSpan) ∧ Kp wB wr) (fun _ i _ => m5.length - (intOf i).toNat)
       case atStart => exact ⟨0, Nat.zero_le _, rfl, by simpa using own4, k4⟩
       case round =>
         clear own4 k4
         obtain ⟨j, hj, rfl, own, hkr⟩ := hrel
         obtain ⟨d4, d5, hlt0⟩ := HCE.out _ hkr
         have HT := hid (flat_take_le numSpan m5 j)
         by_cases hlt : j < m5.length
         · obtain ⟨p, o, cs, rfl, hb, hcs, hq, hrd⟩ := p5.at_ hlt
           have HS := hid (flat_snoc numSpan m5 j hlt)
           generalize m5[j] = y at *
           obtain ⟨y0, y1, y2⟩ := y
           unfold Pl encSpan at hrd
           subst hrd
           have g0 := (kB.trans hkr).cellS (hq 0 _ rfl)
           have g1 := (kB.trans hkr).cellS (hq 1 _ rfl)
           have g2 := (kB.trans hkr).cellS (hq 2 _ rfl)
           simp only [Nat.add_zero] at g0
           have gl := block_lt_of_cell g0
           obtain ⟨L, HLq, hLl⟩ : ∃ L, Hid (P4 ++ (m5.take j).flatMap numSpan = L) ∧ L.length ≤ 2000000000 := ⟨_, hid rfl, by have := HT.out; have := HQ5.out; rw [List.length_append]; omega⟩
           rw [HLq.out] at own
           obtain ⟨B1, e1, rfl, he1, hf1⟩ := own.form
           clear hq d4
           go_wp2_with fail
           refine wp_region_kw_tail1 (v := ?_) 19 (by kernel_rfl) (by kernel_rfl) (fun _ _ _ h => h) (Or.inl ⟨by rfl, ?_⟩) ?_
           rotate_left
           · intro w; go_simp; rfl
           simp only [List.take_succ_cons, List.take_zero, List.drop_succ_cons, List.drop_zero, Nat.add_one_sub_one, Act.put, List.setIfInBounds_toArray, List.set_cons_succ, List.set_cons_zero]
           repeat (go_big_quiet_step (fail))
           refine wpQuiet_nil ?_
           intro _ hw'
           obtain ⟨u, hw''⟩ := hw'
           subst hw''
           have kq := kw_kp wr u
           generalize Kw wr u = w7 at *
           have own7 := own.kp kq
           have k7 := hkr.trans kq
           go_wp2_with (at_builtin; refine wpl_append_flat rfl (.tmp 52) (.tmp 71) rfl stInt' encInt_len encInt_one rfl (own7.alloc _) rfl (litInts [y0, y1, y2] _ rfl (by simp) 3 rfl) (by simp; omega) (by simp; omega) (by have := k7.size; simp; omega) ?_; intro v4 w4 hown4 hgrow4 hat4 hnil4; have k4 : Kp wB w4 := Kp.grown (k7.alloc _) hgrow4 own7.ge)
           go_roundw
           case rel => exact ⟨j + 1, by omega, by go_num, by rw [HS.out, ← List.append_assoc, HLq.out]; simpa [numSpan] using hown4, k4⟩
           case measure => simp [intOf]; omega
         · have HF : Hid (P4 ++ (m5.take j).flatMap numSpan = P5) := hid (by rw [List.take_of_length_le (by omega), HP5.out])
           rw [HF.out] at own
           obtain ⟨B1, e1, rfl, he1, hf1⟩ := own.form
           obtain ⟨f6, f7, f8, f9, f10, f11⟩ := HCA.out _ hkr
           go_wp2_with fail
           refine (nAsk_any _ ⟨a0, a1, a2, a3, a4, a5⟩ _ ⟨_, rfl, p6.keep (pl_stable _) (kB.trans hkr)⟩ HQ6.out).mono ?_
           rintro e w2 ⟨vq2, rfl, own2, k2⟩
           have own12 := own.kp k2
           have s2 := own2.sl encInt_len
           have k12 := hkr.trans k2
           obtain ⟨B2, e2, rfl, he2, hf2⟩ := own2.form
           clear f6 f7 f8 f9 f10 f11 d4 d5 hlt0 own
           obtain ⟨f12, f13, f14, f15, f16, f17, hlt0⟩ := HCT.out _ k12
           go_wp2_with (at_builtin; refine wpl_append_flat rfl (.tmp 73) (.tmp 76) rfl stInt' encInt_len encInt_one rfl own12 rfl s2 (by have := HQ6.out; omega) (by have := HQ6.out; omega) k12.size ?_; intro v3 w3 hown3 hgrow3 hat3 hnil3; have k3 : Kp wB w3 := Kp.grown k12 hgrow3 own12.ge; have own3 : Own encInt 3 1 wB.heap.size w3 v3 P6 := (by rw [HP6.out]; exact hown3); clear f12 f13 f14 f15 f16 f17 hlt0; obtain ⟨f12, f13, f14, f15, f16, f17, hlt0⟩ := HCT.out _ k3; obtain ⟨B3, e3, rfl, he3, hf3⟩ := own3.form)
           refine wp_region_kw_tail1 (v := ?_) 15 (by kernel_rfl) (by kernel_rfl) (fun _ _ _ h => h) (Or.inl ⟨by rfl, ?_⟩) ?_
           rotate_left
           · intro w; go_simp; rfl
           simp only [List.take_succ_cons, List.take_zero, List.drop_succ_cons, List.drop_zero, Nat.add_one_sub_one, Act.put, List.setIfInBounds_toArray, List.set_cons_succ, List.set_cons_zero]
           repeat (go_big_quiet_step (((go_at_call 31; refine quiet_kw (nBool_any _ _)))))
           refine wpQuiet_nil ?_
           intro _ hw'
           obtain ⟨u, hw''⟩ := hw'
           subst hw''
           have kq := kw_kp w3 u
           generalize Kw w3 u = w7 at *
           have own7 := own3.kp kq
           have k7 := k3.trans kq
           clear f12 f13 f14 f15 f16 f17 hlt0 hown3 hgrow3 hat3 hnil3 own3 k3 kq own12 s2 k12 k2 own2
           obtain ⟨f12, f13, f14, f15, f16, f17, hlt0⟩ := HCT.out _ k7
           go_wp2_with (at_builtin; refine wpl_append_flat rfl (.tmp 78) (.tmp 93) rfl stInt' encInt_len encInt_one rfl (own7.alloc _) rfl (litInts [t0, t1, t2, t3, numB t4, (t5.length : Int)] _ rfl (by simp) 6 rfl) (by simp; omega) (by simp; omega) (by have := k7.size; simp; omega) ?_; intro v4 w4 hown4 hgrow4 hat4 hnil4; have k4 : Kp wB w4 := Kp.grown (k7.alloc _) hgrow4 own7.ge; have own4 : Own encInt 3 1 wB.heap.size w4 v4 P7 := (by rw [HP7.out]; exact hown4))
           clear hown4 hgrow4 hat4 hnil4 own7 k7 f12 f13 f14 f15 f16 f17 hlt0
           go_loopw [3, 6] (fun v i wr => ∃ k : Nat, k ≤ t5.length ∧ i = .int .i64 k ∧ Own encInt 3 1 wB.heap.size wr v (P7 ++ (t5.take k).flatMap numEntry) ∧ Kp wB wr) (fun _ i _ => t5.length - (intOf i).toNat)
           case atStart => exact ⟨0, Nat.zero_le _, rfl, by simpa using own4, k4⟩
           case round =>
             clear own4 k4
             obtain ⟨q, hq', rfl, own, hkr⟩ := hrel
             obtain ⟨f12, f13, f14, f15, f16, f17, hlt0⟩ := HCT.out _ hkr
             clear f12 f13 f14 f15 f16
             have HT := hid (flat_take_le numEntry t5 q)
             by_cases hlt : q < t5.length
             · obtain ⟨p, o, cs, rfl, hb, hcs, hq, hrd⟩ := p7.at_ hlt
               have hrg : wr.rangeAt p (o + q * 6) cs := fun j u hu => (kB.trans hkr).cellS (hq j u hu)
               have HH := hid hrg
               have HS := hid (flat_snoc numEntry t5 q hlt)
               have hyl : (numEntry t5[q]).length ≤ 1000000000 := by
                 have := flat_take_le numEntry t5 (q + 1)
                 rw [HS.out, List.length_append] at this
                 have := HQ7.out
                 omega
               generalize t5[q] = y at *
               obtain ⟨L, HLq, hLl⟩ : ∃ L, Hid (P7 ++ (t5.take q).flatMap numEntry = L) ∧ L.length ≤ 2000000000 := ⟨_, hid rfl, by have := HT.out; have := HQ7.out; rw [List.length_append]; omega⟩
               rw [HLq.out] at own
               obtain ⟨B1, e1, rfl, he1, hf1⟩ := own.form
               have hpl : y.voters.length ≤ 1000000000 := by
                 have h1 := numIs_len y.voters
                 simp only [numEntry, List.length_append, List.length_cons, List.length_nil] at hyl
                 omega
               have HPL := hid hpl
               have HYL := hid hyl
               have hev := (entryV_of hrd).kp (kB.trans hkr)
               clear hrg hrd hq hyl hpl
               go_wp2_with (refine wpList_load_mid rfl 89 (.tmp 106) rfl p (o + q * 6) rfl cs _ HH.out Try.underlying89 rfl (by rw [hcs]; kernel_rfl) ?_)
               refine (nEntry_any _ y _ hev HPL.out).mono ?_
               rintro e w2 ⟨vq2, rfl, own2, k2⟩
               have own12 := own.kp k2
               have s2 := own2.sl encInt_len
               have k12 := hkr.trans k2
               obtain ⟨B2, e2, rfl, he2, hf2⟩ := own2.form
               go_wp2_with (at_builtin; refine wpl_append_flat rfl (.tmp 102) (.tmp 108) rfl stInt' encInt_len encInt_one rfl own12 rfl s2 (by have := HYL.out; omega) (by have := HYL.out; omega) k12.size ?_; intro v3 w3 hown3 hgrow3 hat3 hnil3; have k3 : Kp wB w3 := Kp.grown k12 hgrow3 own12.ge)
               go_roundw
               case rel => exact ⟨q + 1, by omega, by go_num, by rw [HS.out, ← List.append_assoc, HLq.out]; exact hown3, k3⟩
               case measure => simp [intOf]; omega
             · have HF : Hid (P7 ++ (t5.take q).flatMap numEntry = numMessage ⟨m0, m1, m2, m3, m4, m5, ⟨a0, a1, a2, a3, a4, a5⟩, t0, t1, t2, t3, t4, t5⟩) := hid (by rw [List.take_of_length_le (by omega), HE.out])
               rw [HF.out] at own
               go_wp2
               go_ret
               exact ⟨_, rfl, own.less hsB, kB.trans hkr⟩
end Go.Proofs.Ytmokpnkpfodppaa
namespace Go.Proofs.Ytmokpnkpfodppaa
set_option linter.unusedSimpArgs false
set_option linter.unusedVariables false
open Go.RowKit

section
variable {P : Program} {md : Region.Mode} {ops : Array Oper} {Q : Exit → Act → World → Prop} {S : World → Prop}
theorem take_at (i d : Nat) {oi : Oper} {v : Value} {fuel : Nat} {listed : Array Bool} {a : Act} {w : World} (hi : ops[i]? = some oi) (hd : oi.dst = some d)
    (hs : Region.noSelect ops = true) (hf : Region.free md ops listed i = true) (hr : (Region.ready md ops listed).contains i = true)
    (hQ : ∀ c a w, Q (.panic c) (a.put oi.dst v) w → Q (.panic c) a w) (hS : S w) (hy : YieldsIf P ops S oi v a)
    (h : wpAnyH P md ops Q S fuel (listed.setIfInBounds i true) (a.put (some d) v) w) : wpAnyH P md ops Q S (fuel + 1) listed a w :=
  wpAnyH_take hi hs hf hr hQ hy hS (by rw [hd]; exact h)
end
end Go.Proofs.Ytmokpnkpfodppaa
namespace Go.Proofs.Ytmokpnkpfodppaa
set_option linter.unusedSimpArgs false
set_option linter.unusedVariables false
open Go.RowKit

set_option maxRecDepth 100000 in
set_option maxHeartbeats 4000000 in
theorem SameMessage_any (va vb : Value) (a b : Message) (w : World) (ha : MessageV w va a) (hb : MessageV w vb b) (la : (numMessage a).length ≤ 1000000000) (lb : (numMessage b).length ≤ 1000000000) :
    Calls Try.prog 16 #[va, vb] w fun e w' => e = .returned (.bool (decide (numMessage a = numMessage b))) ∧ Kp w w' := by
  obtain ⟨csa, rfl, hca⟩ := ha.cells
  obtain ⟨csb, rfl, hcb⟩ := hb.cells
  have k1 := (Kp.refl w).alloc (.cells csa.toArray 34)
  have r1 := range_box w csa 34
  have r2 := range_box (w.alloc (.cells csa.toArray 34)) csb 34
  have k2 := k1.alloc (.cells csb.toArray 34)
  have r1' := ((Kp.refl _).alloc (.cells csb.toArray 34)).range r1
  have hia : (Try.prog.info? 34).map (·.size) = some csa.length := by rw [hca]; kernel_rfl
  have hib : (Try.prog.info? 34).map (·.size) = some csb.length := by rw [hcb]; kernel_rfl
  have ha' := ha.kp k2
  have hb' := hb.kp k2
  clear r1 k1 ha hb
  go_enter Try.func16, Try.ntmps16
  go_wp2_with fail
  generalize (w.alloc (.cells csa.toArray 34)).alloc (.cells csb.toArray 34) = wB at *
  have hS : ∀ W, Kp wB W → (W.rangeAt w.heap.size 0 csa ∧ W.rangeAt (w.heap.size + 1) 0 csb ∧ Kp wB W) := fun W hk => ⟨hk.range r1', hk.range (by simpa using r2), hk⟩
  refine wp_region_held_drew (S := fun W => W.rangeAt w.heap.size 0 csa ∧ W.rangeAt (w.heap.size + 1) 0 csb ∧ Kp wB W) (by kernel_rfl) (hS _ (Kp.refl _).drew) (fun hHeld => ?_)
  refine take_at 0 5 (v := _) rfl rfl (by kernel_rfl) (by kernel_rfl) (by kernel_rfl) (fun _ _ _ h => h) hHeld (yieldsIf_load_mid (by kernel_rfl) 34 _ rfl _ 0 rfl csa _ (fun _ h => h.1) Try.underlying34 rfl (by assumption)) ?_
  simp only [Act.put, List.setIfInBounds_toArray, List.set_cons_zero, List.set_cons_succ]
  refine take_at 2 7 (v := _) rfl rfl (by kernel_rfl) (by kernel_rfl) (by kernel_rfl) (fun _ _ _ h => h) hHeld (yieldsIf_load_mid (by kernel_rfl) 34 _ rfl _ 0 rfl csb _ (fun _ h => h.2.1) Try.underlying34 rfl (by assumption)) ?_
  simp only [Act.put, List.setIfInBounds_toArray, List.set_cons_zero, List.set_cons_succ]
  refine wpAnyH_ready (rs := [1]) (by kernel_rfl) (by simp) ?_
  refine AllReadyH.cons (o := _) rfl (fun K hK => ?_) AllReadyH.nil
  go_simp
  refine (nMessage_any _ a _ (ha'.kp hHeld.2.2) la).mono ?_
  rintro e w1 ⟨v1, rfl, own1, h1⟩
  refine hK.out _ _ (hS _ (hHeld.2.2.trans h1)) (fun hHeld2 => ?_)
  clear hK K hHeld
  have hHeld := hHeld2
  clear hHeld2
  obtain ⟨B1, e1, rfl, he1, hf1⟩ := own1.form
  refine wpAnyH_ready (rs := [3]) (by kernel_rfl) (by simp) ?_
  refine AllReadyH.cons (o := _) rfl (fun K hK => ?_) AllReadyH.nil
  go_simp
  refine (nMessage_any _ b _ (hb'.kp hHeld.2.2) lb).mono ?_
  rintro e w2 ⟨v2, rfl, own2, h2⟩
  refine hK.out _ _ (hS _ (hHeld.2.2.trans h2)) (fun hHeld2 => ?_)
  clear hK K hHeld
  have hHeld := hHeld2
  clear hHeld2
  obtain ⟨B2, e2, rfl, he2, hf2⟩ := own2.form
  refine wpAnyH_ready (rs := [4]) (by kernel_rfl) (by simp) ?_
  refine AllReadyH.cons (o := _) rfl (fun K hK => ?_) AllReadyH.nil
  go_simp
  refine (Same_any _ _ (numMessage a) (numMessage b) _ ((own1.sl encInt_len).keep (pl_stable _) h2) (own2.sl encInt_len)).mono ?_
  rintro e w3 ⟨rfl, h3⟩
  refine hK.out _ _ (hS _ (hHeld.2.2.trans h3)) (fun hHeld2 => ?_)
  clear hK K hHeld
  have hHeld := hHeld2
  clear hHeld2
  refine wpAnyH_ready (rs := [5]) (by kernel_rfl) (by simp) ?_
  refine AllReadyH.cons (o := _) rfl (fun K hK => ?_) AllReadyH.nil
  go_simp
  refine hK.out _ _ hHeld (fun hHeld2 => ?_)
  clear hK K hHeld
  have hHeld := hHeld2
  clear hHeld2
  refine wpAnyH_done (by kernel_rfl) ?_ _
  have k9 := k2.trans hHeld.2.2
  go_wp2
  go_ret
  exact ⟨rfl, k9⟩
end Go.Proofs.Ytmokpnkpfodppaa
