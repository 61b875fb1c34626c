
/-
The reference: the numbers of a base (under way).
-/
import Derived.Test.YtmeafoakbkjifaaNA
import Derived.Deep.CutRange
namespace Go.Proofs.Ytmeafoakbkjifaa
set_option linter.unusedSimpArgs false
set_option linter.unusedVariables false
open Go.RowKit

set_option maxRecDepth 100000 in
set_option maxHeartbeats 8000000 in
theorem nBase_any (val : Value) (x : Base) (w : World) (hv : BaseV w val x) (hlen : (numBase x).length ≤ 1000000000) : Makes (numBase x) 19 #[val] w := by
  obtain ⟨v0, v2, v3, v4, v5, v6, rfl, p0, p2, p3, p4, p5, p6⟩ := hv
  obtain ⟨A0, c0, rfl, hc0, hm0⟩ := p0.form
  obtain ⟨A2, c2, rfl, hc2, hm2⟩ := p2.form
  obtain ⟨A3, c3, rfl, hc3, hm3⟩ := p3.form
  obtain ⟨A4, c4, rfl, hc4, hm4⟩ := p4.form
  obtain ⟨A5, c5, rfl, hc5, hm5⟩ := p5.form
  obtain ⟨A6, c6, rfl, hc6, hm6⟩ := p6.form
  obtain ⟨x0, x1, x2, x3, x4, x5, x6⟩ := x
  dsimp only at *
  simp only [numBase, List.length_append, List.length_cons, List.length_nil] at hlen
  have hn3 : (numL numMerged x3).length = (x3.flatMap numMerged).length + 1 := by simp [numL]
  have hn4 : (numL numIs x4).length = (x4.flatMap numIs).length + 1 := by simp [numL]
  have hn5 : (numL (numL numIs) x5).length = (x5.flatMap (numL numIs)).length + 1 := by simp [numL]
  have q0 := numIs_len x0
  have q2 := numIs_len x2
  have q6 := numIs_len x6
  obtain ⟨P1, HP1, hl1⟩ : ∃ P, Hid (P = numIs x0 ++ [x1]) ∧ P.length ≤ 1000000000 := ⟨_, hid rfl, by simp; omega⟩
  obtain ⟨P2, HP2, hl2⟩ : ∃ P, Hid (P = P1 ++ numIs x2) ∧ P.length ≤ 1000000000 := ⟨_, hid rfl, by rw [HP1.out]; simp; omega⟩
  obtain ⟨P3, HP3, hl3⟩ : ∃ P, Hid (P = P2 ++ [(x3.length : Int)]) ∧ P.length ≤ 1000000000 := ⟨_, hid rfl, by rw [HP2.out, HP1.out]; simp; omega⟩
  obtain ⟨P4, HP4, hl4⟩ : ∃ P, Hid (P = P3 ++ x3.flatMap numMerged) ∧ P.length ≤ 1000000000 := ⟨_, hid rfl, by rw [HP3.out, HP2.out, HP1.out]; simp only [List.length_append, List.length_cons, List.length_nil]; omega⟩
  obtain ⟨P5, HP5, hl5⟩ : ∃ P, Hid (P = P4 ++ [(x4.length : Int)]) ∧ P.length ≤ 1000000000 := ⟨_, hid rfl, by rw [HP4.out, HP3.out, HP2.out, HP1.out]; simp only [List.length_append, List.length_cons, List.length_nil]; omega⟩
  obtain ⟨P6, HP6, hl6⟩ : ∃ P, Hid (P = P5 ++ x4.flatMap numIs) ∧ P.length ≤ 1000000000 := ⟨_, hid rfl, by rw [HP5.out, HP4.out, HP3.out, HP2.out, HP1.out]; simp only [List.length_append, List.length_cons, List.length_nil]; omega⟩
  obtain ⟨P7, HP7, hl7⟩ : ∃ P, Hid (P = P6 ++ [(x5.length : Int)]) ∧ P.length ≤ 1000000000 := ⟨_, hid rfl, by rw [HP6.out, HP5.out, HP4.out, HP3.out, HP2.out, HP1.out]; simp only [List.length_append, List.length_cons, List.length_nil]; omega⟩
  obtain ⟨P8, HP8, hl8⟩ : ∃ P, Hid (P = P7 ++ x5.flatMap (numL numIs)) ∧ P.length ≤ 1000000000 := ⟨_, hid rfl, by rw [HP7.out, HP6.out, HP5.out, HP4.out, HP3.out, HP2.out, HP1.out]; simp only [List.length_append, List.length_cons, List.length_nil]; omega⟩
  have HE : Hid (numBase ⟨x0, x1, x2, x3, x4, x5, x6⟩ = P8 ++ numIs x6) := hid (by rw [HP8.out, HP7.out, HP6.out, HP5.out, HP4.out, HP3.out, HP2.out, HP1.out]; simp [numBase, numL])
  have HQ0 := hid (show x0.length ≤ 1000000000 by omega)
  have HQ2 := hid (show x2.length ≤ 1000000000 by omega)
  have HQ6 := hid (show x6.length ≤ 1000000000 by omega)
  have HQ3 := hid (show (x3.flatMap numMerged).length ≤ 1000000000 by omega)
  have HQ4 := hid (show (x4.flatMap numIs).length ≤ 1000000000 by omega)
  have HQ5 := hid (show (x5.flatMap (numL numIs)).length ≤ 1000000000 by omega)
  have HZ0 := hid q0
  have HZ2 := hid q2
  have HZ6 := hid q6
  clear hlen hn3 hn4 hn5 q0 q2 q6
  have kB := (Kp.refl w).alloc (.cells #[.slice A0 x0.length c0, .int .i64 x1, .slice A2 x2.length c2, .slice A3 x3.length c3, .slice A4 x4.length c4, .slice A5 x5.length c5, .slice A6 x6.length c6] 42)
  have hB := range_box w [.slice A0 x0.length c0, .int .i64 x1, .slice A2 x2.length c2, .slice A3 x3.length c3, .slice A4 x4.length c4, .slice A5 x5.length c5, .slice A6 x6.length c6] 42
  have hl0 := alloc_lt w (.cells #[.slice A0 x0.length c0, .int .i64 x1, .slice A2 x2.length c2, .slice A3 x3.length c3, .slice A4 x4.length c4, .slice A5 x5.length c5, .slice A6 x6.length c6] 42)
  go_enter Try.func19, Try.ntmps19
  go_wp2_with fail
  generalize w.alloc (.cells #[.slice A0 x0.length c0, .int .i64 x1, .slice A2 x2.length c2, .slice A3 x3.length c3, .slice A4 x4.length c4, .slice A5 x5.length c5, .slice A6 x6.length c6] 42) = wB at *
  generalize hbq : w.heap.size = b at *
  clear hbq
  have hsB := kB.size
  have hS : ∀ W, Kp wB W → (W.cell? ⟨b, 0, none⟩ = some (.slice A0 x0.length c0) ∧ W.cell? ⟨b, 1, none⟩ = some (.int .i64 x1) ∧ Kp wB W) := fun W hk => ⟨hk.cellS (hB 0 _ rfl), hk.cellS (hB 1 _ rfl), hk⟩
  have hcells : ∀ W, Kp wB W → (W.cell? ⟨b, 2, none⟩ = some (.slice A2 x2.length c2) ∧ W.cell? ⟨b, 3, none⟩ = some (.slice A3 x3.length c3) ∧ W.cell? ⟨b, 4, none⟩ = some (.slice A4 x4.length c4) ∧ W.cell? ⟨b, 5, none⟩ = some (.slice A5 x5.length c5) ∧ W.cell? ⟨b, 6, none⟩ = some (.slice A6 x6.length c6) ∧ b < W.heap.size) := fun W hk =>
    ⟨hk.cellS (hB 2 _ rfl), hk.cellS (hB 3 _ rfl), hk.cellS (hB 4 _ rfl), hk.cellS (hB 5 _ rfl), hk.cellS (hB 6 _ rfl), Nat.lt_of_lt_of_le hl0 hk.size⟩
  have HCE := hid hcells
  clear hcells
  go_cut [3] from 11 (fun s3 wx => Own encInt 3 1 wB.heap.size wx s3 P1 ∧ Kp wB wx)
  case first =>
   go_region_held3 (fun W => W.cell? ⟨b, 0, none⟩ = some (.slice A0 x0.length c0) ∧ W.cell? ⟨b, 1, none⟩ = some (.int .i64 x1) ∧ Kp wB W)
     (first
       | exact hS _ (by assumption)
       | exact hS _ (Kp.drew (by assumption))
       | exact hS _ (Kp.refl _).drew
       | (go_split_ands; exact hS _ (Kp.alloc (by assumption) _))
       | (go_split_ands; exact hS _ (Kp.trans (by assumption) (by assumption))))
     (first
       | (go_split_ands; go_at_call 46; (with_reducible refine (nList_any _ x0 _ (p0.keep (pl_stable _) (kB.trans (by assumption))) HQ0.out).mono ?_); rintro e w2 ⟨vq2, rfl, own2, hk2⟩; obtain ⟨B2, e2, rfl, he2, hf2⟩ := own2.form)
       | (refine step_append_flat rfl (.tmp 13) (.tmp 16) rfl stInt' encInt_len encInt_one rfl (own2.alloc _) rfl (litInts [x1] _ rfl (by simp) 1 rfl) (by have := HZ0.out; have := HQ0.out; simp; omega) (by have := HZ0.out; have := HQ0.out; simp; omega) (hk2.alloc _).size ?_; intro v3 w3 hown3 hgrow3; have k3 : Kp wB w3 := Kp.grown (((Kp.refl wB).drew.trans hk2).alloc _) hgrow3 (fun k hk => by have := own2.ge k hk; simpa using this))
       | (refine step_append_flat rfl (.tmp 13) (.tmp 16) rfl stInt' encInt_len encInt_one rfl own2 rfl ((litInts (w := wB) [x1] _ rfl (by simp) 1 rfl).keep (pl_stable _) ((Kp.refl _).drew.trans hk2)) (by have := HZ0.out; have := HQ0.out; simp; omega) (by have := HZ0.out; have := HQ0.out; simp; omega) hk2.size ?_; intro v3 w3 hown3 hgrow3; have k3 : Kp wB w3 := Kp.grown (((Kp.refl wB).alloc _).drew.trans hk2) hgrow3 (fun k hk => by have := own2.ge k hk; simp at this; omega)))
   all_goals
     have own3 : Own encInt 3 1 wB.heap.size w3 v3 P1 := by rw [HP1.out]; exact hown3.less (by simp)
     go_wp2
     go_meet
     case rel => exact ⟨own3, k3⟩
  case rest =>
   obtain ⟨own1, k1⟩ := hcut
   clear hS
   obtain ⟨B1, e1, rfl, he1, hf1⟩ := own1.form
   obtain ⟨d2, d3, d4, d5, d6, hlt0⟩ := HCE.out _ k1
   go_wp2_with fail
   refine (nList_any _ x2 _ (p2.keep (pl_stable _) (kB.trans k1)) HQ2.out).mono ?_
   rintro e w2 ⟨vq2, rfl, own2, k2⟩
   have own12 := own1.kp k2
   have s2 := own2.sl encInt_len
   have k12 := k1.trans k2
   obtain ⟨B2, e2, rfl, he2, hf2⟩ := own2.form
   clear d2 d3 d4 d5 d6 hlt0 own2 own1
   obtain ⟨d2, d3, d4, d5, d6, hlt0⟩ := HCE.out _ k12
   go_wp2_with (first
     | (at_builtin; refine wpl_append_flat rfl (.tmp 18) (.tmp 21) rfl stInt' encInt_len encInt_one rfl own12 rfl s2 (by have := HZ2.out; have := HQ2.out; omega) (by have := HZ2.out; have := HQ2.out; omega) k12.size ?_; intro v3 w3 hown3 hgrow3 hat3 hnil3; have k3 : Kp wB w3 := Kp.grown k12 hgrow3 own12.ge; have own3 : Own encInt 3 1 wB.heap.size w3 v3 P2 := (by rw [HP2.out]; exact hown3); obtain ⟨B3, e3, rfl, he3, hf3⟩ := own3.form; clear d2 d3 d4 d5 d6 hlt0; obtain ⟨d2, d3, d4, d5, d6, hlt0⟩ := HCE.out _ k3)
     | (at_builtin; refine wpl_append_flat rfl (.tmp 23) (.tmp 27) rfl stInt' encInt_len encInt_one rfl (own3.alloc _) rfl (litInts [(x3.length : Int)] _ rfl (by simp) 1 rfl) (by simp; omega) (by simp; omega) (by have := k3.size; simp; omega) ?_; intro v4 w4 hown4 hgrow4 hat4 hnil4; have k4 : Kp wB w4 := Kp.grown (k3.alloc _) hgrow4 own3.ge; have own4 : Own encInt 3 1 wB.heap.size w4 v4 P3 := (by rw [HP3.out]; exact hown4)))
   clear hown3 hgrow3 hat3 hnil3 own3 k3 hown4 hgrow4 hat4 hnil4 own12 s2 k12 k1 k2 d2 d3 d4 d5 d6 hlt0
   go_loopw [3, 4] (fun v i wr => ∃ k : Nat, k ≤ x3.length ∧ i = .int .i64 k ∧ Own encInt 3 1 wB.heap.size wr v (P3 ++ (x3.take k).flatMap numMerged) ∧ Kp wB wr) (fun _ i _ => x3.length - (intOf i).toNat)
   case atStart => exact ⟨0, Nat.zero_le _, rfl, by simpa using own4, k4⟩
   case round =>
     clear own4 k4
     obtain ⟨k, hk, rfl, own, hkr⟩ := hrel
     obtain ⟨d2, d3, d4, d5, d6, hlt0⟩ := HCE.out _ hkr
     have hpr := p3.keep rdMerged_stable (kB.trans hkr)
     have HT := hid (flat_take_le numMerged x3 k)
     by_cases hlt : k < x3.length
     · obtain ⟨p, o, cs, rfl, hb, hcs, hq, hrd⟩ := p3.at_ hlt
       have hrg : wr.rangeAt p (o + k * 3) cs := fun j u hu => (kB.trans hkr).cellS (hq j u hu)
       have HH := hid hrg
       have HI := hid (there_new wr #[.bool false, .bool false, .slice none 0 0] 98 cs.toArray.size (by simpa using hcs.symm))
       have h1c : ∀ u ∈ cs, u.oneCell' = true := (merged_one hrd).2
       have HS := hid (flat_snoc numMerged x3 k hlt)
       have hyl : (numMerged x3[k]).length ≤ 1000000000 := by
         have := flat_take_le numMerged x3 (k + 1)
         rw [HS.out, List.length_append] at this
         have := HQ3.out
         omega
       have HLt := hid hlt
       have hwl := fun q hq => (World.ownsRow.lt own q hq).2
       have hBx := hid ((Bx.new wr #[.bool false, .bool false, .slice none 0 0] 98).all (cs := cs) (by rw [hcs]; rfl))
       have hkx := Kp.setCells (a := wr) (Nat.le_refl wr.heap.size) cs 0 _ ((Kp.refl wr).alloc (.cells #[.bool false, .bool false, .slice none 0 0] 98))
       generalize x3[k] = y at *
       obtain ⟨L, HLq, hLl⟩ : ∃ L, Hid (P3 ++ (x3.take k).flatMap numMerged = L) ∧ L.length ≤ 2000000000 := ⟨_, hid rfl, by have := HT.out; have := HQ3.out; rw [List.length_append]; omega⟩
       rw [HLq.out] at own
       obtain ⟨B1, e1, rfl, he1, hf1⟩ := own.form
       obtain ⟨pu, dr, ms⟩ := y
       have HC := hid hrd
       have hmsl : ms.length ≤ 1000000000 ∧ (ms.flatMap numMark).length ≤ 1000000000 := by
         simp only [numMerged, numL, List.length_append, List.length_cons, List.length_nil] at hyl
         have := flat_len (f := numMark) (by simp [numMark]) ms
         omega
       have HML := hid hmsl
       clear hrg hrd hq hpr hyl hmsl
       go_wp2_with (first
         | (refine wpList_load_mid rfl 98 (.tmp 40) rfl p (o + k * 3) rfl cs _ HH.out Try.underlying98 rfl (by rw [hcs]; kernel_rfl) ?_)
         | (refine wpList_load_mid rfl 98 (.tmp 39) rfl p (o + k * 3) rfl cs _ HH.out Try.underlying98 rfl (by rw [hcs]; kernel_rfl) ?_)
         | (refine wpList_store_mid rfl 98 (.tmp 5) (.tmp 40) rfl wr.heap.size 0 cs.toArray rfl rfl HI.out (by rw [List.size_toArray, hcs]; kernel_rfl) (all_oneCell_toArray h1c) ?_; have hB4 := hBx.out; have own2 := own.kp hkx; have hk2 := hkr.trans hkx; generalize (wr.alloc (.cells #[.bool false, .bool false, .slice none 0 0] 98)).setCells wr.heap.size 0 cs = w2 at *; clear hBx hkx HI; obtain ⟨vm, hcl, hMs⟩ := HC.out; subst hcl; obtain ⟨Am, cm, rfl, hcm, hmm⟩ := hMs.form; have g0 := hB4.cell (j := 0) rfl; have g1 := hB4.cell (j := 1) rfl; have g2 := hB4.cell (j := 2) rfl; have gl := block_lt_of_cell g0; clear HC HH))
       have hob : (Value.slice B1 L.length e1).ownBlock ≠ some wr.heap.size := fun h => by have := hwl _ h; omega
       refine wp_region_kw_tail1 (v := ?_) 10 (by kernel_rfl) (by kernel_rfl) (fun _ _ _ h => h) (Or.inl ⟨by rfl, ?_⟩) ?_
       rotate_left
       · intro w; go_simp; rfl
       simp only [List.take_succ_cons, List.take_zero, List.drop_succ_cons, List.drop_zero, Nat.add_one_sub_one, Act.put, List.setIfInBounds_toArray, List.set_cons_succ, List.set_cons_zero]
       repeat (go_big_quiet_step (((go_at_call 47; refine quiet_kw (nBool_any _ _)))))
       refine wpQuiet_nil ?_
       intro _ hw'
       obtain ⟨uu, hw''⟩ := hw'
       subst hw''
       have kq := kw_kp w2 uu
       generalize Kw w2 uu = w3 at *
       have own3 := own2.kp kq
       have hk3 := hk2.trans kq
       have g3 := kq.cellS g2
       have gl3 := block_lt_of_cell g3
       clear own2 hk2 kq g0 g1 g2 gl own
       obtain ⟨M, HM, hMl⟩ : ∃ M, Hid (L ++ [numB pu, numB dr, (ms.length : Int)] = M) ∧ M.length ≤ 2000000003 := ⟨_, hid rfl, by simp; omega⟩
       go_wp2_with (at_builtin; refine wpl_append_flat rfl (.tmp 41) (.tmp 51) rfl stInt' encInt_len encInt_one rfl (own3.alloc _) rfl (litInts [numB pu, numB dr, (ms.length : Int)] _ rfl (by simp) 3 rfl) (by simp; omega) (by simp; omega) (by have := hk3.size; simp; omega) ?_; intro v4 w4 hown4 hgrow4 hat4 hnil4)
       have k4 : Kp wB w4 := Kp.grown (hk3.alloc _) hgrow4 own3.ge
       have own4 : Own encInt 3 1 wB.heap.size w4 v4 M := by rw [← HM.out]; exact hown4
       have g4 : w4.cell? ⟨wr.heap.size, 2, none⟩ = some (.slice Am ms.length cm) := (World.cell?_of_block (hgrow4.block wr.heap.size (by simp; omega) (fun e => hob e.symm))).trans (((Kp.refl w3).alloc _).cellS g3)
       have ob4 : v4.ownBlock ≠ some wr.heap.size := by
         rcases hat4 with e | e
         · rw [e]; exact hob
         · rw [e]; intro h; injection h with h; simp at h; omega
       clear hown4 hgrow4 hat4 hnil4 own3 hk3 g3 gl3 hkr d2 d3 d4 d5 d6 hlt0
       generalize wr.heap.size = bm at *
       go_loopw [3, 6] (fun v i wi => ∃ j : Nat, j ≤ ms.length ∧ i = .int .i64 j ∧ Own encInt 3 1 wB.heap.size wi v (M ++ (ms.take j).flatMap numMark) ∧ Kp wB wi ∧ wi.cell? ⟨bm, 2, none⟩ = some (.slice Am ms.length cm) ∧ v.ownBlock ≠ some bm) (fun _ i _ => ms.length - (intOf i).toNat)
       case atStart => exact ⟨0, Nat.zero_le _, rfl, by simpa using own4, k4, g4, ob4⟩
       case round =>
         clear own4 k4 g4 ob4
         obtain ⟨j, hj, rfl, own, hkr, gc, hob2⟩ := hrel
         have gl := block_lt_of_cell gc
         have HT2 := hid (flat_take_le numMark ms j)
         obtain ⟨L2, HL2, hL2⟩ : ∃ L, Hid (M ++ (ms.take j).flatMap numMark = L) ∧ L.length ≤ 4000000003 := ⟨_, hid rfl, by have := HT2.out; have := HML.out; rw [List.length_append]; omega⟩
         by_cases hlt2 : j < ms.length
         · rw [HL2.out] at own
           obtain ⟨B2, e2, rfl, he2, hf2⟩ := own.form
           obtain ⟨p2', o2', cs2, rfl, hb2, hcs2, hq2, hrd2⟩ := hMs.at_ hlt2
           have HH := hid (show wr.rangeAt p2' (o2' + j * 4) cs2 from fun i u hu => (kB.trans hkr).cellS (hq2 i u hu))
           have HI := hid (there_new wr #[.int .i64 0, .int .i64 0, .int .i64 0, .int .i64 0] 101 cs2.toArray.size (by simpa using hcs2.symm))
           have h1c : ∀ u ∈ cs2, u.oneCell' = true := (mark_one hrd2).2
           have HS2 := hid (flat_snoc numMark ms j hlt2)
           have hBx := hid ((Bx.new wr #[.int .i64 0, .int .i64 0, .int .i64 0, .int .i64 0] 101).all (cs := cs2) (by rw [hcs2]; rfl))
           have hkx := Kp.setCells (a := wr) (Nat.le_refl wr.heap.size) cs2 0 _ ((Kp.refl wr).alloc (.cells #[.int .i64 0, .int .i64 0, .int .i64 0, .int .i64 0] 101))
           generalize ms[j] = z at *
           obtain ⟨y0, y1, y2, y3⟩ := z
           have HC := hid hrd2
           clear hrd2 hq2
           go_wp2_with (first
             | (refine wpList_load_mid rfl 101 (.tmp 64) rfl p2' (o2' + j * 4) rfl cs2 _ HH.out Try.underlying101 rfl (by rw [hcs2]; kernel_rfl) ?_)
             | (refine wpList_load_mid rfl 101 (.tmp 63) rfl p2' (o2' + j * 4) rfl cs2 _ HH.out Try.underlying101 rfl (by rw [hcs2]; kernel_rfl) ?_)
             | (refine wpList_store_mid rfl 101 (.tmp 7) (.tmp 64) rfl wr.heap.size 0 cs2.toArray rfl rfl HI.out (by rw [List.size_toArray, hcs2]; kernel_rfl) (all_oneCell_toArray h1c) ?_; have hB5 := hBx.out; have own5 := own.kp hkx; have hk5 := hkr.trans hkx; have gc5 := hkx.cellS gc; generalize (wr.alloc (.cells #[.int .i64 0, .int .i64 0, .int .i64 0, .int .i64 0] 101)).setCells wr.heap.size 0 cs2 = w5 at *; clear hBx hkx HI; have hcl := HC.out; unfold Pl encMark at hcl; subst hcl; have g0 := hB5.cell (j := 0) rfl; have g1 := hB5.cell (j := 1) rfl; have g2 := hB5.cell (j := 2) rfl; have g3 := hB5.cell (j := 3) rfl; clear hB5 HC HH)
             | (at_builtin; refine wpl_append_flat rfl (.tmp 65) (.tmp 74) rfl stInt' encInt_len encInt_one rfl (own5.alloc _) rfl (litInts [y0, y1, y2, y3] _ rfl (by simp) 4 rfl) (by simp; omega) (by simp; omega) (by have := hk5.size; simp; omega) ?_; intro v6 w6 hown6 hgrow6 hat6 hnil6))
           have gl5 : bm < w5.heap.size := block_lt_of_cell gc5
           have k6 : Kp wB w6 := Kp.grown (hk5.alloc _) hgrow6 own5.ge
           have g6 : w6.cell? ⟨bm, 2, none⟩ = some (.slice (some ⟨p2', o2', none⟩) ms.length cm) := (World.cell?_of_block (hgrow6.block bm (by simp; omega) (fun e => hob2 e.symm))).trans (((Kp.refl w5).alloc _).cellS gc5)
           have ob6 : v6.ownBlock ≠ some bm := by
             rcases hat6 with e | e
             · rw [e]; exact hob2
             · rw [e]; intro h; injection h with h; simp at h; omega
           go_roundw
           case rel => exact ⟨j + 1, by omega, by go_num, by rw [HS2.out, ← List.append_assoc, HL2.out]; simpa [numMark] using hown6, k6, g6, ob6⟩
           case measure => simp [intOf]; omega
         · have HF : Hid (M ++ (ms.take j).flatMap numMark = P3 ++ (x3.take (k + 1)).flatMap numMerged) := hid (by rw [List.take_of_length_le (by omega), HS.out, ← HM.out, ← HLq.out]; simp [numMerged, numL])
           rw [HF.out] at own
           obtain ⟨B2, e2, rfl, he2, hf2⟩ := own.form
           go_wp2
           go_roundw
           case rel => exact ⟨k + 1, by have := HLt.out; omega, by go_num, own, hkr⟩
           case measure => have := HLt.out; simp [intOf]; omega
     · have HF : Hid (P3 ++ (x3.take k).flatMap numMerged = P4) := hid (by rw [List.take_of_length_le (by omega), HP4.out])
       rw [HF.out] at own
       obtain ⟨B1, e1, rfl, he1, hf1⟩ := own.form
       go_wp2_with (at_builtin; refine wpl_append_flat rfl (.tmp 76) (.tmp 80) rfl stInt' encInt_len encInt_one rfl (own.alloc _) rfl (litInts [(x4.length : Int)] _ rfl (by simp) 1 rfl) (by simp; omega) (by simp; omega) (by have := hkr.size; simp; omega) ?_; intro v4 w4 hown4 hgrow4 hat4 hnil4; have k4 : Kp wB w4 := Kp.grown (hkr.alloc _) hgrow4 own.ge; have own4 : Own encInt 3 1 wB.heap.size w4 v4 P5 := (by rw [HP5.out]; exact hown4))
       clear hown4 hgrow4 hat4 hnil4 own hkr d2 d3 d4 d5 d6 hlt0 hpr hlt HT HF
       go_loopw [3, 8] (fun v i wr => ∃ k : Nat, k ≤ x4.length ∧ i = .int .i64 k ∧ Own encInt 3 1 wB.heap.size wr v (P5 ++ (x4.take k).flatMap numIs) ∧ Kp wB wr) (fun _ i _ => x4.length - (intOf i).toNat)
       case atStart => exact ⟨0, Nat.zero_le _, rfl, by simpa using own4, k4⟩
       case round =>
         clear own4 k4
         obtain ⟨j, hj, rfl, own, hkr⟩ := hrel
         obtain ⟨d2, d3, d4, d5, d6, hlt0⟩ := HCE.out _ hkr
         have HT := hid (flat_take_le numIs x4 j)
         by_cases hlt : j < x4.length
         · obtain ⟨p, o, Ax, cx, rfl, hb, h1', ht⟩ := p4.intss hlt
           have HS := hid (flat_snoc numIs x4 j hlt)
           have hyl : x4[j].length ≤ 1000000000 := by
             have := flat_take_le numIs x4 (j + 1)
             rw [HS.out, List.length_append, numIs_len] at this
             have := HQ4.out
             omega
           have h1 := (kB.trans hkr).cellS h1'
           have hbl := block_lt_of_cell h1
           generalize x4[j] = y at *
           obtain ⟨L, HLq, hLl⟩ : ∃ L, Hid (P5 ++ (x4.take j).flatMap numIs = L) ∧ L.length ≤ 2000000000 := ⟨_, hid rfl, by have := HT.out; have := HQ4.out; rw [List.length_append]; omega⟩
           rw [HLq.out] at own
           obtain ⟨B1, e1, rfl, he1, hf1⟩ := own.form
           go_wp2_with fail
           refine (nList_any _ y _ (ht.keep (pl_stable _) (kB.trans hkr)) hyl).mono ?_
           rintro e w2 ⟨vq2, rfl, own2, k2⟩
           have own12 := own.kp k2
           have s2 := own2.sl encInt_len
           have k12 := hkr.trans k2
           have HZy := hid (numIs_len y)
           obtain ⟨B2, e2, rfl, he2, hf2⟩ := own2.form
           go_wp2_with (at_builtin; refine wpl_append_flat rfl (.tmp 89) (.tmp 95) rfl stInt' encInt_len encInt_one rfl own12 rfl s2 (by have := HZy.out; omega) (by have := HZy.out; omega) k12.size ?_; intro v3 w3 hown3 hgrow3 hat3 hnil3; have k3 : Kp wB w3 := Kp.grown k12 hgrow3 own12.ge)
           go_roundw
           case rel => exact ⟨j + 1, by omega, by go_num, by rw [HS.out, ← List.append_assoc, HLq.out]; exact hown3, k3⟩
           case measure => simp [intOf]; omega
         · have HF : Hid (P5 ++ (x4.take j).flatMap numIs = P6) := hid (by rw [List.take_of_length_le (by omega), HP6.out])
           rw [HF.out] at own
           obtain ⟨B1, e1, rfl, he1, hf1⟩ := own.form
           go_wp2_with (at_builtin; refine wpl_append_flat rfl (.tmp 97) (.tmp 101) rfl stInt' encInt_len encInt_one rfl (own.alloc _) rfl (litInts [(x5.length : Int)] _ rfl (by simp) 1 rfl) (by simp; omega) (by simp; omega) (by have := hkr.size; simp; omega) ?_; intro v4 w4 hown4 hgrow4 hat4 hnil4; have k4 : Kp wB w4 := Kp.grown (hkr.alloc _) hgrow4 own.ge; have own4 : Own encInt 3 1 wB.heap.size w4 v4 P7 := (by rw [HP7.out]; exact hown4))
           clear hown4 hgrow4 hat4 hnil4 own hkr d2 d3 d4 d5 d6 hlt0 hlt HT HF
           go_loopw [3, 9] (fun v i wr => ∃ k : Nat, k ≤ x5.length ∧ i = .int .i64 k ∧ Own encInt 3 1 wB.heap.size wr v (P7 ++ (x5.take k).flatMap (numL numIs)) ∧ Kp wB wr) (fun _ i _ => x5.length - (intOf i).toNat)
           case atStart => exact ⟨0, Nat.zero_le _, rfl, by simpa using own4, k4⟩
           case round =>
             clear own4 k4
             obtain ⟨q, hq, rfl, own, hkr⟩ := hrel
             obtain ⟨d2, d3, d4, d5, d6, hlt0⟩ := HCE.out _ hkr
             have HT := hid (flat_take_le (numL numIs) x5 q)
             by_cases hlt : q < x5.length
             · obtain ⟨p, o, Ax, cx, rfl, hb, h1', ht⟩ := p5.intsss hlt
               have HS := hid (flat_snoc (numL numIs) x5 q hlt)
               have hyl : (x5[q].flatMap numIs).length ≤ 1000000000 := by
                 have := flat_take_le (numL numIs) x5 (q + 1)
                 rw [HS.out, List.length_append] at this
                 have e : (numL numIs x5[q]).length = (x5[q].flatMap numIs).length + 1 := by simp [numL]
                 have := HQ5.out
                 omega
               have HLt := hid hlt
               have h1 := (kB.trans hkr).cellS h1'
               have hbl := block_lt_of_cell h1
               generalize x5[q] = y at *
               obtain ⟨L, HLq, hLl⟩ : ∃ L, Hid (P7 ++ (x5.take q).flatMap (numL numIs) = L) ∧ L.length ≤ 2000000000 := ⟨_, hid rfl, by have := HT.out; have := HQ5.out; rw [List.length_append]; omega⟩
               rw [HLq.out] at own
               obtain ⟨B1, e1, rfl, he1, hf1⟩ := own.form
               obtain ⟨M, HM, hMl⟩ : ∃ M, Hid (L ++ [(y.length : Int)] = M) ∧ M.length ≤ 2000000001 := ⟨_, hid rfl, by simp; omega⟩
               have HYL := hid hyl
               have hy63 : y.length ≤ 9223372036854775807 := by
                 obtain ⟨A', c', he, h1, h2⟩ := ht.form
                 omega
               clear hyl
               go_wp2_with (at_builtin; refine wpl_append_flat rfl (.tmp 110) (.tmp 117) rfl stInt' encInt_len encInt_one rfl (own.alloc _) rfl (litInts [(y.length : Int)] _ rfl (by simp) 1 rfl) (by simp; omega) (by simp; omega) (by have := hkr.size; simp; omega) ?_; intro v4 w4 hown4 hgrow4 hat4 hnil4; have k4 : Kp wB w4 := Kp.grown (hkr.alloc _) hgrow4 own.ge; have own4 : Own encInt 3 1 wB.heap.size w4 v4 M := (by rw [← HM.out]; exact hown4))
               clear hown4 hgrow4 hat4 hnil4 own hkr d2 d3 d4 d5 d6 hlt0 h1 hbl
               go_loopw [3, 10] (fun v i wi => ∃ k : Nat, k ≤ y.length ∧ i = .int .i64 k ∧ Own encInt 3 1 wB.heap.size wi v (M ++ (y.take k).flatMap numIs) ∧ Kp wB wi) (fun _ i _ => y.length - (intOf i).toNat)
               case atStart => exact ⟨0, Nat.zero_le _, rfl, by simpa using own4, k4⟩
               case round =>
                 clear own4 k4
                 obtain ⟨r, hr, rfl, own, hkr⟩ := hrel
                 obtain ⟨d2, d3, d4, d5, d6, hlt0⟩ := HCE.out _ hkr
                 have h1 := (kB.trans hkr).cellS h1'
                 have hbl := block_lt_of_cell h1
                 have HT2 := hid (flat_take_le numIs y r)
                 by_cases hlt2 : r < y.length
                 · obtain ⟨p2', o2', Ay, cy, rfl, hb2, h2', ht2⟩ := ht.intss hlt2
                   have HS2 := hid (flat_snoc numIs y r hlt2)
                   have hzl : y[r].length ≤ 1000000000 := by
                     have := flat_take_le numIs y (r + 1)
                     rw [HS2.out, List.length_append, numIs_len] at this
                     have := HYL.out
                     omega
                   have h2 := (kB.trans hkr).cellS h2'
                   have hbl2 := block_lt_of_cell h2
                   generalize y[r] = z at *
                   obtain ⟨L2, HL2, hL2⟩ : ∃ L, Hid (M ++ (y.take r).flatMap numIs = L) ∧ L.length ≤ 4000000000 := ⟨_, hid rfl, by have := HT2.out; have := HYL.out; rw [List.length_append]; omega⟩
                   rw [HL2.out] at own
                   obtain ⟨B1, e1, rfl, he1, hf1⟩ := own.form
                   go_wp2_with fail
                   refine (nList_any _ z _ (ht2.keep (pl_stable _) (kB.trans hkr)) hzl).mono ?_
                   rintro e w2 ⟨vq2, rfl, own2, k2⟩
                   have own12 := own.kp k2
                   have s2 := own2.sl encInt_len
                   have k12 := hkr.trans k2
                   have HZy := hid (numIs_len z)
                   obtain ⟨B2, e2, rfl, he2, hf2⟩ := own2.form
                   go_wp2_with (at_builtin; refine wpl_append_flat rfl (.tmp 129) (.tmp 138) rfl stInt' encInt_len encInt_one rfl own12 rfl s2 (by have := HZy.out; omega) (by have := HZy.out; omega) k12.size ?_; intro v3 w3 hown3 hgrow3 hat3 hnil3; have k3 : Kp wB w3 := Kp.grown k12 hgrow3 own12.ge)
                   go_roundw
                   case rel => exact ⟨r + 1, by omega, by go_num, by rw [HS2.out, ← List.append_assoc, HL2.out]; exact hown3, k3⟩
                   case measure => simp [intOf]; omega
                 · have HF : Hid (M ++ (y.take r).flatMap numIs = P7 ++ (x5.take (q + 1)).flatMap (numL numIs)) := hid (by rw [List.take_of_length_le (by omega), HS.out, ← HM.out, ← HLq.out]; simp [numL])
                   rw [HF.out] at own
                   obtain ⟨B1, e1, rfl, he1, hf1⟩ := own.form
                   go_wp2
                   go_roundw
                   case rel => exact ⟨q + 1, by have := HLt.out; omega, by go_num, own, hkr⟩
                   case measure => have := HLt.out; simp [intOf]; omega
             · have HF : Hid (P7 ++ (x5.take q).flatMap (numL numIs) = P8) := hid (by rw [List.take_of_length_le (by omega), HP8.out])
               rw [HF.out] at own
               obtain ⟨B1, e1, rfl, he1, hf1⟩ := own.form
               go_wp2_with fail
               refine (nList_any _ x6 _ (p6.keep (pl_stable _) (kB.trans hkr)) HQ6.out).mono ?_
               rintro e w2 ⟨vq2, rfl, own2, k2⟩
               have own12 := own.kp k2
               have s2 := own2.sl encInt_len
               have k12 := hkr.trans k2
               obtain ⟨B2, e2, rfl, he2, hf2⟩ := own2.form
               go_wp2_with (at_builtin; refine wpl_append_flat rfl (.tmp 140) (.tmp 143) rfl stInt' encInt_len encInt_one rfl own12 rfl s2 (by have := HZ6.out; have := HQ6.out; omega) (by have := HZ6.out; have := HQ6.out; omega) k12.size ?_; intro v3 w3 hown3 hgrow3 hat3 hnil3; have k3 : Kp wB w3 := Kp.grown k12 hgrow3 own12.ge)
               go_ret
               exact ⟨_, rfl, by rw [HE.out]; exact hown3.less hsB, kB.trans k3⟩
end Go.Proofs.Ytmeafoakbkjifaa
