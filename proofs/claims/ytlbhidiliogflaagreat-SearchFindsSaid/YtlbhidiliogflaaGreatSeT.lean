
/-
Search: a search from the root, guarded: what it leaves.
-/
import Derived.Test.YtlbhidiliogflaaGreatSeO
import Derived.Test.YtlbhidiliogflaaGreatSeG
namespace Go.Proofs.YtlbhidiliogflaaGreat
set_option linter.unusedSimpArgs false
set_option linter.unusedVariables false
open Go.RowKit

theorem RootR.le {w w' : World} {n m b c : Nat} {vb : Value} {bw : Nat} {x0 x1 x2 x3 : Value} {F : NR} {e : Ending} (h : RootR w n b c vb bw x0 x1 x2 x3 F e w') (hn : n ≤ m) : RootR w m b c vb bw x0 x1 x2 x3 F e w' := by
  cases F with
  | out => exact h
  | sol vs i d => exact h
  | ref t d =>
    obtain ⟨h1, h2, h3, y0, y1, y2, y3, y4, h4, h5⟩ := h
    exact ⟨h1, h2, h3, y0, y1, y2, y3, y4, h4, h5.imp fun _ h => rdTr_le hn h⟩
theorem top_any (bw : Nat) (x0 : Value) (Ag Ar Acs : Option Addr) (cg cr ccs : Nat) (s : Sys) (b : Nat) (vb : Value) (X : Nat → Prop) (css : List (Elm 2)) (csg : List (Elm 3)) (csC : List (Elm 1)) (cssC : Nat → List (Elm 2)) (w : World)
    (hW : Bx w bw [x0, .slice Ar s.rows.length cr, .slice Ag s.graphs.length cg, .slice Acs s.cases.length ccs, .slice Ar s.rows.length cr, .int .i64 (b : Int), .int .i64 ((0 : Nat) : Int)]) (hO : Own encRng 57 2 0 w vb s.box)
    (hne : ∀ q, vb.ownBlock = some q → q ≠ bw) (hXw : X bw) (hXb : ∀ q, vb.ownBlock = some q → X q)
    (hD : OwF X w (fun W => PData css csg (.slice Ar s.rows.length cr) (.slice Ag s.graphs.length cg) s.rows s.graphs W ∧ CRaw csC cssC (.slice Acs s.cases.length ccs) s.cases W))
    (hb : b ≤ 65536) (hV : validS s = true) (hcs1 : s.cases.length ≤ 100000) (hrl : s.rows.length ≤ 10000) (hcl : ∀ l ∈ s.cases, l.length ≤ 10000) :
    Calls Tryz.prog 20 #[.pointer (some ⟨bw, 0, none⟩), vb, .int .i64 (-1)] w (RootR w (b + 1) b 0 vb bw x0 (.slice Ar s.rows.length cr) (.slice Ag s.graphs.length cg) (.slice Acs s.cases.length ccs) (rootF s b)) := by
  obtain ⟨g1, g2, g3, g4, g5⟩ := sys_parts hV
  by_cases hc : s.cases.length = 0
  · have e : rootF s b = nodeF s.rows s.graphs b s.box b := by
      rw [rootF, if_pos (by rw [List.isEmpty_iff_length_eq_zero]; exact hc)]
    rw [e]
    have h := node_any b bw x0 (.slice Ar s.rows.length cr) Ag Ar Acs cg cr s.cases.length ccs s.rows s.graphs s.box.length b 0 vb s.box (-1) X css csg w hW hO hne hXw hXb (hD.imp fun _ h => h.1) (Nat.zero_le _) hb g4 g1 g2 g3 (.inl hc) (by omega) (by omega) hcs1 (by omega)
    refine h.mono fun e w' hN => ?_
    exact (NodeR.root hN (by omega) fun vs i d e => nodeF_idx _ _ _ _ _ e).le (Nat.le_succ _)
  · have h := root_any bw x0 Ag Ar Acs cg cr ccs s.rows s.graphs s.cases s.box.length b 0 vb s.box X css csg csC cssC w hW hO hne hXw hXb hD (Nat.zero_le _) hb g4 g1 g2 g3 g5 (by omega) hcs1 hrl hcl
    exact h
/-- what Find's closure leaves in its variable -/
def FindQ (b bw p7 : Nat) (x0 x1 x2 x3 : Value) (F : NR) (w w' : World) : Prop :=
  Fx (fun q => q = bw ∨ q = p7) w w' ∧
  match F with
  | .out => False
  | .sol vs i d => d ≤ b ∧ (∃ x4, Bx w' bw [x0, x1, x2, x3, x4, .int .i64 (b : Int), .int .i64 (d : Int)]) ∧ ∃ g cp, Bx w' p7 [.slice (some ⟨g, 0, none⟩) vs.length cp, .int .i64 (i : Int), .int .i64 0, .slice none 0 0, .int .i64 0, .int .i64 0, .slice none 0 0] ∧ w.heap.size ≤ g ∧ OwF (fun q => q < w.heap.size) w' fun w2 => Ints w2 (.slice (some ⟨g, 0, none⟩) vs.length cp) vs
  | .ref t d => d ≤ b ∧ (∃ x4, Bx w' bw [x0, x1, x2, x3, x4, .int .i64 (b : Int), .int .i64 (d : Int)]) ∧ ∃ k c a A1 A2 n1 c1 n2 c2, Bx w' p7 [.slice none 0 0, .int .i64 0, .int .i64 k, .slice A1 n1 c1, .int .i64 c, .int .i64 a, .slice A2 n2 c2] ∧ OwF (fun q => q < w.heap.size) w' fun w2 => rdTr (b + 1) w2 [.int .i64 k, .slice A1 n1 c1, .int .i64 c, .int .i64 a, .slice A2 n2 c2] t
set_option maxRecDepth 8000 in
set_option maxHeartbeats 8000000 in
theorem find1_any (p6 p2 p7 bw : Nat) (Ag Ar Ab Acs : Option Addr) (cg cr cb ccs : Nat) (s : Sys) (b : Nat) (X : Nat → Prop) (css : List (Elm 2)) (csg : List (Elm 3)) (csC : List (Elm 1)) (cssC : Nat → List (Elm 2)) (w : World)
    (hW : Bx w bw [.slice Ab s.box.length cb, .slice Ar s.rows.length cr, .slice Ag s.graphs.length cg, .slice Acs s.cases.length ccs, .slice Ar s.rows.length cr, .int .i64 (b : Int), .int .i64 ((0 : Nat) : Int)])
    (h6 : w.cell? ⟨p6, 0, none⟩ = some (.pointer (some ⟨bw, 0, none⟩))) (h2 : w.cell? ⟨p2, 0, none⟩ = some (.slice Ab s.box.length cb)) (h7 : Bx w p7 [.slice none 0 0, .int .i64 0, .int .i64 0, .slice none 0 0, .int .i64 0, .int .i64 0, .slice none 0 0]) (hn7 : bw ≠ p7 ∧ p6 ≠ bw ∧ p2 ≠ bw) (hn7p : p6 ≠ p7 ∧ p2 ≠ p7) (hbx : Rngs w (.slice Ab s.box.length cb) s.box)
    (hXw : X bw) (hX2 : ∀ q, w.heap.size ≤ q → X q)
    (hD : OwF X w (fun W => PData css csg (.slice Ar s.rows.length cr) (.slice Ag s.graphs.length cg) s.rows s.graphs W ∧ CRaw csC cssC (.slice Acs s.cases.length ccs) s.cases W))
    (hb : b ≤ 65536) (hV : validS s = true) (hcs1 : s.cases.length ≤ 100000) (hrl : s.rows.length ≤ 10000) (hcl : ∀ l ∈ s.cases, l.length ≤ 10000) :
    Calls Tryz.prog 19 #[.pointer (some ⟨p6, 0, none⟩), .pointer (some ⟨p2, 0, none⟩), .pointer (some ⟨p7, 0, none⟩)] w fun e w' =>
      (e = .returned (.tuple #[]) ∧ FindQ b bw p7 (.slice Ab s.box.length cb) (.slice Ar s.rows.length cr) (.slice Ag s.graphs.length cg) (.slice Acs s.cases.length ccs) (rootF s b) w w') ∨
      (e = .panicked Pn ∧ rootF s b = .out ∧ Fx (fun q => q = bw ∨ q = p7) w w') := by
  obtain ⟨g1, -⟩ := sys_parts hV
  have kd : Kp w w.drew := (Kp.refl w).drew
  have hl := hW.lt (by simp)
  have hl7 := h7.lt (by simp)
  have hl6 := block_lt_of_cell h6
  have hl2 := block_lt_of_cell h2
  obtain ⟨F, hF⟩ : ∃ F, Hid (rootF s b = F) := ⟨_, hid rfl⟩
  rw [hF.out]
  go_enter Tryz.func19, Tryz.ntmps19
  refine wp_region_held_drew (S := fun W => W.cell? ⟨p6, 0, none⟩ = some (.pointer (some ⟨bw, 0, none⟩)) ∧ W.cell? ⟨p2, 0, none⟩ = some (.slice Ab s.box.length cb)) (by kernel_rfl) ⟨kd.cellS h6, kd.cellS h2⟩ (fun hHeld => ?_)
  refine take_at 0 3 (v := ?_) rfl rfl (by kernel_rfl) (by kernel_rfl) (by kernel_rfl) (fun _ _ _ h => h) hHeld (Or.inl ⟨by kernel_rfl, ?_⟩) ?_
  rotate_left
  · intro w hSw; (try dsimp only at hSw); go_simp; try with_reducible rfl
  simp only [Act.put, List.setIfInBounds_toArray, List.set_cons_zero, List.set_cons_succ]
  refine take_at 1 4 (v := ?_) rfl rfl (by kernel_rfl) (by kernel_rfl) (by kernel_rfl) (fun _ _ _ h => h) hHeld (Or.inl ⟨by kernel_rfl, ?_⟩) ?_
  rotate_left
  · intro w hSw; (try dsimp only at hSw); go_simp; try with_reducible rfl
  simp only [Act.put, List.setIfInBounds_toArray, List.set_cons_zero, List.set_cons_succ]
  refine take_at 2 5 (v := ?_) rfl rfl (by kernel_rfl) (by kernel_rfl) (by kernel_rfl) (fun _ _ _ h => h) hHeld (Or.inl ⟨by kernel_rfl, ?_⟩) ?_
  rotate_left
  · intro w hSw; (try dsimp only at hSw); go_simp; try with_reducible rfl
  simp only [Act.put, List.setIfInBounds_toArray, List.set_cons_zero, List.set_cons_succ]
  generalize w.drew = w1 at *
  refine wpAnyH_ready (rs := [3]) (by kernel_rfl) (by simp) ?_
  refine AllReadyH.cons (o := _) rfl (fun K hK => ?_) AllReadyH.nil
  go_simp
  refine (CloneRange_any _ s.box w1 (hbx.keep (pl_stable _) kd) (by omega)).mono ?_
  rintro e w2 ⟨vh, rfl, hOh, k2⟩
  refine hK.out _ _ (⟨k2.cellS hHeld.1, k2.cellS hHeld.2⟩) (fun hHeld2 => ?_)
  clear hK K hHeld
  have hHeld := hHeld2
  clear hHeld2
  try simp only [Act.put, List.setIfInBounds_toArray, List.set_cons_zero, List.set_cons_succ]
  have k02 := kd.trans k2
  have hgh : ∀ q, vh.ownBlock = some q → w.heap.size ≤ q := fun q hq => Nat.le_trans kd.size (hOh.ge q hq)
  have hTOP := top_any bw (.slice Ab s.box.length cb) Ag Ar Acs cg cr ccs s b vh X css csg csC cssC w2 (hW.kp k02 hl) (hOh.less (Nat.zero_le _)) (fun q hq => by have := hgh q hq; omega) hXw (fun q hq => hX2 q (hgh q hq)) (hD.fx (k02.fx _)) hb hV hcs1 hrl hcl
  rw [hF.out] at hTOP
  have h72 := h7.kp k02 hl7
  refine wpAnyH_ready (rs := [4]) (by kernel_rfl) (by simp) ?_
  refine AllReadyH.cons (o := _) rfl (fun K hK => ?_) AllReadyH.nil
  go_simp
  refine hTOP.mono ?_
  rintro e w3 hN
  have hkn : ∀ (h : Fx (PW bw vh) w2 w3), Fx (fun q => q = bw) w w3 := fun h => (k02.fx (fun q => q = bw)).thru h (fun q hq e => by
    rcases e with e | e
    · exact e
    · have := hgh q e
      omega)
  have hp6 : ∀ (h : Fx (PW bw vh) w2 w3), w3.cell? ⟨p6, 0, none⟩ = some (.pointer (some ⟨bw, 0, none⟩)) := fun h => (hkn h).cellS h6 hn7.2.1
  have hp2 : ∀ (h : Fx (PW bw vh) w2 w3), w3.cell? ⟨p2, 0, none⟩ = some (.slice Ab s.box.length cb) := fun h => (hkn h).cellS h2 hn7.2.2
  have h73 : ∀ (h : Fx (PW bw vh) w2 w3), Bx w3 p7 [.slice none 0 0, .int .i64 0, .int .i64 0, .slice none 0 0, .int .i64 0, .int .i64 0, .slice none 0 0] := fun h => h7.fx (hkn h) hl7 (fun e => hn7.1 e.symm)
  cases F with
  | out =>
    obtain ⟨rfl, k3⟩ := hN
    have kE := (hkn k3).mono (Y := fun q => q = bw ∨ q = p7) fun q _ e => .inl e
    replace kE := hid kE
    clear hkn hp6 hp2 h73
    try simp only [Exit.inBlock, Exit.then]
    exact ⟨rfl, .inr ⟨rfl, trivial, kE.out⟩⟩
  | sol vs i d =>
    obtain ⟨hcd, k3, ⟨x4, hWN⟩, g, cp, rfl, hOv⟩ := hN
    rw [Nat.zero_add] at hcd hWN
    have hE7 := h73 k3
    have hk3 := hkn k3
    have hc6 := hp6 k3
    have hc2 := hp2 k3
    obtain ⟨vl, hvl⟩ : ∃ vl, Hid (vl = vs.length) := ⟨_, hid rfl⟩
    rw [← hvl.out] at hOv
    replace hcd := hid hcd
    have hgg := hOv.ge g rfl
    have hgl := hOv.blk_lt g rfl
    have hz2 := k02.size
    have hgn : g ≠ bw ∧ g ≠ p7 := ⟨by omega, by omega⟩
    have hgw : w.heap.size ≤ g := Nat.le_trans hz2 hgg
    clear hkn hp6 hp2 h73 h72
    refine hK.out _ _ (⟨hc6, hc2⟩) (fun hHeld2 => ?_)
    clear hK K hHeld
    have hHeld := hHeld2
    clear hHeld2
    try simp only [Act.put, List.setIfInBounds_toArray, List.set_cons_zero, List.set_cons_succ]
    refine wpAnyH_ready (rs := [5]) (by kernel_rfl) (by simp) ?_
    refine AllReadyH.cons (o := _) rfl (fun K hK => ?_) AllReadyH.nil
    go_simp
    have y0 := (hE7).cell (j := 0) rfl
    have y1 := (hE7).cell (j := 1) rfl
    have y2 := (hE7).cell (j := 2) rfl
    have y3 := (hE7).cell (j := 3) rfl
    have y4 := (hE7).cell (j := 4) rfl
    have y5 := (hE7).cell (j := 5) rfl
    have y6 := (hE7).cell (j := 6) rfl
    have f0 := (hE7).free (j := 0) (by simp)
    have f1 := (hE7).free (j := 1) (by simp)
    have f2 := (hE7).free (j := 2) (by simp)
    have f3 := (hE7).free (j := 3) (by simp)
    have f4 := (hE7).free (j := 4) (by simp)
    have f5 := (hE7).free (j := 5) (by simp)
    have f6 := (hE7).free (j := 6) (by simp)
    go_simp
    rw [← hvl.out]
    have BE := hE7.all (cs := [.slice (some ⟨g, 0, none⟩) vl cp, .int .i64 (i : Int), .int .i64 0, .slice none 0 0, .int .i64 0, .int .i64 0, .slice none 0 0]) rfl
    change K _ (w3.setCells p7 0 [.slice (some ⟨g, 0, none⟩) vl cp, .int .i64 (i : Int), .int .i64 0, .slice none 0 0, .int .i64 0, .int .i64 0, .slice none 0 0])
    have kS : Fx (fun q => q = p7) w3 (w3.setCells p7 0 [.slice (some ⟨g, 0, none⟩) vl cp, .int .i64 (i : Int), .int .i64 0, .slice none 0 0, .int .i64 0, .int .i64 0, .slice none 0 0]) := setsFx p7 0 _ _ (Fx.refl _ _) (.inl rfl)
    have hWE := hWN.fx kS (hWN.lt (by simp)) (fun e => hn7.1 e)
    have kE : Fx (fun q => q = bw ∨ q = p7) w (w3.setCells p7 0 [.slice (some ⟨g, 0, none⟩) vl cp, .int .i64 (i : Int), .int .i64 0, .slice none 0 0, .int .i64 0, .int .i64 0, .slice none 0 0]) := (hk3.mono fun q _ e => .inl e).trans (kS.mono fun q _ e => .inr e)
    have hne6 : p6 ≠ p7 := hn7p.1
    have hne2 : p2 ≠ p7 := hn7p.2
    have hc6' := kS.cellS hc6 hne6
    have hc2' := kS.cellS hc2 hne2
    generalize w3.setCells p7 0 [.slice (some ⟨g, 0, none⟩) vl cp, .int .i64 (i : Int), .int .i64 0, .slice none 0 0, .int .i64 0, .int .i64 0, .slice none 0 0] = wE at *
    clear y0 y1 y2 y3 y4 y5 y6 f0 f1 f2 f3 f4 f5 f6
    refine hK.out _ _ (⟨hc6', hc2'⟩) (fun hHeld2 => ?_)
    clear hK K hHeld
    have hHeld := hHeld2
    clear hHeld2
    try simp only [Act.put, List.setIfInBounds_toArray, List.set_cons_zero, List.set_cons_succ]
    refine wpAnyH_done (by kernel_rfl) ?_ _
    try simp only [Exit.inBlock, Exit.then]
    go_end0
    have hOE := hOv.fx kS (fun q hq e => by
      have : g = q := by simpa [Value.ownBlock] using hq
      exact hgn.2 (this.trans e))
    refine .inl ⟨rfl, kE, hcd.out, ⟨_, hWE⟩, g, cp, ?_, hgw, ?_⟩
    · rw [← hvl.out]
      exact BE
    · rw [← hvl.out]
      exact (OwF.own hOE (fun q hq => by
        have : g = q := by simpa [Value.ownBlock] using hq
        omega)).imp fun _ h => h.sl encInt_len
  | ref t d =>
    obtain ⟨hcd, k3, ⟨x4, hWN⟩, q0, q1, q2, q3, q4, rfl, hT⟩ := hN
    rw [Nat.zero_add] at hcd hWN
    have hE7 := h73 k3
    have hk3 := hkn k3
    have hc6 := hp6 k3
    have hc2 := hp2 k3
    obtain ⟨p0, p2', p3, A1, A4, n1, c1, n4, c4, rfl, rfl, rfl, rfl, rfl⟩ := rdTr_form hT.here
    replace hcd := hid hcd
    have hz2 := k02.size
    clear hkn hp6 hp2 h73 h72
    refine hK.out _ _ (⟨hc6, hc2⟩) (fun hHeld2 => ?_)
    clear hK K hHeld
    have hHeld := hHeld2
    clear hHeld2
    try simp only [Act.put, List.setIfInBounds_toArray, List.set_cons_zero, List.set_cons_succ]
    refine wpAnyH_ready (rs := [5]) (by kernel_rfl) (by simp) ?_
    refine AllReadyH.cons (o := _) rfl (fun K hK => ?_) AllReadyH.nil
    go_simp
    have y0 := (hE7).cell (j := 0) rfl
    have y1 := (hE7).cell (j := 1) rfl
    have y2 := (hE7).cell (j := 2) rfl
    have y3 := (hE7).cell (j := 3) rfl
    have y4 := (hE7).cell (j := 4) rfl
    have y5 := (hE7).cell (j := 5) rfl
    have y6 := (hE7).cell (j := 6) rfl
    have f0 := (hE7).free (j := 0) (by simp)
    have f1 := (hE7).free (j := 1) (by simp)
    have f2 := (hE7).free (j := 2) (by simp)
    have f3 := (hE7).free (j := 3) (by simp)
    have f4 := (hE7).free (j := 4) (by simp)
    have f5 := (hE7).free (j := 5) (by simp)
    have f6 := (hE7).free (j := 6) (by simp)
    go_simp
    have BE := hE7.all (cs := [.slice none 0 0, .int .i64 0, .int .i64 p0, .slice A1 n1 c1, .int .i64 p2', .int .i64 p3, .slice A4 n4 c4]) rfl
    change K _ (w3.setCells p7 0 [.slice none 0 0, .int .i64 0, .int .i64 p0, .slice A1 n1 c1, .int .i64 p2', .int .i64 p3, .slice A4 n4 c4])
    have kS : Fx (fun q => q = p7) w3 (w3.setCells p7 0 [.slice none 0 0, .int .i64 0, .int .i64 p0, .slice A1 n1 c1, .int .i64 p2', .int .i64 p3, .slice A4 n4 c4]) := setsFx p7 0 _ _ (Fx.refl _ _) (.inl rfl)
    have hWE := hWN.fx kS (hWN.lt (by simp)) (fun e => hn7.1 e)
    have kE : Fx (fun q => q = bw ∨ q = p7) w (w3.setCells p7 0 [.slice none 0 0, .int .i64 0, .int .i64 p0, .slice A1 n1 c1, .int .i64 p2', .int .i64 p3, .slice A4 n4 c4]) := (hk3.mono fun q _ e => .inl e).trans (kS.mono fun q _ e => .inr e)
    have hne6 : p6 ≠ p7 := hn7p.1
    have hne2 : p2 ≠ p7 := hn7p.2
    have hc6' := kS.cellS hc6 hne6
    have hc2' := kS.cellS hc2 hne2
    generalize w3.setCells p7 0 [.slice none 0 0, .int .i64 0, .int .i64 p0, .slice A1 n1 c1, .int .i64 p2', .int .i64 p3, .slice A4 n4 c4] = wE at *
    clear y0 y1 y2 y3 y4 y5 y6 f0 f1 f2 f3 f4 f5 f6
    refine hK.out _ _ (⟨hc6', hc2'⟩) (fun hHeld2 => ?_)
    clear hK K hHeld
    have hHeld := hHeld2
    clear hHeld2
    try simp only [Act.put, List.setIfInBounds_toArray, List.set_cons_zero, List.set_cons_succ]
    refine wpAnyH_done (by kernel_rfl) ?_ _
    try simp only [Exit.inBlock, Exit.then]
    go_end0
    have hTE := (hT.mono (Y := fun q => q < w.heap.size) fun q hq => Nat.lt_of_lt_of_le hq hz2).fx (kS.mono fun q _ e => by
      have e : q = p7 := e
      show q < w.heap.size
      omega)
    refine .inl ⟨rfl, kE, hcd.out, ⟨_, hWE⟩, p0, p2', p3, A1, A4, n1, c1, n4, c4, BE, hTE⟩
end Go.Proofs.YtlbhidiliogflaaGreat
