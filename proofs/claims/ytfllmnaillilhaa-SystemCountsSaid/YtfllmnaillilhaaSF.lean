/-
A range over a function whose rounds are handed lists of integers: what the caller owes.
All values in a box, handed out one by one: the iterator's walk.
Count: the walk.
-/
import Derived.Test.YtfllmnaillilhaaSE
import Derived.Test.YtfllmnaillilhaaPA
import Derived.RangeFuncLeaves
import Derived.RangeFuncKeeps
import Derived.OwnWalkIn
import Derived.TacticsInMore
namespace Go.Proofs.Ytfllmnaillilhaa
set_option linter.unusedSimpArgs false
set_option linter.unusedVariables false
open Go.RowKit

theorem Kg.putObj (W : World) (l : Nat) (o : Obj) : Kg W (W.putObj l o) l := grownBy_putObj' W l o
theorem Kb.putObj {g b : Nat} {w w' : World} (h : Kb g b w w') (o : Obj) : Kb g b w (w'.putObj b o) :=
  ⟨h.os, h.tape, h.output, Nat.le_trans h.size (Kg.putObj w' b o).size, fun k hk h1 h2 => (World.putObj_heap_other h2).trans (h.block k hk h1 h2)⟩
theorem ints_putObj {W : World} {l : Nat} {r : Loop} (o : Obj) {v : Value} {vs : List Int} (h : Ints W v vs) (hl : W.heap[l]? = some (.loop r)) : Ints (W.putObj l o) v vs := by
  obtain ⟨A, c, rfl, h1, h2, h3⟩ := h
  refine ⟨A, c, rfl, h1, h2, fun k hk => ?_⟩
  obtain ⟨b, o', cs, hA, hb, hcs, hc, hr⟩ := h3 k hk
  have hne : b ≠ l := by
    rintro rfl
    have hr' := hr
    unfold Pl encInt at hr'
    subst hr'
    have := hc 0 _ rfl
    simp [World.cell?, hl] at this
  exact ⟨b, o', cs, hA, Nat.lt_of_lt_of_le hb (Kg.putObj W l o).size, hcs, fun j u hu => (World.cell?_of_block (World.putObj_heap_other hne)).trans (hc j u hu), hr⟩
theorem deferred_putObj {W : World} {l D : Nat} {o : Obj} (h : W.heap[D]? = some (.deferred (some []))) (hne : D ≠ l) : (W.putObj l o).heap[D]? = some (.deferred (some [])) := (World.putObj_heap_other hne).trans h
section
variable {F : Fence} {n : Nat} {P : Program}
/-- the iterator hands out these lists, one by one, whatever the rounds do to the blocks bn and l -/
def Hands (F : Fence) (n : Nat) (P : Program) (gf : Nat) (lb : Array Value) (bn : Nat) (all : List (List Int)) (w : World) : Prop :=
  ∀ (l : Nat) (J : List (List Int) → World → Prop) (W : World), Kp w W → w.heap.size ≤ l → l < W.heap.size → (∀ s A B, J s A → Kp A B → J s B) →
    (∀ pre x v W1, J pre W1 → Ints W1 v x → (∃ rest, all = pre ++ x :: rest) → YieldAt F (n - 1) P l #[v] W1 fun e W' => e = .returned (.bool true) ∧ J (pre ++ [x]) W' ∧ Kb bn l W1 W') →
    J [] W → CallsIn F n P gf (#[.func (.yield l) #[] #[]] ++ lb) W fun e W' => (∃ v, e = .returned v) ∧ J all W'
theorem wpIn_rangeInts {g : Operand} {t : Tmp} {assign body : Code} {Q : Exit → Act → World → Prop} {a : Act} {w : World} (hro : F.round = none) (h1 : 1 ≤ n) {gf : Nat} {lb : Array Value}
    (hg : a.eval g = .func (.func gf) #[] lb) (hFg : F.fn gf) (eg : ∀ args w, (callFunc gf args).run P w = .ok (.enter gf args) w) {bn : Nat} {all : List (List Int)} (hseq : Hands F (n - 1) P gf lb bn all w) (hbn : bn < w.heap.size)
    (I : List (List Int) → World → Prop) (hI : ∀ l s A B, w.heap.size ≤ l → I s A → Kg A B l → I s B) (h0 : I [] w) (a1 : Value → Act)
    (hassign : ∀ l v W (K : Act → World → Prop), K (a1 v) W → assign.wpIn (F.inRound l) (n - 1 - 1) P (Exit.then K fun _ _ _ => False) { tmps := a.tmps.setIfInBounds t v, defers := [] } W)
    (hbody : ∀ l pre x v W, w.heap.size ≤ l → I pre W → Ints W v x → (∃ rest, all = pre ++ x :: rest) → body.wpIn (F.inRound l) (n - 1 - 1) P (fun e _ W' => e = .normal ∧ Kg W W' bn ∧ I (pre ++ [x]) W') (a1 v) W)
    (hdone : ∀ D W, w.heap.size ≤ D → I all W → W.heap[D]? = some (.deferred (some [])) → Q .normal { a with defers := { target := .collected D, args := #[] } :: a.defers } W) :
    (Code.rangeFunc g #[t] assign body).wpIn F n P Q a w := by
  refine wpIn_rangeFunc fun fn hfn => ?_
  rw [hro]
  have kA := ((Kp.refl w).alloc (.deferred (some []))).alloc (.loop { state := .ready, pending := none, fn := fn, tmps := a.tmps, params := #[t], assign := assign, body := body, defers := w.heap.size })
  have hrun := run_enterLoop_outer (P := P) (w := w) fn a.tmps #[t] assign body
  have hL1 := heap_alloc_new (w.alloc (.deferred (some []))) (.loop { state := .ready, pending := none, fn := fn, tmps := a.tmps, params := #[t], assign := assign, body := body, defers := w.heap.size })
  have hD1 := (heap_alloc_old (w.alloc (.deferred (some []))) (.loop { state := .ready, pending := none, fn := fn, tmps := a.tmps, params := #[t], assign := assign, body := body, defers := w.heap.size }) (r := w.heap.size) (by simp)).trans (heap_alloc_new w _)
  have hlt : w.heap.size + 1 < ((w.alloc (.deferred (some []))).alloc (.loop { state := .ready, pending := none, fn := fn, tmps := a.tmps, params := #[t], assign := assign, body := body, defers := w.heap.size })).heap.size := by simp
  rw [World.size_alloc] at hL1
  generalize (w.alloc (.deferred (some []))).alloc (.loop { state := .ready, pending := none, fn := fn, tmps := a.tmps, params := #[t], assign := assign, body := body, defers := w.heap.size }) = w1 at *
  have hI1 : I [] w1 := hI _ _ _ _ (Nat.le_refl _) h0 (kA.kg w.heap.size)
  obtain ⟨l, hl⟩ : ∃ l, l = w.heap.size + 1 := ⟨_, rfl⟩
  rw [← hl] at hrun hL1 hlt
  refine ⟨l, _, w1, { target := .fn (.func gf) lb, args := #[.func (.yield l) #[] #[]] }, w1, gf, #[.func (.yield l) #[] #[]] ++ lb, w1, hrun, ?_, ?_, ?_, fun _ => h1, ?_⟩
  · simp only [resolve, hg]
    simp [go_sem]
  · intro f' hf'
    simp [Target.leads] at hf'
    subst hf'
    exact hFg
  · simp [invoke, go_sem, eg]
  refine (hseq l (fun pre W => I pre W ∧ W.heap[l]? = some (.loop { state := .ready, pending := none, fn := fn, tmps := a.tmps, params := #[t], assign := assign, body := body, defers := w.heap.size }) ∧ W.heap[w.heap.size]? = some (.deferred (some [])) ∧ w.heap.size ≤ W.heap.size) w1 kA (by omega) hlt ?_ ?_ ⟨hI1, hL1, hD1, kA.size⟩).mono ?_
  · rintro s A B ⟨i1, i2, i3, i4⟩ hk
    refine ⟨hI _ _ _ _ i4 i1 (hk.kg A.heap.size), ?_, ?_, Nat.le_trans i4 hk.size⟩
    · rw [hk.block (Array.getElem?_eq_some_iff.1 i2).1]; exact i2
    · rw [hk.block (Array.getElem?_eq_some_iff.1 i3).1]; exact i3
  · rintro pre x v W ⟨i1, i2, i3, i4⟩ hv hx
    have hlW := (Array.getElem?_eq_some_iff.1 i2).1
    refine ⟨fn, _, assign, body, run_yield (P := P) (args := #[v]) i2 rfl, roundIn_of_wpIn hfn ?_⟩
    have e : (#[t].zip #[v]).foldl (fun tmps (x : Tmp × Value) => tmps.setIfInBounds x.1 x.2) a.tmps = a.tmps.setIfInBounds t v := by simp
    rw [show ((({ state := .ready, pending := none, fn := fn, tmps := a.tmps, params := #[t], assign := assign, body := body, defers := w.heap.size } : Loop).params.zip #[v]).foldl (fun tmps (t, a) => tmps.setIfInBounds t a) ({ state := .ready, pending := none, fn := fn, tmps := a.tmps, params := #[t], assign := assign, body := body, defers := w.heap.size } : Loop).tmps) = a.tmps.setIfInBounds t v from e]
    refine hassign l v W _ ⟨_, run_beginRound i2 rfl, ?_⟩
    refine wpIn_mono (hbody l pre x v _ (by omega) (hI _ _ _ _ (by omega) i1 (Kg.putObj W l _)) (ints_putObj _ hv i2) hx) ?_
    rintro e a3 W3 ⟨rfl, k3, i5⟩
    have hs2 : (W.putObj l (.loop { state := .busy, pending := none, fn := fn, tmps := a.tmps, params := #[t], assign := assign, body := body, defers := w.heap.size })).heap[l]? = _ := World.putObj_heap_same hlW
    have hl3 := (k3.block l (Nat.lt_of_lt_of_le hlW (Kg.putObj W l _).size) (by simp; omega)).trans hs2
    have hl3s := (Array.getElem?_eq_some_iff.1 hl3).1
    have hD3 := (k3.block w.heap.size (Nat.lt_of_lt_of_le (Array.getElem?_eq_some_iff.1 i3).1 (Kg.putObj W l _).size) (by simp; omega)).trans ((World.putObj_heap_other (by omega)).trans i3)
    have hsz := k3.size
    have hsz2 := (Kg.putObj W l (.loop { state := .busy, pending := none, fn := fn, tmps := a.tmps, params := #[t], assign := assign, body := body, defers := w.heap.size })).size
    refine ⟨_, _, run_endRound (P := P) none hl3, rfl, ⟨hI _ _ _ _ (by omega) i5 (Kg.putObj W3 l _), World.putObj_heap_same hl3s, (World.putObj_heap_other (by omega)).trans hD3, Nat.le_trans (by omega) (Kg.putObj W3 l _).size⟩, ?_⟩
    exact (((Kb.refl bn l W).putObj _).trans (k3.kb l)).putObj _
  · rintro e W2 ⟨⟨v, rfl⟩, i1, i2, i3, i4⟩
    refine ⟨none, _, run_endLoop (P := P) i2 (by simp), hdone _ _ (Nat.le_refl _) (hI _ _ _ _ (by omega) i1 (Kg.putObj W2 l _)) ((World.putObj_heap_other (by omega)).trans i3)⟩
end
end Go.Proofs.Ytfllmnaillilhaa
namespace Go.Proofs.Ytfllmnaillilhaa
set_option linter.unusedSimpArgs false
set_option linter.unusedVariables false
open Go.RowKit
attribute [local go_sem] Oper.semAt_some

theorem kb_kp {W0 w w' : World} {g b : Nat} (h : Kp W0 w) (k : Kb g b w w') (hg : W0.heap.size ≤ g) (hb : W0.heap.size ≤ b) : Kp W0 w' :=
  ⟨k.os.trans h.os, k.tape.trans h.tape, k.output.trans h.output, Nat.le_trans h.size k.size, fun q hq => by
    have hq' : q < W0.heap.size := hq
    rw [k.block q (Nat.lt_of_lt_of_le hq' h.size) (by omega) (by omega)]
    exact h.block hq'⟩
theorem Own.kb {α : Type} {enc : α → List Value} {e size base g b : Nat} {w w' : World} {v : Value} {l : List α} (h : Own enc e size base w v l) (k : Kb g b w w') (hg : g < base) (hb : b < base) : Own enc e size base w' v l :=
  h.owS w' k.size fun q hq hlt => k.block q hlt (by have := h.ge q hq; omega) (by have := h.ge q hq; omega)
theorem srcIntN (w : World) (x : Int) (n : Nat) (hn : n = w.heap.size) : Ints (w.alloc (.cells #[.int .i64 x] 3)) (.slice (some ⟨n, 0, none⟩) 1 1) [x] := by
  subst hn
  exact Sl.one w [.int .i64 x] _ 1 x rfl rfl
theorem next_all {b : List Rng} (hb : boxB b = true) (he : b.any emptyR = false) {pre rest : List (List Int)} {vs : List Int} (h : allS b = pre ++ vs :: rest) : nextB b vs = rest.head? := by
  have hin : inB b vs := (allS_mem b vs).1 (by rw [h]; simp)
  rw [nextB_eq hb ((inB_iff b vs).1 hin)]
  exact allS_next b (wide_of he) pre vs rest h
set_option maxRecDepth 8000 in
set_option maxHeartbeats 4000000 in
theorem sValues1_hands (n : Nat) (hn : 2 ≤ n) (W0 w : World) (bb bn : Nat) (vb : Value) (b : List Rng) (hb : Rngs W0 vb b) (hl : b.length ≤ 128) (hbox : boxB b = true) (hne : b.any emptyR = false) (hk0 : Kp W0 w) (hc : w.cell? ⟨bb, 0, none⟩ = some vb) (hbn : W0.heap.size ≤ bn) (hbn2 : bn < w.heap.size) (hbb : bb ≠ bn) :
    Hands Fence.wide n Try.prog 82 #[.pointer (some ⟨bb, 0, none⟩)] bn (allS b) w := by
  intro l J W hW hl1 hl2 hJ hY h0
  have hbbl := block_lt_of_cell hc
  have hkW := hk0.trans hW
  have hcW := hW.cellS hc
  have hbbW := block_lt_of_cell hcW
  have hsz0 := hk0.size
  have hszW := hW.size
  obtain ⟨A, c, rfl, hcc, hm⟩ := hb.form
  generalize hM : b.map (·.lo) = M
  have HM := hid hM.symm
  have HML : Hid (M.length = b.length) := hid (by rw [← hM]; simp)
  have HALL : Hid (∃ t, allS b = M :: t) := hid (by rw [← hM]; exact allS_head b (wide_of hne))
  clear hM
  replace hY := hid hY
  replace hJ := hid hJ
  have HBX := hid hbox
  have HNE := hid hne
  clear hbox hne
  refine callsIn_wide.2 ?_
  show Calls Try.prog 82 #[.func (.yield l) #[] #[], .pointer (some ⟨bb, 0, none⟩)] W _
  go_enter Try.func82, Try.ntmps82
  go_wp2
  go_loopw [3, 9] (fun v i wr => ∃ k : Nat, k ≤ b.length ∧ i = .int .i64 k ∧ Own encInt 3 1 W.heap.size wr v (M.take k) ∧ Kp W wr) (fun _ i _ => b.length - (intOf i).toNat)
  case atStart => exact ⟨0, Nat.zero_le _, rfl, Own.nil _ _ _ _ _, Kp.refl _⟩
  case round =>
    obtain ⟨k, hk, rfl, hown, hbel⟩ := hrel
    by_cases hlt : k < b.length
    · obtain ⟨g, o, rfl, hg, h1', h2'⟩ := hb.rng hlt
      have h1 := (hkW.trans hbel).cellS h1'
      have h2 := (hkW.trans hbel).cellS h2'
      have hkM : k < M.length := by rw [HML.out]; exact hlt
      have HT := hid (take_snoc M k hkM)
      have HE : Hid (M[k] = b[k].lo) := hid (by have := HM.out; subst this; simp)
      have hlen : (M.take k).length ≤ k := List.length_take_le _ _
      have hsz := hbel.size
      clear h1' h2' hb
      generalize b[k].lo = x at *
      generalize b[k].hi = y at *
      have kA := (Kp.refl wr).alloc (.cells #[.int .i64 x, .int .i64 y] 59)
      have ownA := hown.kp kA
      have zA : (wr.alloc (.cells #[.int .i64 x, .int .i64 y] 59)).heap.size = wr.heap.size + 1 := by simp
      have hA := hbel.trans kA
      have xA := alloc_cell wr #[.int .i64 x, .int .i64 y] 59 0 rfl
      go_wp2_with (at_builtin; refine wpl_append_flat rfl (.tmp 13) (.tmp 16) rfl stIntM encInt_len encInt_one rfl (ownA.alloc _) rfl (srcIntN (wr.alloc (.cells #[.int .i64 x, .int .i64 y] 59)) x _ zA.symm) (by first | omega | (simp; omega)) (by first | omega | (simp; omega)) (by simp; omega) ?_; intro v1 w1 hown1 hgrow1 hat1 hnil1)
      go_roundw
      case rel => exact ⟨k + 1, by omega, by go_num, by rw [HT.out, HE.out]; exact hown1, (hA.alloc _).grown hgrow1 ownA.ge⟩
      case measure => simp [intOf]; omega
    · have HF : Hid (M.take k = M) := hid (List.take_of_length_le (by rw [HML.out]; omega))
      rw [HF.out] at hown
      have hJ0 := hJ.out _ _ _ h0 hbel
      have hB0 := hbel.cellS hcW
      have hz0 := hbel.size
      have hk2 := hkW.trans hbel
      obtain ⟨w2, hw2⟩ : ∃ w2 : World, w2 = wr := ⟨_, rfl⟩
      subst hw2
      clear hbel HML
      go_wp2
      go_loopg [3, 6] ((allS b).length + 1) (fun gk v ok wr => (ok = .bool true ∧ ∃ (pre rest : List (List Int)) (L : List Int), Hid (allS b = pre ++ L :: rest) ∧ rest.length < gk ∧ Own encInt 3 1 W.heap.size wr v L ∧ J pre wr ∧ Kp W0 wr ∧ wr.cell? ⟨bb, 0, none⟩ = some (.slice A b.length c) ∧ W.heap.size ≤ wr.heap.size) ∨ (ok = .bool false ∧ J (allS b) wr))
      case atStart =>
        obtain ⟨t, ht⟩ := HALL.out
        exact .inl ⟨rfl, [], t, M, hid ht, by rw [ht]; simp; omega, hown, hJ0, hk2, hB0, hz0⟩
      case round =>
        clear hown hJ0 hB0 hz0 hk2
        rcases hrel with ⟨rfl, pre, rest, L, HL, hgk, hown, hJp, hkr, hBr, hzr⟩ | ⟨rfl, hJp⟩
        · have hin : ∃ rest, allS b = pre ++ L :: rest := ⟨rest, HL.out⟩
          obtain ⟨fn, tmps, assign, body, hy, hR⟩ := hY.out pre L _ wr hJp (hown.sl encInt_len) hin
          refine (wpIn_wide (n := n)).1 ?_
          have hbl := Nat.lt_of_lt_of_le hbbW hzr
          have HN := hid (next_all HBX.out HNE.out HL.out)
          gi_wp2
          refine ⟨fun _ => by omega, hR.mono ?_⟩
          rintro e w3 ⟨rfl, hJ3, hkb⟩
          have hk3 := kb_kp hkr hkb hbn (by omega)
          have own3 := hown.kb hkb (by omega) (by omega)
          have hB3 : w3.cell? ⟨bb, 0, none⟩ = some (.slice A b.length c) := (World.cell?_of_block (hkb.block bb hbl hbb (by omega))).trans hBr
          have hz3 := hkb.size
          have hbl3 := block_lt_of_cell hB3
          clear hy hR hkb hown hBr hJp hkr
          gi_wp2_with (refine ⟨trivial, fun _ => by omega, ?_⟩; refine (callsIn_wide.2 (Next_any _ _ b L _ (hb.keep (pl_stable _) hk3) (own3.sl encInt_len))).mono ?_; rw [HN.out]; rintro e w4 ⟨v', rfl, own4, k4⟩)
          cases rest with
          | nil =>
            go_roundg 0
            case measure => simp at hgk; omega
            case rel => exact .inr ⟨rfl, by rw [HL.out]; exact hJ.out _ _ _ hJ3 k4⟩
          | cons L2 rest =>
            go_roundg (rest.length + 1)
            case measure => simp at hgk; omega
            case rel => exact .inl ⟨rfl, pre ++ [L], rest, L2, hid (by rw [HL.out]; simp), by omega, own4.less (by omega), hJ.out _ _ _ hJ3 k4, hk3.trans k4, k4.cellS hB3, by have := k4.size; omega⟩
        · go_wp2
          go_end0
          exact ⟨⟨_, rfl⟩, hJp⟩
end Go.Proofs.Ytfllmnaillilhaa
namespace Go.Proofs.Ytfllmnaillilhaa
set_option linter.unusedSimpArgs false
set_option linter.unusedVariables false
open Go.RowKit
attribute [local go_sem] Oper.semAt_some

theorem sValues_any (A : Option Addr) (n c : Nat) (w : World) : Calls Try.prog 53 #[.slice A n c] w fun e w' => e = .returned (.func (.func 82) #[] #[.pointer (some ⟨w.heap.size, 0, none⟩)]) ∧ w' = w.alloc (.cells #[.slice A n c] 22) := by
  go_enter Try.func53, Try.ntmps53
  go_wp2
  go_ret
  exact ⟨rfl, rfl⟩
theorem sValues1_real : Real Try.prog 82 := ⟨_, Try.func82, by kernel_rfl, by kernel_rfl⟩
theorem callsR {F : Fence} {n : Nat} {P : Program} {f : FuncId} {args : Array Value} {w : World} {R : Ending → World → Prop} (l : Nat) (h : CallsIn F n P f args w R) : CallsIn (F.inRound l) n P f args w R := h
def cntP (p : List Int → Bool) (l : List (List Int)) : Int := ((l.countP p : Nat) : Int)
theorem cntP_snoc (p : List Int → Bool) (l : List (List Int)) (x : List Int) : cntP p (l ++ [x]) = cntP p l + if p x then 1 else 0 := by
  unfold cntP
  rw [List.countP_append]
  cases h : p x <;> simp [List.countP_cons, h]
theorem cntP_bd (p : List Int → Bool) (l : List (List Int)) : 0 ≤ cntP p l ∧ cntP p l ≤ l.length := by
  have := List.countP_le_length (p := p) (l := l)
  unfold cntP
  omega
/-- what Count returns -/
def CountR (s : Sys) : Int × Int := if validS s then (if 65536 < sizeB s.box then (0, 8) else (((cntS (solvesB s) s.box : Nat) : Int), 0)) else (0, 1)
theorem CountR_0 {s : Sys} (h : validS s = false) : CountR s = (0, 1) := by unfold CountR; rw [h]; rfl
theorem CountR_1 {s : Sys} (h : validS s = true) (h2 : 65536 < sizeB s.box) : CountR s = (0, 8) := by unfold CountR; rw [h, if_pos rfl, if_pos h2]
theorem CountR_2 {s : Sys} (h : validS s = true) (h2 : ¬ 65536 < sizeB s.box) : CountR s = (((cntS (solvesB s) s.box : Nat) : Int), 0) := by unfold CountR; rw [h, if_pos rfl, if_neg h2]
set_option maxRecDepth 100000 in
set_option maxHeartbeats 8000000 in
theorem sCount_any (va : Value) (s : Sys) (w : World) (hs : SysV w va s) :
    Calls Try.prog 20 #[va] w fun e w' => e = .returned (.tuple #[.int .i64 (CountR s).1, .int .i64 (CountR s).2]) ∧ Kp w w' := by
  have hs' := hs
  obtain ⟨Ab, cb, Ar, cr, Ag, cg, Ac, cc, rfl, hb, hr, hg, hc⟩ := hs'
  obtain ⟨l1, m1⟩ := hb.caps
  obtain ⟨l2, m2⟩ := hr.caps
  obtain ⟨l3, m3⟩ := hg.caps
  obtain ⟨l4, m4⟩ := hc.caps
  have k0 := (Kp.refl w).alloc (.cells #[.slice Ab s.box.length cb, .slice Ar s.rows.length cr, .slice Ag s.graphs.length cg, .slice Ac s.cases.length cc] 27)
  have B0 := SysB.new w #[.slice Ab s.box.length cb, .slice Ar s.rows.length cr, .slice Ag s.graphs.length cg, .slice Ac s.cases.length cc] 27
  have z0 := alloc_lt w (.cells #[.slice Ab s.box.length cb, .slice Ar s.rows.length cr, .slice Ag s.graphs.length cg, .slice Ac s.cases.length cc] 27)
  refine (callsIn_wide (n := 5)).1 ?_
  refine callsIn_of_wp_marks Try.func20 rfl trivial ?_ rfl
  simp only [Try.ntmps20, List.size_toArray, List.length_cons, List.length_nil, Nat.reduceAdd, Nat.reduceSub, Array.replicate_succ, Array.replicate_zero, List.push_toArray, List.append_toArray, List.nil_append, List.cons_append]
  refine wpIn_wide.2 ?_
  go_wp2_with fail
  try rw [← World.size_alloc w (.cells #[.slice Ab s.box.length cb, .slice Ar s.rows.length cr, .slice Ag s.graphs.length cg, .slice Ac s.cases.length cc] 27)]
  generalize w.alloc (.cells #[.slice Ab s.box.length cb, .slice Ar s.rows.length cr, .slice Ag s.graphs.length cg, .slice Ac s.cases.length cc] 27) = w0 at *
  generalize hb0 : w.heap.size = b0 at *
  replace hb0 := hid hb0
  refine (sValid_any _ s _ (hs.keep k0)).mono ?_
  rintro e w1 ⟨rfl, k1⟩
  replace B0 := B0.keep k1
  replace k1 := k0.trans k1
  obtain ⟨c0, c1, c2, c3⟩ := B0.cells
  have hgl := block_lt_of_cell c0
  cases hV : validS s with
  | false =>
    have HN := hid (CountR_0 hV)
    clear hV
    go_wp2
    exact ⟨_, results_tmp2 rfl _ _ _, by rw [HN.out]; rfl, k1⟩
  | true =>
    go_wp2_with fail
    refine (Size_any _ s.box _ (hb.keep (pl_stable _) k1)).mono ?_
    rintro e w2 ⟨rfl, k2⟩
    replace B0 := B0.keep k2
    replace k2 := k1.trans k2
    clear c0 c1 c2 c3 hgl k1
    obtain ⟨c0, c1, c2, c3⟩ := B0.cells
    have hgl := block_lt_of_cell c0
    by_cases hsz : 65536 < sizeB s.box
    · have HN := hid (CountR_1 hV hsz)
      have e1 : decide (65536 < sizeB s.box) = true := decide_eq_true hsz
      clear hV hsz
      generalize sizeB s.box = z at *
      go_wp2
      exact ⟨_, results_tmp2 rfl _ _ _, by rw [HN.out]; rfl, k2⟩
    · have HN := hid (CountR_2 hV hsz)
      have HV := hid hV
      have e1 : decide (65536 < sizeB s.box) = false := decide_eq_false hsz
      have hlen : ((allS s.box).length : Int) ≤ 65536 := by
        obtain ⟨v1, v2, -, -⟩ := validS_parts hV
        rw [allS_length _ (wide_of v2), ← size_prod2 v1 v2 (by omega)]
        omega
      replace hlen := hid hlen
      clear hV hsz
      generalize sizeB s.box = z at *
      go_wp2_with fail
      refine (sValues_any _ _ _ _).mono ?_
      rintro e w3 ⟨rfl, hw3⟩
      go_wp2
      clear hw3 w3
      have kA := ((Kp.refl w2).alloc (.cells #[.int .i64 0] 3)).alloc (.cells #[.slice Ab s.box.length cb] 22)
      have hBN := (Bx.new w2 #[.int .i64 0] 3).kp ((Kp.refl (w2.alloc (.cells #[.int .i64 0] 3))).alloc (.cells #[.slice Ab s.box.length cb] 22)) (by simp)
      have hcb := alloc_cell (w2.alloc (.cells #[.int .i64 0] 3)) #[.slice Ab s.box.length cb] 22 0 rfl
      have hz5 : ((w2.alloc (.cells #[.int .i64 0] 3)).alloc (.cells #[.slice Ab s.box.length cb] 22)).heap.size = w2.heap.size + 2 := by simp
      rw [World.size_alloc] at hcb
      have B5 := B0.keep kA
      have k5 := k2.trans kA
      generalize (w2.alloc (.cells #[.int .i64 0] 3)).alloc (.cells #[.slice Ab s.box.length cb] 22) = w5 at *
      have hbn0 : w.heap.size ≤ w2.heap.size := k2.size
      have hb0n : b0 ≠ w2.heap.size := by omega
      generalize w2.heap.size = bn at *
      obtain ⟨v1, v2, -, -⟩ := validS_parts HV.out
      have hlb : s.box.length ≤ 128 := by
        have := v1
        unfold boxB at this
        simp only [Bool.and_eq_true, decide_eq_true_eq] at this
        exact this.2
      clear kA B0 c0 c1 c2 c3 k2 k0 z0 hgl
      obtain ⟨c0, c1, c2, c3⟩ := B5.cells
      have hb5 : b0 < w5.heap.size := block_lt_of_cell c0
      have HV1 := hid v1
      have HV2 := hid v2
      refine (wpIn_wide (n := 5)).1 ?_
      refine wpIn_rangeInts rfl (by omega) (gf := 82) (lb := #[.pointer (some ⟨bn + 1, 0, none⟩)]) rfl trivial (fun args w => sValues1_real.run args w) (sValues1_hands 4 (by omega) w w5 (bn + 1) bn _ s.box hb hlb v1 v2 k5 hcb hbn0 (by omega) (by omega)) (by omega)
        (fun pre W => Kp w W ∧ W.heap[b0]? = w5.heap[b0]? ∧ Bx W bn [.int .i64 (cntP (solvesB s) pre)] ∧ bn < W.heap.size) ?hI ?h0 (fun v => { tmps := #[.agg #[.slice Ab s.box.length cb, .slice Ar s.rows.length cr, .slice Ag s.graphs.length cg, .slice Ac s.cases.length cc], .pointer (some ⟨b0, 0, none⟩), .int .i64 0, .int .i64 0, .pointer (some ⟨bn, 0, none⟩), v, .agg #[.slice Ab s.box.length cb, .slice Ar s.rows.length cr, .slice Ag s.graphs.length cg, .slice Ac s.cases.length cc], .bool true, .bool false, .pointer (some ⟨b0, 0, none⟩), .slice Ab s.box.length cb, .int .i64 z, .bool false, .pointer (some ⟨b0, 0, none⟩), .slice Ab s.box.length cb, .func (.func 82) #[] #[.pointer (some ⟨bn + 1, 0, none⟩)], v, undef, undef, undef, undef, undef, undef], defers := [] }) ?assign ?body ?done
      case hI =>
        rintro l pre A B hl ⟨i1, i2, i3, i4⟩ hk
        exact ⟨Kg.to_kp i1 hk (by have := k5.size; omega), (hk.block b0 (by have := block_lt_of_cell ((World.cell?_of_block i2).trans c0); exact this) (by simp; omega)).trans i2, i3.keep (hk.block bn i4 (by simp; omega)), Nat.lt_of_lt_of_le i4 hk.size⟩
      case h0 => exact ⟨k5, rfl, by simpa [cntP] using hBN, by omega⟩
      case assign =>
        intro l v W K hK
        gi_wp2
        exact hK
      case body =>
        rintro l pre x v W hl ⟨i1, i2, i3, i4⟩ hv ⟨rest, hall⟩
        have d0 : W.cell? ⟨b0, 0, none⟩ = _ := (World.cell?_of_block i2).trans c0
        have d1 : W.cell? ⟨b0, 1, none⟩ = _ := (World.cell?_of_block i2).trans c1
        have d2 : W.cell? ⟨b0, 2, none⟩ = _ := (World.cell?_of_block i2).trans c2
        have d3 : W.cell? ⟨b0, 3, none⟩ = _ := (World.cell?_of_block i2).trans c3
        have hbl := block_lt_of_cell d0
        have hF := fit_of HV.out ((inB_iff _ _).1 ((allS_mem s.box x).1 (by rw [hall]; simp)))
        have hpl : pre.length ≤ 65536 := by
          have := hlen.out
          rw [hall] at this
          simp at this
          omega
        have hcp := cntP_bd (solvesB s) pre
        have HC := hid (cntP_snoc (solvesB s) pre x)
        generalize cntP (solvesB s) pre = cnt at *
        replace hcp : 0 ≤ cnt ∧ cnt ≤ 65536 := by omega
        clear c0 c1 c2 c3 B5 hcb hBN HN hall
        obtain ⟨A', c', rfl, _, _⟩ := hv.form
        have hsv := hs.keep i1
        clear hs hb hr hg hc
        cases hq : solvesB s x with
        | true =>
          rw [hq] at HC
          have HC2 : Hid (cntP (solvesB s) (pre ++ [x]) = cnt + 1) := hid HC.out
          have HQ := hid hq
          clear HC hq
          gi_wp2_with (refine ⟨trivial, ?_⟩; refine (callsR l (callsIn_wide.2 (sSolves_any _ _ s x _ hsv hv hF))).mono ?_; rw [HQ.out]; rintro e w6 ⟨rfl, k6⟩; have i5 := i3.kp k6 i4; have n0 := i5.cell (j := 0) rfl; have f0 := i5.free (j := 0) (by simp))
          have i6 := (k6.block hbl).trans i2
          have i7 := Nat.lt_of_lt_of_le i4 k6.size
          have i8 := i1.trans k6
          have hBX := i5.set (j := 0) (by simp) (.int .i64 (cnt + 1))
          have hKG : Kg w6 (w6.setCell ⟨bn, 0, none⟩ (.int .i64 (cnt + 1))) bn := (Kg.refl _ _).set (.inl rfl) _
          have hsz6 : (w6.setCell ⟨bn, 0, none⟩ (.int .i64 (cnt + 1))).heap.size = w6.heap.size := set_size _ _ _
          have hb6 : (w6.setCell ⟨bn, 0, none⟩ (.int .i64 (cnt + 1))).heap[b0]? = w6.heap[b0]? := set_block _ _ _ _ hb0n
          refine ⟨(k6.kg bn).trans hKG, Kg.to_kp i8 hKG hbn0, hb6.trans i6, ?_, by omega⟩
          rw [HC2.out]
          exact hBX
        | false =>
          rw [hq] at HC
          have HC2 : Hid (cntP (solvesB s) (pre ++ [x]) = cnt) := hid (by have := HC.out; simpa using this)
          have HQ := hid hq
          clear HC hq
          gi_wp2_with (refine ⟨trivial, ?_⟩; refine (callsR l (callsIn_wide.2 (sSolves_any _ _ s x _ hsv hv hF))).mono ?_; rw [HQ.out]; rintro e w6 ⟨rfl, k6⟩)
          exact ⟨k6.kg bn, i1.trans k6, (k6.block hbl).trans i2, by rw [HC2.out]; exact i3.kp k6 i4, Nat.lt_of_lt_of_le i4 k6.size⟩
      case done =>
        rintro D W hD ⟨i1, i2, i3, i4⟩ hK
        have n0 := i3.cell (j := 0) rfl
        go_wp2
        refine ⟨by simp, .inl ⟨_, _, rfl, run_takeDeferred hK, ?_⟩⟩
        exact ⟨_, results_tmp2 rfl _ _ _, by rw [HN.out]; rfl, Kg.to_kp i1 (Kg.putObj W D _) (by omega)⟩
end Go.Proofs.Ytfllmnaillilhaa
