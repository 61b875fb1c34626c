
/-
Events as plain data and in memory; ranges of numbers, names, copies: the walks.
-/
import Derived.Test.YtcddllaljgfjbaaClC
import Derived.Deep.MidRow
namespace Go.Proofs.Ytcddllaljgfjbaa
set_option linter.unusedSimpArgs false
set_option linter.unusedVariables false
open Go.RowKit

/-- kind, index, element; amount -/
abbrev Gv := (Int × Int × Int) × Int
structure Ev where
  r : Int
  n : Int
  t : Int
  past : List Int
  kind : Int
  act : Int
  give : Gv
  dst : Int
  place : Int
  ser : Int
def zEv : Ev := ⟨0, 0, 0, [], 0, 0, ((0, 0, 0), 0), 0, 0, 0⟩
instance : Inhabited Ev := ⟨zEv⟩
def nameE (e : Ev) : Dt := (e.r, e.n)
def evL (e : Ev) (v : Value) : List Value := [.int .i64 e.r, .int .i64 e.n, .int .i64 e.t, v, .int .i64 e.kind, .int .i64 e.act, .int .i64 e.give.1.1, .int .i64 e.give.1.2.1, .int .i64 e.give.1.2.2, .int .i64 e.give.2, .int .i64 e.dst, .int .i64 e.place, .int .i64 e.ser]
abbrev evV (e : Ev) (v : Value) : Value := .agg (evL e v).toArray
def rdEv : Rd Ev := fun w cs x => ∃ v, cs = evL x v ∧ Ints w v x.past
theorem rdEv_stable : Stable rdEv := fun _ _ _ _ hk ⟨v, e, h⟩ => ⟨v, e, h.keep (pl_stable _) hk⟩
abbrev Evs := Sl rdEv 13
theorem evL_len (e : Ev) (v : Value) : (evL e v).length = 13 := rfl
theorem evL_one (e : Ev) (A : Option Addr) (n c : Nat) : ∀ u ∈ evL e (.slice A n c), u.oneCell' = true := by simp [evL, Value.oneCell']
/-! between -/
def btw (n lo hi : Int) : Bool := decide (lo ≤ n) && decide (n ≤ hi)
theorem eBetween_at (n lo hi : Int) (w : World) : Calls Try.prog 69 #[.int .i64 n, .int .i64 lo, .int .i64 hi] w fun e w' => e = .returned (.bool (btw n lo hi)) ∧ w' = w := by
  have HF : Hid (btw n lo hi = (decide (lo ≤ n) && decide (n ≤ hi))) := hid rfl
  generalize btw n lo hi = r at *
  by_cases h1 : lo ≤ n
  · have e1 : decide (lo ≤ n) = true := decide_eq_true h1
    by_cases h2 : n ≤ hi
    · have e2 : decide (n ≤ hi) = true := decide_eq_true h2
      have HR : Hid (r = true) := hid (by rw [HF.out, e1, e2]; rfl)
      go_enter Try.func69, Try.ntmps69
      go_wp2
      go_ret
      exact ⟨ret_bool HR.out.symm, rfl⟩
    · have e2 : decide (n ≤ hi) = false := decide_eq_false h2
      have HR : Hid (r = false) := hid (by rw [HF.out, e1, e2]; rfl)
      go_enter Try.func69, Try.ntmps69
      go_wp2
      go_ret
      exact ⟨ret_bool HR.out.symm, rfl⟩
  · have e1 : decide (lo ≤ n) = false := decide_eq_false h1
    have HR : Hid (r = false) := hid (by rw [HF.out, e1]; rfl)
    go_enter Try.func69, Try.ntmps69
    go_wp2
    go_ret
    exact ⟨ret_bool HR.out.symm, rfl⟩
theorem eBetween_any (n lo hi : Int) (w : World) : Calls Try.prog 69 #[.int .i64 n, .int .i64 lo, .int .i64 hi] w fun e w' => e = .returned (.bool (btw n lo hi)) ∧ Kp w w' :=
  (eBetween_at n lo hi w).mono fun e w' ⟨h1, h2⟩ => ⟨h1, by rw [h2]; exact Kp.refl w⟩
/-! names -/
theorem ret_agg2 {a b c d : Int} (h : a = c) (k : b = d) : Ending.returned (.agg #[.int .i64 a, .int .i64 b]) = .returned (.agg #[.int .i64 c, .int .i64 d]) := by rw [h, k]
set_option maxRecDepth 8000 in
theorem eName_any (e : Ev) (v : Value) (w : World) : Calls Try.prog 62 #[evV e v] w fun x w' => x = .returned (.agg #[.int .i64 e.r, .int .i64 e.n]) ∧ Kp w w' := by
  obtain ⟨r, n, t, pa, kd, ac, ⟨⟨g1, g2, g3⟩, g4⟩, ds, pl, se⟩ := e
  have hE := (Bx.new w #[.int .i64 r, .int .i64 n, .int .i64 t, v, .int .i64 kd, .int .i64 ac, .int .i64 g1, .int .i64 g2, .int .i64 g3, .int .i64 g4, .int .i64 ds, .int .i64 pl, .int .i64 se] 33).keep (heap_alloc_old _ (.cells #[.int .i64 0, .int .i64 0] 66) (by simp))
  have hR := Bx.new (w.alloc (.cells #[.int .i64 r, .int .i64 n, .int .i64 t, v, .int .i64 kd, .int .i64 ac, .int .i64 g1, .int .i64 g2, .int .i64 g3, .int .i64 g4, .int .i64 ds, .int .i64 pl, .int .i64 se] 33)) #[.int .i64 0, .int .i64 0] 66
  rw [World.size_alloc] at hR
  have k0 := ((Kp.refl w).alloc (.cells #[.int .i64 r, .int .i64 n, .int .i64 t, v, .int .i64 kd, .int .i64 ac, .int .i64 g1, .int .i64 g2, .int .i64 g3, .int .i64 g4, .int .i64 ds, .int .i64 pl, .int .i64 se] 33)).alloc (.cells #[.int .i64 0, .int .i64 0] 66)
  dsimp only [evV, evL]
  go_enter Try.func62, Try.ntmps62
  go_upto_region 1 with (fail)
  generalize (w.alloc (.cells #[.int .i64 r, .int .i64 n, .int .i64 t, v, .int .i64 kd, .int .i64 ac, .int .i64 g1, .int .i64 g2, .int .i64 g3, .int .i64 g4, .int .i64 ds, .int .i64 pl, .int .i64 se] 33)).alloc (.cells #[.int .i64 0, .int .i64 0] 66) = w1 at *
  have e0 := hE.cell (j := 0) rfl
  have e1 := hE.cell (j := 1) rfl
  have hel := hE.lt (by simp)
  have hz0 : w.heap.size ≤ w.heap.size + 1 := by omega
  generalize w.heap.size + 1 = rb at *
  generalize heb : w.heap.size = eb at *
  have HEB := hid heb
  clear heb
  have hR2 := hR.all (cs := [.int .i64 r, .int .i64 n]) rfl
  go_wp2_with (refine wpList_store_mid rfl 66 (.tmp 2) (.tmp 7) rfl rb 0 #[.int .i64 r, .int .i64 n] rfl rfl hR.there (by kernel_rfl) (all_oneCell_toArray (by simp [Value.oneCell'])) ?_)
  try simp only [Exit.inBlock, Exit.then]
  refine bodyPost_ret (results_cell_bx rfl _ _ rb _ _ rfl hR2.range Try.underlying66 rfl (by kernel_rfl)) rfl ?_
  exact ⟨rfl, Kp.setCells (a := w) (b := rb) (by rw [HEB.out]; exact hz0) [.int .i64 r, .int .i64 n] 0 w1 k0⟩
set_option maxRecDepth 8000 in
theorem dName_any (e : Ev) (v : Value) (w : World) : Calls Try.prog 39 #[evV e v] w fun x w' => x = .returned (.agg #[.int .i64 e.r, .int .i64 e.n]) ∧ Kp w w' := by
  obtain ⟨r, n, t, pa, kd, ac, ⟨⟨g1, g2, g3⟩, g4⟩, ds, pl, se⟩ := e
  have hE := (Bx.new w #[.int .i64 r, .int .i64 n, .int .i64 t, v, .int .i64 kd, .int .i64 ac, .int .i64 g1, .int .i64 g2, .int .i64 g3, .int .i64 g4, .int .i64 ds, .int .i64 pl, .int .i64 se] 33).keep (heap_alloc_old _ (.cells #[.int .i64 0, .int .i64 0] 66) (by simp))
  have hR := Bx.new (w.alloc (.cells #[.int .i64 r, .int .i64 n, .int .i64 t, v, .int .i64 kd, .int .i64 ac, .int .i64 g1, .int .i64 g2, .int .i64 g3, .int .i64 g4, .int .i64 ds, .int .i64 pl, .int .i64 se] 33)) #[.int .i64 0, .int .i64 0] 66
  rw [World.size_alloc] at hR
  have k0 := ((Kp.refl w).alloc (.cells #[.int .i64 r, .int .i64 n, .int .i64 t, v, .int .i64 kd, .int .i64 ac, .int .i64 g1, .int .i64 g2, .int .i64 g3, .int .i64 g4, .int .i64 ds, .int .i64 pl, .int .i64 se] 33)).alloc (.cells #[.int .i64 0, .int .i64 0] 66)
  dsimp only [evV, evL]
  go_enter Try.func39, Try.ntmps39
  go_upto_region 1 with (fail)
  generalize (w.alloc (.cells #[.int .i64 r, .int .i64 n, .int .i64 t, v, .int .i64 kd, .int .i64 ac, .int .i64 g1, .int .i64 g2, .int .i64 g3, .int .i64 g4, .int .i64 ds, .int .i64 pl, .int .i64 se] 33)).alloc (.cells #[.int .i64 0, .int .i64 0] 66) = w1 at *
  have e0 := hE.cell (j := 0) rfl
  have e1 := hE.cell (j := 1) rfl
  have hel := hE.lt (by simp)
  have hz0 : w.heap.size ≤ w.heap.size + 1 := by omega
  generalize w.heap.size + 1 = rb at *
  generalize heb : w.heap.size = eb at *
  have HEB := hid heb
  clear heb
  have hR2 := hR.all (cs := [.int .i64 r, .int .i64 n]) rfl
  go_wp2_with (refine wpList_store_mid rfl 66 (.tmp 2) (.tmp 7) rfl rb 0 #[.int .i64 r, .int .i64 n] rfl rfl hR.there (by kernel_rfl) (all_oneCell_toArray (by simp [Value.oneCell'])) ?_)
  try simp only [Exit.inBlock, Exit.then]
  refine bodyPost_ret (results_cell_bx rfl _ _ rb _ _ rfl hR2.range Try.underlying66 rfl (by kernel_rfl)) rfl ?_
  exact ⟨rfl, Kp.setCells (a := w) (b := rb) (by rw [HEB.out]; exact hz0) [.int .i64 r, .int .i64 n] 0 w1 k0⟩
set_option maxRecDepth 8000 in
theorem qName_any (e : Ev) (v : Value) (w : World) : Calls Try.prog 29 #[evV e v] w fun x w' => x = .returned (.agg #[.int .i64 e.r, .int .i64 e.n]) ∧ Kp w w' := by
  obtain ⟨r, n, t, pa, kd, ac, ⟨⟨g1, g2, g3⟩, g4⟩, ds, pl, se⟩ := e
  have hE := (Bx.new w #[.int .i64 r, .int .i64 n, .int .i64 t, v, .int .i64 kd, .int .i64 ac, .int .i64 g1, .int .i64 g2, .int .i64 g3, .int .i64 g4, .int .i64 ds, .int .i64 pl, .int .i64 se] 33).keep (heap_alloc_old _ (.cells #[.int .i64 0, .int .i64 0] 66) (by simp))
  have hR := Bx.new (w.alloc (.cells #[.int .i64 r, .int .i64 n, .int .i64 t, v, .int .i64 kd, .int .i64 ac, .int .i64 g1, .int .i64 g2, .int .i64 g3, .int .i64 g4, .int .i64 ds, .int .i64 pl, .int .i64 se] 33)) #[.int .i64 0, .int .i64 0] 66
  rw [World.size_alloc] at hR
  have k0 := ((Kp.refl w).alloc (.cells #[.int .i64 r, .int .i64 n, .int .i64 t, v, .int .i64 kd, .int .i64 ac, .int .i64 g1, .int .i64 g2, .int .i64 g3, .int .i64 g4, .int .i64 ds, .int .i64 pl, .int .i64 se] 33)).alloc (.cells #[.int .i64 0, .int .i64 0] 66)
  dsimp only [evV, evL]
  go_enter Try.func29, Try.ntmps29
  go_upto_region 1 with (fail)
  generalize (w.alloc (.cells #[.int .i64 r, .int .i64 n, .int .i64 t, v, .int .i64 kd, .int .i64 ac, .int .i64 g1, .int .i64 g2, .int .i64 g3, .int .i64 g4, .int .i64 ds, .int .i64 pl, .int .i64 se] 33)).alloc (.cells #[.int .i64 0, .int .i64 0] 66) = w1 at *
  have e0 := hE.cell (j := 0) rfl
  have e1 := hE.cell (j := 1) rfl
  have hel := hE.lt (by simp)
  have hz0 : w.heap.size ≤ w.heap.size + 1 := by omega
  generalize w.heap.size + 1 = rb at *
  generalize heb : w.heap.size = eb at *
  have HEB := hid heb
  clear heb
  have hR2 := hR.all (cs := [.int .i64 r, .int .i64 n]) rfl
  go_wp2_with (refine wpList_store_mid rfl 66 (.tmp 2) (.tmp 7) rfl rb 0 #[.int .i64 r, .int .i64 n] rfl rfl hR.there (by kernel_rfl) (all_oneCell_toArray (by simp [Value.oneCell'])) ?_)
  try simp only [Exit.inBlock, Exit.then]
  refine bodyPost_ret (results_cell_bx rfl _ _ rb _ _ rfl hR2.range Try.underlying66 rfl (by kernel_rfl)) rfl ?_
  exact ⟨rfl, Kp.setCells (a := w) (b := rb) (by rw [HEB.out]; exact hz0) [.int .i64 r, .int .i64 n] 0 w1 k0⟩
/-! a copy -/
set_option maxRecDepth 8000 in
set_option maxHeartbeats 1600000 in
theorem dClone_any (e : Ev) (v : Value) (w : World) (hp : Ints w v e.past) (hl : e.past.length ≤ 1000000000) : Calls Try.prog 43 #[evV e v] w fun x w' => ∃ v', x = .returned (evV e v') ∧ Own encInt 3 1 w.heap.size w' v' e.past ∧ Kp w w' := by
  obtain ⟨A, c, rfl, hc, hm⟩ := hp.form
  obtain ⟨r, n, t, pa, kd, ac, ⟨⟨g1, g2, g3⟩, g4⟩, ds, pl, se⟩ := e
  dsimp only at hp hl hc ⊢
  obtain ⟨v, hv⟩ : ∃ v, Value.slice A pa.length c = v := ⟨_, rfl⟩
  rw [hv] at hp ⊢
  have HV := hid hv
  clear hv
  have hE := (Bx.new w #[.int .i64 r, .int .i64 n, .int .i64 t, v, .int .i64 kd, .int .i64 ac, .int .i64 g1, .int .i64 g2, .int .i64 g3, .int .i64 g4, .int .i64 ds, .int .i64 pl, .int .i64 se] 33).keep (heap_alloc_old _ (.cells #[.int .i64 0, .int .i64 0, .int .i64 0, .slice none 0 0, .int .i64 0, .int .i64 0, .int .i64 0, .int .i64 0, .int .i64 0, .int .i64 0, .int .i64 0, .int .i64 0, .int .i64 0] 33) (by simp))
  have hR := Bx.new (w.alloc (.cells #[.int .i64 r, .int .i64 n, .int .i64 t, v, .int .i64 kd, .int .i64 ac, .int .i64 g1, .int .i64 g2, .int .i64 g3, .int .i64 g4, .int .i64 ds, .int .i64 pl, .int .i64 se] 33)) #[.int .i64 0, .int .i64 0, .int .i64 0, .slice none 0 0, .int .i64 0, .int .i64 0, .int .i64 0, .int .i64 0, .int .i64 0, .int .i64 0, .int .i64 0, .int .i64 0, .int .i64 0] 33
  rw [World.size_alloc] at hR
  have k0 := ((Kp.refl w).alloc (.cells #[.int .i64 r, .int .i64 n, .int .i64 t, v, .int .i64 kd, .int .i64 ac, .int .i64 g1, .int .i64 g2, .int .i64 g3, .int .i64 g4, .int .i64 ds, .int .i64 pl, .int .i64 se] 33)).alloc (.cells #[.int .i64 0, .int .i64 0, .int .i64 0, .slice none 0 0, .int .i64 0, .int .i64 0, .int .i64 0, .int .i64 0, .int .i64 0, .int .i64 0, .int .i64 0, .int .i64 0, .int .i64 0] 33)
  dsimp only [evV, evL]
  go_enter Try.func43, Try.ntmps43
  go_upto_region 1 with (fail)
  generalize (w.alloc (.cells #[.int .i64 r, .int .i64 n, .int .i64 t, v, .int .i64 kd, .int .i64 ac, .int .i64 g1, .int .i64 g2, .int .i64 g3, .int .i64 g4, .int .i64 ds, .int .i64 pl, .int .i64 se] 33)).alloc (.cells #[.int .i64 0, .int .i64 0, .int .i64 0, .slice none 0 0, .int .i64 0, .int .i64 0, .int .i64 0, .int .i64 0, .int .i64 0, .int .i64 0, .int .i64 0, .int .i64 0, .int .i64 0] 33) = w1 at *
  have e3 := hE.cell (j := 3) rfl
  have hel := hE.lt (by simp)
  have hrl := hR.lt (by simp)
  have hz0 : w.heap.size ≤ w.heap.size := Nat.le_refl _
  obtain ⟨rb, hrb⟩ : ∃ rb, w.heap.size + 1 = rb := ⟨_, rfl⟩
  rw [hrb] at hR hrl ⊢
  obtain ⟨eb, heb⟩ : ∃ eb, w.heap.size = eb := ⟨_, rfl⟩
  rw [heb] at hE hel e3 hrb ⊢
  have HEB := hid heb
  have her : eb ≠ rb := by omega
  have HRB := hid hrb
  clear heb hrb
  go_wp2_with fail
  refine (CloneI_any v pa w1 (hp.keep (pl_stable _) k0) hl).mono ?_
  rintro x w2 ⟨v', rfl, own, k2⟩
  obtain ⟨A', c', rfl, -, -⟩ := own.form
  have hE2 := hE.keep (k2.block hel)
  have hR2 := hR.keep (k2.block hrl)
  have hz2 := k2.size
  clear e3
  have e3 := hE2.cell (j := 3) rfl
  have f3 := hE2.free (j := 3) (by simp)
  have hE3 := hE2.set (j := 3) (by simp) (.slice A' pa.length c')
  simp only [List.set_cons_zero, List.set_cons_succ] at hE3
  have hR3 := hR2.keep (set_block w2 ⟨eb, 3, none⟩ (.slice A' pa.length c') rb (by show rb ≠ eb; omega))
  have hw1 := k0.size
  have own3 := own.kg ((Kg.refl w2 eb).set (p := ⟨eb, 3, none⟩) (.inl rfl) (.slice A' pa.length c')) (by omega)
  have k3 := (k0.trans k2).set (p := ⟨eb, 3, none⟩) (by show w.heap.size ≤ eb; rw [HEB.out]; exact Nat.le_refl _) (.slice A' pa.length c')
  go_upto_region 2 with (fail)
  generalize w2.setCell ⟨eb, 3, none⟩ (.slice A' pa.length c') = w3 at *
  obtain ⟨cs, hcs⟩ : ∃ cs, evL ⟨r, n, t, pa, kd, ac, ((g1, g2, g3), g4), ds, pl, se⟩ (.slice A' pa.length c') = cs := ⟨_, rfl⟩
  have hl13 : cs.length = 13 := by rw [← hcs]; rfl
  have H1C : Hid (∀ u ∈ cs, u.oneCell' = true) := hid (by rw [← hcs]; exact evL_one _ _ _ _)
  have hE4 : Bx w3 eb cs := by rw [← hcs]; exact hE3
  have hR4 := hR3.all (cs := cs) (by rw [hl13]; rfl)
  have hth : w3.there rb 0 cs.toArray.size := by have := hR3.there; simpa [hl13] using this
  have hi : (Try.prog.info? 33).map (·.size) = some cs.length := by rw [hl13]; kernel_rfl
  have hi2 : (Try.prog.info? 33).map (·.size) = some cs.toArray.size := by rw [List.size_toArray, hl13]; kernel_rfl
  have HCS := hid hcs
  have own4 := own3.owS (w3.setCells rb 0 cs) (by rw [setCells_size]; exact Nat.le_refl _) fun q hq hlt => setCells_block rb q (by have := own3.ge q hq; omega) cs 0 w3
  have k4 := Kp.setCells (a := w) (b := rb) (by have := HEB.out; have := HRB.out; omega) cs 0 w3 k3
  clear hcs hl13 hE3 hE2 hR2 e3 f3 own own3 k2 hR
  go_wp2_with (first | (refine wpList_load_mid rfl 33 (.tmp 1) rfl eb 0 rfl cs _ hE4.range Try.underlying33 rfl hi ?_) | (refine wpList_store_mid rfl 33 (.tmp 2) (.tmp 7) rfl rb 0 cs.toArray rfl rfl hth hi2 (all_oneCell_toArray H1C.out) ?_))
  try simp only [Exit.inBlock, Exit.then]
  refine bodyPost_ret (results_cell_bx rfl _ _ rb _ _ rfl hR4.range Try.underlying33 rfl hi) rfl ?_
  refine ⟨.slice A' pa.length c', ?_, own4.less hw1, k4⟩
  rw [← HCS.out]
  rfl
end Go.Proofs.Ytcddllaljgfjbaa
