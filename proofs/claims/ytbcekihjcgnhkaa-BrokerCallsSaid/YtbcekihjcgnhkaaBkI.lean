
/-
Requests sorted by their priority: what slices.SortFunc leaves.
-/
import Derived.Test.YtbcekihjcgnhkaaBkH
import Derived.Shelf.SlSortCmp.NoneTotal
namespace Go.Proofs.Ytbcekihjcgnhkaa
set_option linter.unusedSimpArgs false
set_option linter.unusedVariables false
set_option linter.unusedSectionVars false
open Go.RowKit Go.Shelf Go.Sort

/-- a request with the slice of its needs -/
structure AV where
  a : Ak
  A : Option Addr
  n : Nat
  c : Nat
instance : Inhabited AV := ⟨⟨zAk, none, 0, 0⟩⟩
abbrev AV.v (x : AV) : Value := .slice x.A x.n x.c
def encAV (x : AV) : List Value := askL x.a x.v
theorem encAV_len (x : AV) : (encAV x).length = 6 := rfl
theorem encAV_one (x : AV) : ∀ u ∈ encAV x, u.oneCell' = true := by simp [encAV, askL, Value.oneCell', AV.v]
def cmpA (p q : Pr) : Int := if lessB p q then -1 else if lessB q p then 1 else 0
set_option maxRecDepth 8000 in
set_option maxHeartbeats 4000000 in
theorem bReq1_at (x y : AV) (w : World) : Calls Try.prog 53 #[.agg (encAV x).toArray, .agg (encAV y).toArray] w fun e w' => e = .returned (.int .i64 (cmpA x.a.pri y.a.pri)) ∧ KpD w w' := by
  obtain ⟨⟨n1, ⟨x1, x2, x3, x4⟩, l1⟩, A1, m1, c1⟩ := x
  obtain ⟨⟨n2, ⟨y1, y2, y3, y4⟩, l2⟩, A2, m2, c2⟩ := y
  show Calls Try.prog 53 #[.agg #[.int .i64 n1, .int .i64 x1, .int .i64 x2, .int .i64 x3, .int .i64 x4, .slice A1 m1 c1], .agg #[.int .i64 n2, .int .i64 y1, .int .i64 y2, .int .i64 y3, .int .i64 y4, .slice A2 m2 c2]] w fun e w' => e = .returned (.int .i64 (cmpA (x1, x2, x3, x4) (y1, y2, y3, y4))) ∧ KpD w w'
  have HC : Hid (cmpA (x1, x2, x3, x4) (y1, y2, y3, y4) = if lessB (x1, x2, x3, x4) (y1, y2, y3, y4) then -1 else if lessB (y1, y2, y3, y4) (x1, x2, x3, x4) then 1 else 0) := hid rfl
  generalize cmpA (x1, x2, x3, x4) (y1, y2, y3, y4) = R at *
  have k1 := ((KpD.refl w).alloc (.cells #[.int .i64 n1, .int .i64 x1, .int .i64 x2, .int .i64 x3, .int .i64 x4, .slice A1 m1 c1] 29)).alloc (.cells #[.int .i64 n2, .int .i64 y1, .int .i64 y2, .int .i64 y3, .int .i64 y4, .slice A2 m2 c2] 29)
  have hX := (Bx.new w #[.int .i64 n1, .int .i64 x1, .int .i64 x2, .int .i64 x3, .int .i64 x4, .slice A1 m1 c1] 29).keep (heap_alloc_old _ (.cells #[.int .i64 n2, .int .i64 y1, .int .i64 y2, .int .i64 y3, .int .i64 y4, .slice A2 m2 c2] 29) (by simp))
  have hY := Bx.new (w.alloc (.cells #[.int .i64 n1, .int .i64 x1, .int .i64 x2, .int .i64 x3, .int .i64 x4, .slice A1 m1 c1] 29)) #[.int .i64 n2, .int .i64 y1, .int .i64 y2, .int .i64 y3, .int .i64 y4, .slice A2 m2 c2] 29
  rw [World.size_alloc] at hY
  go_enter Try.func53, Try.ntmps53
  go_upto_region 1 with (fail)
  generalize (w.alloc (.cells #[.int .i64 n1, .int .i64 x1, .int .i64 x2, .int .i64 x3, .int .i64 x4, .slice A1 m1 c1] 29)).alloc (.cells #[.int .i64 n2, .int .i64 y1, .int .i64 y2, .int .i64 y3, .int .i64 y4, .slice A2 m2 c2] 29) = w1 at *
  have hxl := hX.lt (by simp)
  have hyl := hY.lt (by simp)
  generalize w.heap.size = b at *
  have a1 := hX.cell (j := 1) rfl
  have a2 := hX.cell (j := 2) rfl
  have a3 := hX.cell (j := 3) rfl
  have a4 := hX.cell (j := 4) rfl
  have b1 := hY.cell (j := 1) rfl
  have b2 := hY.cell (j := 2) rfl
  have b3 := hY.cell (j := 3) rfl
  have b4 := hY.cell (j := 4) rfl
  go_wp2_with fail
  refine (bLess_at (x1, x2, x3, x4) (y1, y2, y3, y4) w1).mono ?_
  rintro e w2 ⟨rfl, k2⟩
  have k12 := k1.trans k2
  by_cases h1 : lessB (x1, x2, x3, x4) (y1, y2, y3, y4) = true
  · have HR : Hid (R = -1) := hid (by rw [HC.out, if_pos h1])
    rw [h1]
    go_wp2
    go_ret
    exact ⟨ret_int HR.out.symm, k12⟩
  · have HR : Hid (R = if lessB (y1, y2, y3, y4) (x1, x2, x3, x4) then 1 else 0) := hid (by rw [HC.out, if_neg h1])
    replace h1 := eq_false_of_ne_true h1
    rw [h1]
    replace hX := hX.keep (k2.kp.block hxl)
    replace hY := hY.keep (k2.kp.block hyl)
    clear a1 a2 a3 a4 b1 b2 b3 b4
    have a1 := hX.cell (j := 1) rfl
    have a2 := hX.cell (j := 2) rfl
    have a3 := hX.cell (j := 3) rfl
    have a4 := hX.cell (j := 4) rfl
    have b1 := hY.cell (j := 1) rfl
    have b2 := hY.cell (j := 2) rfl
    have b3 := hY.cell (j := 3) rfl
    have b4 := hY.cell (j := 4) rfl
    go_wp2_with fail
    refine (bLess_at (y1, y2, y3, y4) (x1, x2, x3, x4) w2).mono ?_
    rintro e w3 ⟨rfl, k3⟩
    by_cases h2 : lessB (y1, y2, y3, y4) (x1, x2, x3, x4) = true
    · have HS : Hid (R = 1) := hid (by rw [HR.out, if_pos h2])
      rw [h2]
      go_wp2
      go_ret
      exact ⟨ret_int HS.out.symm, k12.trans k3⟩
    · have HS : Hid (R = 0) := hid (by rw [HR.out, if_neg h2])
      replace h2 := eq_false_of_ne_true h2
      rw [h2]
      go_wp2
      go_ret
      exact ⟨ret_int HS.out.symm, k12.trans k3⟩
theorem cmpA_lt (p q : Pr) : decide (cmpA p q < 0) = lessB p q := by
  unfold cmpA
  by_cases h1 : lessB p q = true
  · rw [if_pos h1, h1]; rfl
  · rw [if_neg h1]
    replace h1 := eq_false_of_ne_true h1
    rw [h1]
    split <;> rfl
theorem swoA : SWO (ltOf fun x y : AV => cmpA x.a.pri y.a.pri) := by
  have e : ∀ x y : AV, ltOf (fun x y : AV => cmpA x.a.pri y.a.pri) x y = lessB x.a.pri y.a.pri := fun x y => cmpA_lt _ _
  refine ⟨fun x => ?_, fun x y z h k => ?_, fun x y z h k => ?_⟩
  · rw [e]; exact lessB_irrefl _
  · rw [e] at *; exact lessB_trans h k
  · rw [e] at *
    cases hz : lessB x.a.pri z.a.pri with
    | false => rfl
    | true =>
      rcases less_total y.a.pri x.a.pri with h1 | h1 | h1
      · rw [lessB_trans (decide_eq_true h1) hz] at k
        cases k
      · rw [← h1, k] at hz
        cases hz
      · rw [show lessB x.a.pri y.a.pri = true from decide_eq_true h1] at h
        cases h
def sortK_ren : Go.Shelf.Ren := ⟨fun | 6 => 52 | 15 => 56 | 14 => 55 | 28 => 65 | 29 => 66 | 20 => 57 | 21 => 58 | 22 => 59 | 23 => 60 | 24 => 61 | 25 => 62 | 26 => 63 | 27 => 64 | 46 => 67 | 47 => 68 | 48 => 69 | 49 => 70 | 50 => 71 | 57 => 72 | n => n, fun | 22 => 49 | 24 => 29 | 25 => 104 | 3 => 3 | 39 => 109 | 0 => 0 | 53 => 119 | 55 => 121 | 4 => 4 | 46 => 112 | 45 => 111 | 50 => 116 | 5 => 5 | 9 => 9 | 66 => 122 | 70 => 126 | 76 => 128 | 77 => 87 | n => n, fun | n => n⟩
theorem sortK : Go.Proofs.SlLaysF0.n6 Try.prog sortK_ren := {
  mixed := by kernel_rfl,
  f6 := ⟨Try.f52.name, by decide +kernel, Try.func52.trans (congrArg some (by kernel_rfl))⟩,
  f14 := ⟨Try.f55.name, by decide +kernel, Try.func55.trans (congrArg some (by kernel_rfl))⟩,
  f15 := Try.func56.trans (congrArg some (by kernel_rfl)),
  f20 := ⟨Try.f57.name, by decide +kernel, Try.func57.trans (congrArg some (by kernel_rfl))⟩,
  f21 := ⟨Try.f58.name, by decide +kernel, Try.func58.trans (congrArg some (by kernel_rfl))⟩,
  f22 := ⟨Try.f59.name, by decide +kernel, Try.func59.trans (congrArg some (by kernel_rfl))⟩,
  f23 := ⟨Try.f60.name, by decide +kernel, Try.func60.trans (congrArg some (by kernel_rfl))⟩,
  f24 := ⟨Try.f61.name, by decide +kernel, Try.func61.trans (congrArg some (by kernel_rfl))⟩,
  f25 := ⟨Try.f62.name, by decide +kernel, Try.func62.trans (congrArg some (by kernel_rfl))⟩,
  f26 := ⟨Try.f63.name, by decide +kernel, Try.func63.trans (congrArg some (by kernel_rfl))⟩,
  f27 := ⟨Try.f64.name, by decide +kernel, Try.func64.trans (congrArg some (by kernel_rfl))⟩,
  f28 := Try.func65.trans (congrArg some (by kernel_rfl)),
  f29 := Try.func66.trans (congrArg some (by kernel_rfl)),
  f46 := ⟨Try.f67.name, by decide +kernel, Try.func67.trans (congrArg some (by kernel_rfl))⟩,
  f47 := Try.func68.trans (congrArg some (by kernel_rfl)),
  f48 := Try.func69.trans (congrArg some (by kernel_rfl)),
  f49 := ⟨Try.f70.name, by decide +kernel, Try.func70.trans (congrArg some (by kernel_rfl))⟩,
  f50 := ⟨Try.f71.name, by decide +kernel, Try.func71.trans (congrArg some (by kernel_rfl))⟩,
  f57 := ⟨Try.f72.name, by decide +kernel, Try.func72.trans (congrArg some (by kernel_rfl))⟩,
  t0 := Try.underlying0,
  a0 := Try.isAgg0,
  z0 := Try.sizeOf0,
  v0 := Try.zeroValue0,
  t3 := Try.underlying3,
  a3 := Try.isAgg3,
  z3 := Try.sizeOf3,
  v3 := Try.zeroValue3,
  t4 := Try.underlying4,
  a4 := Try.isAgg4,
  z4 := Try.sizeOf4,
  v4 := Try.zeroValue4,
  t5 := Try.underlying5,
  a5 := Try.isAgg5,
  z5 := Try.sizeOf5,
  v5 := Try.zeroValue5,
  t9 := Try.underlying9,
  a9 := Try.isAgg9,
  z9 := Try.sizeOf9,
  v9 := Try.zeroValue9,
  t22 := Try.underlying49,
  a22 := Try.isAgg49,
  z22 := Try.sizeOf49,
  v22 := Try.zeroValue49,
  t25 := Try.underlying104,
  a25 := Try.isAgg104,
  z25 := Try.sizeOf104,
  v25 := Try.zeroValue104,
  t39 := Try.underlying109,
  a39 := Try.isAgg109,
  z39 := Try.sizeOf109,
  v39 := Try.zeroValue109,
  t45 := Try.underlying111,
  a45 := Try.isAgg111,
  z45 := Try.sizeOf111,
  v45 := Try.zeroValue111,
  t46 := Try.underlying112,
  a46 := Try.isAgg112,
  z46 := Try.sizeOf112,
  v46 := Try.zeroValue112,
  t50 := Try.underlying116,
  a50 := Try.isAgg116,
  z50 := Try.sizeOf116,
  v50 := Try.zeroValue116,
  t53 := Try.underlying119,
  a53 := Try.isAgg119,
  z53 := Try.sizeOf119,
  v53 := Try.zeroValue119,
  t55 := Try.underlying121,
  a55 := Try.isAgg121,
  z55 := Try.sizeOf121,
  v55 := Try.zeroValue121,
  t66 := Try.underlying122,
  a66 := Try.isAgg122,
  z66 := Try.sizeOf122,
  v66 := Try.zeroValue122,
  t70 := Try.underlying126,
  a70 := Try.isAgg126,
  z70 := Try.sizeOf126,
  v70 := Try.zeroValue126,
  t76 := Try.underlying128,
  a76 := Try.isAgg128,
  z76 := Try.sizeOf128,
  v76 := Try.zeroValue128,
  t77 := Try.underlying87,
  a77 := Try.isAgg87,
  z77 := Try.sizeOf87,
  v77 := Try.zeroValue87 }

theorem flatK_flat {α : Type} [Inhabited α] {enc : α → List Value} {k : Nat} (he : ∀ x, (enc x).length = k) (hk : 0 < k) (d : Array α) : (flatK enc k d).toList = flat enc d.toList := by
  apply List.ext_getElem?
  intro t
  by_cases ht : t < d.size * k
  · have hi : t / k < d.toList.length := by simpa using (Nat.div_lt_iff_lt_mul hk).2 ht
    have hm : t % k < k := Nat.mod_lt _ hk
    have hdm : t / k * k + t % k = t := by rw [Nat.mul_comm]; exact Nat.div_add_mod t k
    have h1 := flat_get he d.toList (t / k) hi (t % k) hm
    rw [hdm] at h1
    rw [h1, Array.getElem?_toList, Array.getElem?_eq_getElem (by simpa using ht)]
    have h2 := get_flatK enc k d t ht
    have hF : t < (flatK enc k d).size := by simpa using ht
    have hi' : t / k < d.size := by simpa using hi
    have hl : t % k < (enc d[t / k]).length := by rw [he]; exact hm
    have h3 : (flatK enc k d)[t]! = (flatK enc k d)[t] := getElem!_pos (flatK enc k d) t hF
    have h4 : d[t / k]! = d[t / k] := getElem!_pos d (t / k) hi'
    have h5 : (enc d[t / k])[t % k]! = (enc d[t / k])[t % k] := getElem!_pos (enc d[t / k]) (t % k) hl
    rw [h3, h4, h5] at h2
    rw [h2]
    simp [hl]
  · rw [List.getElem?_eq_none (by simp; omega), List.getElem?_eq_none (by rw [flat_length he]; simp; omega)]
section
variable {α : Type} [Inhabited α] {enc : α → List Value} {k : Nat}
theorem heap_sortK {w : World} {g n : Nat} {os : Array Obj} {cur : Array Value} {e : TypeId} {fr : Nat × Nat} (d : Array α) (hb : w.heap[g]? = some (.cells cur e fr)) :
    (sortWorldK enc k w g 0 n d os).heap[g]? = some (.cells (putCells id 0 (flatK enc k d) cur) e fr) := by
  have hg : g < w.heap.size := (Array.getElem?_eq_some_iff.1 hb).1
  unfold sortWorldK
  rw [heap_grow_old _ _ (by rw [size_putRowK]; exact hg)]
  simp [putRowK, putRow, mapBlock, Sort.ahead, Array.getElem?_modify, hb, onCells]
theorem grownBy_sortK {w : World} {g n : Nat} {os : Array Obj} (d : Array α) : w.grownBy (sortWorldK enc k w g 0 n d os) (some g) := by
  refine ⟨rfl, rfl, rfl, by simp [sortWorldK, putRowK, putRow, mapBlock, Sort.ahead], fun i hi hne => ?_⟩
  unfold sortWorldK
  rw [heap_grow_old _ _ (by rw [size_putRowK]; exact hi)]
  have : g ≠ i := fun e => hne (by rw [e])
  simp [putRowK, putRow, mapBlock, Sort.ahead, Array.getElem?_modify, this]
theorem take_putCellsK (cur F : Array Value) (h : F.size ≤ cur.size) : (putCells id 0 F cur).toList.take F.size = F.toList := by
  apply List.ext_getElem?
  intro j
  by_cases hj : j < F.size
  · rw [List.getElem?_take_of_lt hj, Array.getElem?_toList]
    simp [putCells, hj, show j < cur.size by omega]
  · rw [List.getElem?_take_eq_none (by omega), List.getElem?_eq_none (by simp; omega)]
end
set_option maxHeartbeats 2000000 in
theorem bSort_any {base : Nat} {w : World} {v : Value} {l : List AV} (h : Own encAV 29 6 base w v l) (hlen : l.length ≤ 1000000000) :
    Calls Try.prog 52 #[v, .func (.func 53) #[] #[]] w fun e w' => e = .returned (.tuple #[]) ∧ ∃ l', Own encAV 29 6 base w' v l' ∧ l'.Perm l ∧ l'.Pairwise (fun x y => lessB y.a.pri x.a.pri = false) ∧ w.grownBy w' v.ownBlock := by
  cases l with
  | nil =>
    obtain ⟨A, c, rfl, -, -⟩ := h.form
    refine (AnyF.slices_SortFunc_none (P := Try.prog) (ρ := sortK_ren) sortK A c _ w).mono ?_
    rintro e w' ⟨rfl, rfl⟩
    exact ⟨rfl, [], h, .refl _, .nil, World.grownBy.refl _ _⟩
  | cons x0 xr =>
    generalize hxs : x0 :: xr = l at *
    have hpos : 0 < l.length := by rw [← hxs]; simp
    obtain ⟨g, c, hv, hcc, hcm, hgb, hgw⟩ := h.row hpos
    subst hv
    obtain ⟨cur, hcur, hcs2, htake⟩ : ∃ cur, w.heap[g]? = some (.cells cur 29 (0, 0)) ∧ cur.size = c * 6 ∧ cur.toList.take (l.length * 6) = flat encAV l := by
      rcases h.2 with ⟨e, -⟩ | ⟨g', c', cur, e, -, h1, -, -, h2, h3⟩
      · cases e
      · injection e with e1 e2 e3
        injection e1 with e1
        injection e1 with e1
        subst e1 e3
        exact ⟨cur, h1, h2, h3⟩
    have hfl := flatK_flat (k := 6) encAV_len (by omega) l.toArray
    have hH : HoldsK encAV 6 w g 0 l.toArray := fun t ht => by
      have ht' : t < l.length * 6 := by simpa using ht
      have h1 : (flatK encAV 6 l.toArray)[t]! = (flatK encAV 6 l.toArray)[t]'ht := getElem!_pos (flatK encAV 6 l.toArray) t ht
      have h2 : (flat encAV l)[t]? = some ((flatK encAV 6 l.toArray)[t]'ht) := by
        have h3 : (flat encAV l) = (flatK encAV 6 l.toArray).toList := hfl.symm
        rw [h3, Array.getElem?_toList, Array.getElem?_eq_getElem ht]
      have h4 := World.ownsRow.cells h (g := g) rfl t _ h2
      rw [h1, Nat.zero_add]
      refine ⟨?_, h.frozen rfl t⟩
      unfold Addr.add at h4
      split at h4
      · rename_i h0
        subst h0
        simpa using h4
      · simpa using h4
    have hcmp : CmpLays Try.prog 53 #[] encAV 6 (fun x y => cmpA x.a.pri y.a.pri) g 0 l.toArray.size w := fun m os dk hdk x y =>
      (bReq1_at x y _).mono fun e w' ⟨h1, h2⟩ => ⟨h1, h2.ex⟩
    have eg : ∀ args w, (callFunc 53 args).run Try.prog w = .ok (.enter 53 args) w := enters_of Try.func53 (by kernel_rfl) rfl
    have hS := AnyQ.slices_SortFunc (P := Try.prog) (ρ := sortK_ren) sortK 6 Try.isAgg29 Try.sizeOf29 encAV encAV_len encAV_one (fun x y => cmpA x.a.pri y.a.pri) swoA 53 #[] g 0 c l.toArray w eg hcmp hH hgw (by simp; omega)
    refine Calls.mono hS ?_
    rintro e w' ⟨rfl, d', n, os, hperm, hsort, rfl⟩
    obtain ⟨hsz, -, hpm⟩ := hperm
    simp only [List.size_toArray] at hsz hpm hsort
    have hpm2 : d'.toList.Perm l := by
      have e1 : (d'.extract 0 l.length).toList = d'.toList := by simp [← hsz]
      have e2 : (l.toArray.extract 0 l.length).toList = l := by simp
      rw [e1, e2] at hpm
      exact hpm
    have hgr := grownBy_sortK (enc := encAV) (k := 6) (w := w) (g := g) (n := n) (os := os) d'
    have hfl' := flatK_flat (k := 6) encAV_len (by omega) d'
    have hF : (flatK encAV 6 d').size = l.length * 6 := by rw [size_flatK, hsz]
    refine ⟨rfl, d'.toList, ?_, hpm2, ?_, hgr⟩
    · have hl : d'.toList.length = l.length := hpm2.length_eq
      unfold Own
      rw [hl]
      refine ⟨by rw [flat_length encAV_len, hl], .inr ⟨g, c, putCells id 0 (flatK encAV 6 d') cur, rfl, hgb, heap_sortK d' hcur, hcc, by unfold maxLen; exact hcm, by simp [putCells, hcs2], ?_⟩⟩
      rw [← hfl', ← hF]
      exact take_putCellsK cur _ (by rw [hF, hcs2]; omega)
    · rw [List.pairwise_iff_getElem]
      intro i j hi hj hij
      have hi' : i < d'.size := by simpa using hi
      have hj' : j < d'.size := by simpa using hj
      have := hsort i j (Nat.zero_le _) hij (by omega)
      unfold ltOf at this
      rw [cmpA_lt] at this
      simpa [hi', hj'] using this
end Go.Proofs.Ytbcekihjcgnhkaa
