
/-
Lists of vertices sorted by their length, then lexicographically: what slices.SortFunc leaves.
-/
import Derived.Test.YtlkabhjkncklnaaDgL
import Derived.Shelf.SlSortCmp.NoneTotal
namespace Go.Proofs.Ytlkabhjkncklnaa
set_option linter.unusedSimpArgs false
set_option linter.unusedVariables false
open Go.RowKit Go.Shelf Go.Sort

/-! the order -/
def ltI : List Int → List Int → Prop
  | _, [] => False
  | [], _ :: _ => True
  | x :: a, y :: b => x < y ∨ (x = y ∧ ltI a b)
theorem cmpL_lt : ∀ a b : List Int, cmpL a b < 0 ↔ ltI a b
  | [], [] => by simp [cmpL, ltI]
  | [], _ :: _ => by simp [cmpL, ltI]
  | _ :: _, [] => by simp [cmpL, ltI]
  | x :: a, y :: b => by
    unfold cmpL ltI
    unfold cmpI
    have ih := cmpL_lt a b
    by_cases h1 : x < y
    · simp [h1]
    · by_cases h2 : y < x
      · have : ¬ x = y := by omega
        simp [h1, h2, this]
      · have : x = y := by omega
        simp [h1, h2, this, ih]
theorem ltI_irrefl : ∀ a : List Int, ¬ ltI a a
  | [] => by simp [ltI]
  | x :: a => by
    unfold ltI
    have := ltI_irrefl a
    simp [this]
theorem ltI_trans : ∀ a b c : List Int, ltI a b → ltI b c → ltI a c
  | _, [], _, h, _ => by cases ‹List Int› <;> simp [ltI] at h
  | _, _ :: _, [], _, h => by simp [ltI] at h
  | [], _ :: _, _ :: _, _, _ => by simp [ltI]
  | x :: a, y :: b, z :: c, h, k => by
    unfold ltI at h k ⊢
    have := ltI_trans a b c
    rcases h with h | ⟨h, h'⟩ <;> rcases k with k | ⟨k, k'⟩
    · exact .inl (by omega)
    · exact .inl (by omega)
    · exact .inl (by omega)
    · exact .inr ⟨by omega, this h' k'⟩
theorem ltI_total : ∀ a b : List Int, ltI a b ∨ a = b ∨ ltI b a
  | [], [] => .inr (.inl rfl)
  | [], _ :: _ => .inl trivial
  | _ :: _, [] => .inr (.inr trivial)
  | x :: a, y :: b => by
    unfold ltI
    rcases ltI_total a b with h | h | h
    all_goals
      rcases Int.lt_trichotomy x y with k | k | k
      · exact .inl (.inl k)
      · first | exact .inl (.inr ⟨k, h⟩) | exact .inr (.inr (.inr ⟨k.symm, h⟩)) | exact .inr (.inl (by rw [k, h]))
      · exact .inr (.inr (.inl k))
/-- shorter, or as long and less -/
def ltLL (a b : List Int) : Prop := a.length < b.length ∨ (a.length = b.length ∧ ltI a b)
theorem cmpLL_lt (a b : List Int) : cmpLL a b < 0 ↔ ltLL a b := by
  unfold cmpLL ltLL orL orL orL cmpI
  rw [← cmpL_lt]
  by_cases h1 : (a.length : Int) < b.length
  · have : a.length < b.length := by omega
    simp [h1, this]
  · by_cases h2 : (b.length : Int) < a.length
    · have h3 : ¬ a.length < b.length := by omega
      have h4 : ¬ a.length = b.length := by omega
      have h5 : ¬ a.length ≤ b.length := by omega
      simp [h1, h2, h3, h4, h5]
    · have h3 : ¬ a.length < b.length := by omega
      have h4 : a.length = b.length := by omega
      simp [h4]
      by_cases h : cmpL a b = 0 <;> simp [h]
theorem ltLL_irrefl (a : List Int) : ¬ ltLL a a := by
  rintro (h | ⟨-, h⟩)
  · omega
  · exact ltI_irrefl a h
theorem ltLL_trans {a b c : List Int} (h : ltLL a b) (k : ltLL b c) : ltLL a c := by
  unfold ltLL at *
  rcases h with h | ⟨h, h'⟩ <;> rcases k with k | ⟨k, k'⟩
  · exact .inl (by omega)
  · exact .inl (by omega)
  · exact .inl (by omega)
  · exact .inr ⟨by omega, ltI_trans _ _ _ h' k'⟩
theorem ltLL_total (a b : List Int) : ltLL a b ∨ a = b ∨ ltLL b a := by
  unfold ltLL
  rcases Nat.lt_trichotomy a.length b.length with h | h | h
  · exact .inl (.inl h)
  · rcases ltI_total a b with k | k | k
    · exact .inl (.inr ⟨h, k⟩)
    · exact .inr (.inl k)
    · exact .inr (.inr (.inr ⟨h.symm, k⟩))
  · exact .inr (.inr (.inl h))
theorem swoLL {α : Type} (f : α → List Int) : SWO (ltOf fun x y => cmpLL (f x) (f y)) := by
  have e : ∀ x y, (ltOf fun x y => cmpLL (f x) (f y)) x y = true ↔ ltLL (f x) (f y) := fun x y => by
    unfold ltOf
    rw [decide_eq_true_iff]
    exact cmpLL_lt _ _
  have e' : ∀ x y, (ltOf fun x y => cmpLL (f x) (f y)) x y = false ↔ ¬ ltLL (f x) (f y) := fun x y => by rw [← e, Bool.not_eq_true]
  refine ⟨fun x => (e' _ _).2 (ltLL_irrefl _), fun x y z h k => (e _ _).2 (ltLL_trans ((e _ _).1 h) ((e _ _).1 k)), fun x y z h k => (e' _ _).2 fun hh => ?_⟩
  rcases ltLL_total (f y) (f x) with h1 | h1 | h1
  · exact (e' _ _).1 k (ltLL_trans h1 hh)
  · exact (e' _ _).1 k (h1 ▸ hh)
  · exact (e' _ _).1 h h1
/-! the world behind a sort -/
section
variable {α : Type} [Inhabited α] {enc : α → Value}
theorem heap_sortG {w : World} {g n : Nat} {os : Array Obj} {cur : Array Value} {e : TypeId} {fr : Nat × Nat} (d : Array α) (hb : w.heap[g]? = some (.cells cur e fr)) :
    (grow (putRow enc (Sort.ahead w n) g 0 d) os).heap[g]? = some (.cells (putCells enc 0 d cur) e fr) := by
  have hg : g < w.heap.size := (Array.getElem?_eq_some_iff.1 hb).1
  rw [heap_grow_old _ _ (by simpa using hg)]
  simp [putRow, mapBlock, Sort.ahead, Array.getElem?_modify, hb, onCells]
theorem grownBy_sortG {w : World} {g n : Nat} {os : Array Obj} (d : Array α) : w.grownBy (grow (putRow enc (Sort.ahead w n) g 0 d) os) (some g) := by
  refine ⟨rfl, rfl, rfl, by simp, fun k hk hne => ?_⟩
  rw [heap_grow_old _ _ (by simpa using hk)]
  have : g ≠ k := fun e => hne (by rw [e])
  simp [putRow, mapBlock, Sort.ahead, Array.getElem?_modify, this]
theorem take_putCellsG (cur : Array Value) (d : Array α) (h : d.size ≤ cur.size) : (putCells enc 0 d cur).toList.take d.size = d.toList.map enc := by
  apply List.ext_getElem?
  intro j
  by_cases hj : j < d.size
  · rw [List.getElem?_take_of_lt hj, Array.getElem?_toList]
    simp [putCells, hj, show j < cur.size by omega]
  · rw [List.getElem?_take_eq_none (by omega), List.getElem?_eq_none (by simp; omega)]
theorem sortW_block {w : World} {g n k : Nat} {os : Array Obj} (d : Array α) (hk : k < w.heap.size) (hne : k ≠ g) : (sortWorld enc w g 0 n d os).heap[k]? = w.heap[k]? :=
  (grownBy_sortG (enc := enc) (n := n) (os := os) d).block k hk (by simpa using hne)
end
def sortL_ren : Go.Shelf.Ren := ⟨fun | 6 => 49 | 15 => 58 | 14 => 57 | 28 => 71 | 29 => 72 | 20 => 63 | 21 => 64 | 22 => 65 | 23 => 66 | 24 => 67 | 25 => 68 | 26 => 69 | 27 => 70 | 46 => 73 | 47 => 74 | 48 => 75 | 49 => 76 | 50 => 77 | 57 => 78 | n => n, fun | 22 => 35 | 24 => 28 | 25 => 46 | 3 => 3 | 39 => 59 | 0 => 0 | 53 => 68 | 55 => 71 | 4 => 4 | 46 => 77 | 45 => 76 | 50 => 81 | 5 => 5 | 9 => 9 | 66 => 85 | 70 => 89 | 76 => 91 | 77 => 92 | n => n, fun | n => n⟩
theorem sortL : Go.Proofs.SlLaysF.n6 Try.prog sortL_ren := {
  mixed := by kernel_rfl,
  f6 := ⟨Try.f49.name, by decide +kernel, Try.func49.trans (congrArg some (by kernel_rfl))⟩,
  f14 := ⟨Try.f57.name, by decide +kernel, Try.func57.trans (congrArg some (by kernel_rfl))⟩,
  f15 := Try.func58.trans (congrArg some (by kernel_rfl)),
  f20 := ⟨Try.f63.name, by decide +kernel, Try.func63.trans (congrArg some (by kernel_rfl))⟩,
  f21 := ⟨Try.f64.name, by decide +kernel, Try.func64.trans (congrArg some (by kernel_rfl))⟩,
  f22 := ⟨Try.f65.name, by decide +kernel, Try.func65.trans (congrArg some (by kernel_rfl))⟩,
  f23 := ⟨Try.f66.name, by decide +kernel, Try.func66.trans (congrArg some (by kernel_rfl))⟩,
  f24 := ⟨Try.f67.name, by decide +kernel, Try.func67.trans (congrArg some (by kernel_rfl))⟩,
  f25 := ⟨Try.f68.name, by decide +kernel, Try.func68.trans (congrArg some (by kernel_rfl))⟩,
  f26 := ⟨Try.f69.name, by decide +kernel, Try.func69.trans (congrArg some (by kernel_rfl))⟩,
  f27 := ⟨Try.f70.name, by decide +kernel, Try.func70.trans (congrArg some (by kernel_rfl))⟩,
  f28 := Try.func71.trans (congrArg some (by kernel_rfl)),
  f29 := Try.func72.trans (congrArg some (by kernel_rfl)),
  f46 := ⟨Try.f73.name, by decide +kernel, Try.func73.trans (congrArg some (by kernel_rfl))⟩,
  f47 := Try.func74.trans (congrArg some (by kernel_rfl)),
  f48 := Try.func75.trans (congrArg some (by kernel_rfl)),
  f49 := ⟨Try.f76.name, by decide +kernel, Try.func76.trans (congrArg some (by kernel_rfl))⟩,
  f50 := ⟨Try.f77.name, by decide +kernel, Try.func77.trans (congrArg some (by kernel_rfl))⟩,
  f57 := ⟨Try.f78.name, by decide +kernel, Try.func78.trans (congrArg some (by kernel_rfl))⟩,
  t0 := Try.underlying0,
  a0 := Try.isAgg0,
  z0 := Try.sizeOf0,
  v0 := Try.zeroValue0,
  t3 := Try.underlying3,
  a3 := Try.isAgg3,
  z3 := Try.sizeOf3,
  v3 := Try.zeroValue3,
  t4 := Try.underlying4,
  a4 := Try.isAgg4,
  z4 := Try.sizeOf4,
  v4 := Try.zeroValue4,
  t5 := Try.underlying5,
  a5 := Try.isAgg5,
  z5 := Try.sizeOf5,
  v5 := Try.zeroValue5,
  t9 := Try.underlying9,
  a9 := Try.isAgg9,
  z9 := Try.sizeOf9,
  v9 := Try.zeroValue9,
  t22 := Try.underlying35,
  a22 := Try.isAgg35,
  z22 := Try.sizeOf35,
  v22 := Try.zeroValue35,
  a24 := Try.isAgg28,
  z24 := Try.sizeOf28,
  t25 := Try.underlying46,
  a25 := Try.isAgg46,
  z25 := Try.sizeOf46,
  v25 := Try.zeroValue46,
  t39 := Try.underlying59,
  a39 := Try.isAgg59,
  z39 := Try.sizeOf59,
  v39 := Try.zeroValue59,
  t45 := Try.underlying76,
  a45 := Try.isAgg76,
  z45 := Try.sizeOf76,
  v45 := Try.zeroValue76,
  t46 := Try.underlying77,
  a46 := Try.isAgg77,
  z46 := Try.sizeOf77,
  v46 := Try.zeroValue77,
  t50 := Try.underlying81,
  a50 := Try.isAgg81,
  z50 := Try.sizeOf81,
  v50 := Try.zeroValue81,
  t53 := Try.underlying68,
  a53 := Try.isAgg68,
  z53 := Try.sizeOf68,
  v53 := Try.zeroValue68,
  t55 := Try.underlying71,
  a55 := Try.isAgg71,
  z55 := Try.sizeOf71,
  v55 := Try.zeroValue71,
  t66 := Try.underlying85,
  a66 := Try.isAgg85,
  z66 := Try.sizeOf85,
  v66 := Try.zeroValue85,
  t70 := Try.underlying89,
  a70 := Try.isAgg89,
  z70 := Try.sizeOf89,
  v70 := Try.zeroValue89,
  t76 := Try.underlying91,
  a76 := Try.isAgg91,
  z76 := Try.sizeOf91,
  v76 := Try.zeroValue91,
  t77 := Try.underlying92,
  a77 := Try.isAgg92,
  z77 := Try.sizeOf92,
  v77 := Try.zeroValue92 }

theorem elm1 (c : Elm 1) : ∃ v, c.val = [v] ∧ v.oneCell' = true := by
  obtain ⟨cs, h1, h2⟩ := c
  match cs, h1 with
  | [v], _ => exact ⟨v, rfl, h2 v (by simp)⟩
theorem dSort_none (p : Option Addr) (c : Nat) (fv : Value) (w : World) : Calls Try.prog 49 #[.slice p 0 c, fv] w fun e w' => e = .returned (.tuple #[]) ∧ w' = w := by
  have h := AnyF.slices_SortFunc_none (P := Try.prog) (ρ := sortL_ren) { sortL with } p c fv w
  exact h
set_option maxHeartbeats 2000000 in
theorem dSort_any {S : Nat → Prop} {w : World} {v : Value} {css : List (Elm 1)} {xs : List (List Nat)} (h : NL rdL 28 1 S w v css xs) (hlen : xs.length ≤ 1000000000) :
    Calls Try.prog 49 #[v, .func (.func 50) #[] #[]] w fun e w' => e = .returned (.tuple #[]) ∧ ∃ css' xs', NL rdL 28 1 S w' v css' xs' ∧ xs'.Perm xs ∧ xs'.Pairwise (fun a b => ¬ ltLL (castL b) (castL a)) ∧ w.grownBy w' v.ownBlock := by
  cases xs with
  | nil =>
    have hc0 : css = [] := List.eq_nil_of_length_eq_zero h.len
    subst hc0
    obtain ⟨A, c, rfl, -, -⟩ := h.form
    refine (dSort_none A c _ w).mono ?_
    rintro e w' ⟨rfl, rfl⟩
    exact ⟨rfl, [], [], h, .refl _, .nil, World.grownBy.refl _ _⟩
  | cons x0 xr =>
    generalize hxs : x0 :: xr = xs at *
    have hN : css.length = xs.length := h.len
    have hpos : 0 < css.length := by rw [hN, ← hxs]; simp
    obtain ⟨c0, cr, hcs⟩ : ∃ c0 cr, css = c0 :: cr := by
      cases css with
      | nil => simp at hpos
      | cons c0 cr => exact ⟨c0, cr, rfl⟩
    obtain ⟨g, c, hv, hcc, hcm, -, hgw⟩ := h.own.row hpos
    subst hv
    obtain ⟨cur, hcur, hcs2, htake⟩ : ∃ cur, w.heap[g]? = some (.cells cur 28 (0, 0)) ∧ cur.size = c * 1 ∧ cur.toList.take (css.length * 1) = flat encC css := by
      rcases h.own.2 with ⟨e, -⟩ | ⟨g', c', cur, e, -, h1, -, -, h2, h3⟩
      · cases e
      · injection e with e1 e2 e3
        injection e1 with e1
        injection e1 with e1
        subst e1 e3
        exact ⟨cur, h1, h2, h3⟩
    let p : Nat → Nat := fun i => if i < css.length then i else 0
    have hp : ∀ i, p i < css.length := fun i => by
      show (if i < css.length then i else 0) < css.length
      split
      · assumption
      · exact hpos
    have hpi : ∀ i, i < css.length → p i = i := fun i hi => if_pos hi
    let enc : Nat → Value := fun i => (css[p i]'(hp i)).val.headD (.bool false)
    let X : Nat → List Nat := fun i => xs[p i]'(by rw [← hN]; exact hp i)
    have hval : ∀ i, (css[p i]'(hp i)).val = [enc i] := fun i => by
      obtain ⟨u, hu, -⟩ := elm1 (css[p i]'(hp i))
      show _ = [(css[p i]'(hp i)).val.headD (.bool false)]
      rw [hu]
      rfl
    have h1 : OneCell enc := fun i => by
      obtain ⟨u, hu, h2⟩ := elm1 (css[p i]'(hp i))
      show ((css[p i]'(hp i)).val.headD (.bool false)).oneCell' = true
      rw [hu]
      exact h2
    have hH : Holds enc w g 0 (Array.range css.length) := fun j hj => by
      have hj' : j < css.length := by simpa using hj
      have h3 := h.own.cellAt encC_len rfl hj' (j := 0) (by omega)
      have e1 : enc j = (css[j]'hj').val.headD (.bool false) := by
        show (css[p j]'(hp j)).val.headD (.bool false) = _
        congr 2
        simp only [hpi j hj']
      have e2 : (Array.range css.length)[j]! = j := by simp [hj']
      rw [e2, e1, Nat.zero_add]
      refine ⟨?_, h.own.frozen rfl j⟩
      obtain ⟨u, hu, -⟩ := elm1 (css[j]'hj')
      rw [Nat.mul_one, Nat.add_zero] at h3
      rw [h3]
      unfold encC
      rw [hu]
      rfl
    have hcmp : CmpLays1 Try.prog 50 #[] enc (fun i j => cmpLL (castL (X i)) (castL (X j))) g 0 css.length w := by
      intro m os dk hdk i j
      have hgr := grownBy_sortG (enc := enc) (w := w) (g := g) (n := m) (os := os) dk
      have hI : ∀ i, Ints (sortWorld enc w g 0 m dk os) (enc i) (castL (X i)) := fun i => by
        obtain ⟨T, hT, ho⟩ := h.els (p i) (hp i) (by rw [← hN]; exact hp i)
        obtain ⟨u, hu, hr⟩ := (ho.step hgr.size fun k hk hlt => hgr.block k hlt fun e => (hT k hk).2.1 e.symm).here
        rw [hval i] at hu
        injection hu with hu
        rw [hu]
        exact hr
      refine (dCompare_at (enc i) (enc j) _ _ _ (hI i) (hI j)).mono ?_
      rintro e w' ⟨rfl, o, rfl⟩
      exact ⟨rfl, 0, #[o], by rw [alloc_eq_grow]; rfl⟩
    have eg : ∀ args w, (callFunc 50 args).run Try.prog w = .ok (.enter 50 args) w := enters_of Try.func50 (by kernel_rfl) rfl
    have hS := Any.slices_SortFunc sortL enc h1 (fun i j => cmpLL (castL (X i)) (castL (X j))) (swoLL fun i => castL (X i)) 50 #[] g 0 c (Array.range css.length) w eg (by rw [Array.size_range]; exact hcmp) hH hgw (by rw [Array.size_range]; omega)
    rw [Array.size_range] at hS
    refine Calls.mono hS ?_
    rintro e w' ⟨rfl, d', n, os, hperm, hsort, rfl⟩
    refine ⟨rfl, ?_⟩
    obtain ⟨hsz, -, hpm⟩ := hperm
    rw [Array.size_range] at hsz
    have hpm2 : d'.toList.Perm (List.range css.length) := by
      have e1 : (d'.extract 0 css.length).toList = d'.toList := by simp [← hsz]
      have e2 : ((Array.range css.length).extract 0 css.length).toList = List.range css.length := by simp
      rw [e1, e2] at hpm
      exact hpm
    have hgr := grownBy_sortG (enc := enc) (w := w) (g := g) (n := n) (os := os) d'
    have hlen' : (d'.toList.map fun i => css[p i]'(hp i)).length = css.length := by simp [hsz]
    refine ⟨d'.toList.map fun i => css[p i]'(hp i), d'.toList.map X, ⟨?_, by simp, h.blk, fun k h1 h2 => ?_⟩, ?_, ?_, hgr⟩
    · have hfl : flat encC (d'.toList.map fun i => css[p i]'(hp i)) = d'.toList.map enc := by
        unfold flat
        rw [List.flatMap_map]
        have : ∀ l : List Nat, (l.flatMap fun a => encC (css[p a]'(hp a))) = l.map enc := fun l => by
          induction l with
          | nil => rfl
          | cons a l ih =>
            rw [List.flatMap_cons, ih, List.map_cons]
            unfold encC
            rw [hval a]
            rfl
        exact this _
      unfold Own
      rw [hfl, hlen']
      refine ⟨by simp [hsz], .inr ⟨g, c, putCells enc 0 d' cur, rfl, Nat.zero_le _, heap_sortG d' hcur, hcc, by unfold maxLen; exact hcm, by simp [putCells, hcs2], ?_⟩⟩
      rw [Nat.mul_one, ← hsz]
      exact take_putCellsG cur d' (by rw [hsz, hcs2]; omega)
    · rw [List.getElem_map, List.getElem_map]
      have hk3 : k < d'.toList.length := by simpa using h1
      obtain ⟨T, hT, ho⟩ := h.els (p (d'.toList[k]'hk3)) (hp _) (by rw [← hN]; exact hp _)
      exact ⟨T, fun i hi => ⟨(hT i hi).1, (hT i hi).2.1, Nat.lt_of_lt_of_le (hT i hi).2.2 hgr.size⟩, ho.step hgr.size fun i hi hlt => hgr.block i hlt fun e => (hT i hi).2.1 e.symm⟩
    · refine (hpm2.map X).trans ?_
      have : (List.range css.length).map X = xs := by
        apply List.ext_getElem
        · simp [hN]
        · intro i h1 h2
          rw [List.getElem_map, List.getElem_range]
          show xs[p i]'_ = _
          simp only [hpi i (by omega)]
      rw [this]
    · rw [List.pairwise_map, List.pairwise_iff_getElem]
      intro i j hi hj hij
      have hi' : i < d'.size := by simpa using hi
      have hj' : j < d'.size := by simpa using hj
      have := hsort i j (Nat.zero_le _) hij (by omega)
      unfold ltOf at this
      rw [decide_eq_false_iff_not, cmpLL_lt] at this
      simpa [hi', hj'] using this
end Go.Proofs.Ytlkabhjkncklnaa
