
/-
The reference's graphs: Cycles, Cycle: the walks.
-/
import Derived.Test.YtlkabhjkncklnaaDgPa
import Derived.Test.YtlkabhjkncklnaaDgF
namespace Go.Proofs.Ytlkabhjkncklnaa
set_option linter.unusedSimpArgs false
set_option linter.unusedVariables false
open Go.RowKit

/-- the paths with one more vertex, greater than the first one, the first k vertices looked at -/
def extC (n : Nat) (es : List Bool) (l : List Nat) (k : Nat) : List (List Nat) := ((List.range k).filter fun v => decide (l.headD 0 < v) && (hasE n es (l.getLastD 0) v && !decide (v ∈ l))).map fun v => l ++ [v]
def levelC (n : Nat) (es : List Bool) (ls : List (List Nat)) (k : Nat) : List (List Nat) := (ls.take k).flatMap fun l => extC n es l n
def closeC (n : Nat) (es : List Bool) (ls : List (List Nat)) (k : Nat) : List (List Nat) := (ls.take k).filter fun l => hasE n es (l.getLastD 0) (l.headD 0)
def cycR (n : Nat) (es : List Bool) : Nat → List (List Nat) → List (List Nat)
  | 0, _ => []
  | r + 1, ls => closeC n es ls ls.length ++ cycR n es r (levelC n es ls ls.length)
def startsC (n : Nat) : List (List Nat) := (List.range n).map fun v => [v]
def cycQ (s : Int) (es : List Bool) : List (List Nat) := if openB s es.length = true then cycR s.toNat es s.toNat (startsC s.toNat) else []
theorem extC_succ (n : Nat) (es : List Bool) (l : List Nat) (k : Nat) : extC n es l (k + 1) = extC n es l k ++ if (decide (l.headD 0 < k) && (hasE n es (l.getLastD 0) k && !decide (k ∈ l))) = true then [l ++ [k]] else [] := by
  unfold extC
  rw [List.range_succ, List.filter_append, List.map_append]
  congr 1
  rw [List.filter_cons]
  split <;> rfl
theorem extC_len (n : Nat) (es : List Bool) (l : List Nat) (k : Nat) : (extC n es l k).length ≤ k := by
  unfold extC
  rw [List.length_map]
  exact Nat.le_trans (List.length_filter_le _ _) (by simp)
theorem extC_low (n : Nat) (es : List Bool) (l : List Nat) : ∀ k, k ≤ l.headD 0 + 1 → extC n es l k = []
  | 0, _ => rfl
  | k + 1, h => by
    have : ¬ l.headD 0 < k := by omega
    rw [extC_succ, extC_low n es l k (by omega), decide_eq_false this, Bool.false_and, if_neg (by simp)]
    rfl
theorem levelC_succ (n : Nat) (es : List Bool) (ls : List (List Nat)) {k : Nat} (h : k < ls.length) : levelC n es ls (k + 1) = levelC n es ls k ++ extC n es ls[k] n := by
  unfold levelC
  rw [List.take_succ_eq_append_getElem h, List.flatMap_append]
  simp
theorem closeC_succ (n : Nat) (es : List Bool) (ls : List (List Nat)) {k : Nat} (h : k < ls.length) : closeC n es ls (k + 1) = closeC n es ls k ++ if hasE n es (ls[k].getLastD 0) (ls[k].headD 0) = true then [ls[k]] else [] := by
  unfold closeC
  rw [List.take_succ_eq_append_getElem h, List.filter_append]
  congr 1
  rw [List.filter_cons]
  split <;> rfl
theorem levelC_len {n : Nat} (h6 : n ≤ 6) (es : List Bool) (ls : List (List Nat)) (k : Nat) : (levelC n es ls k).length ≤ 6 * ls.length := by
  unfold levelC
  have : ∀ l : List (List Nat), (l.flatMap fun l => extC n es l n).length ≤ 6 * l.length := fun l => by
    induction l with
    | nil => simp
    | cons x l ih =>
      have := extC_len n es x n
      rw [List.flatMap_cons, List.length_append, List.length_cons]
      omega
  have h2 := this (ls.take k)
  have h4 := List.length_take (i := k) (l := ls)
  omega
theorem closeC_len (n : Nat) (es : List Bool) (ls : List (List Nat)) (k : Nat) : (closeC n es ls k).length ≤ ls.length := by
  unfold closeC
  have h2 := List.length_filter_le (fun l => hasE n es (l.getLastD 0) (l.headD 0)) (ls.take k)
  have h4 := List.length_take (i := k) (l := ls)
  omega
theorem LvI.nextC {n k : Nat} (h6 : n ≤ 6) {es : List Bool} {ls : List (List Nat)} (h : ls.length ≤ 6 ^ (k + 1) ∧ ∀ l ∈ ls, l ≠ [] ∧ (∀ x ∈ l, x < n) ∧ l.length = k + 1) :
    (levelC n es ls ls.length).length ≤ 6 ^ (k + 1 + 1) ∧ ∀ l ∈ levelC n es ls ls.length, l ≠ [] ∧ (∀ x ∈ l, x < n) ∧ l.length = k + 1 + 1 := by
  refine ⟨?_, fun l hl => ?_⟩
  · have := levelC_len h6 es ls ls.length
    have := h.1
    rw [Nat.pow_succ]
    omega
  · unfold levelC extC at hl
    simp only [List.take_length, List.mem_flatMap, List.mem_map, List.mem_filter, List.mem_range] at hl
    obtain ⟨l0, h0, v, ⟨hv, -⟩, rfl⟩ := hl
    obtain ⟨a1, a2, a3⟩ := h.2 l0 h0
    refine ⟨by simp, fun x hx => ?_, by simp; omega⟩
    rcases List.mem_append.1 hx with hx | hx
    · exact a2 x hx
    · simp only [List.mem_singleton] at hx
      omega
/-! two lists under way, and a third one that is read -/
theorem NL.away {α : Type} {R : Rd α} {e size : Nat} {S S' : Nat → Prop} {w : World} {v : Value} {css : List (Elm size)} {xs : List α} (h : NL R e size S w v css xs) (hS : ∀ q, S q → q < w.heap.size → S' q) : NL R e size S' w v css xs :=
  ⟨h.own, h.len, fun q hq => hS q (h.blk q hq) (h.own.blk_lt q hq), fun k h1 h2 => by
    obtain ⟨T, hT, ho⟩ := h.els k h1 h2
    exact ⟨T, fun i hi => ⟨hS i (hT i hi).1 (hT i hi).2.2, (hT i hi).2⟩, ho⟩⟩
theorem NL.lit0 (w : World) : NL rdL 28 1 (fun q => w.heap.size ≤ q) (w.alloc (.cells #[] 28)) (.slice (some ⟨w.heap.size, 0, none⟩) 0 0) [] [] :=
  ⟨Own.lit (base := 0) (size := 1) (encC (size := 1)) (e := 28) w #[] [] (Nat.zero_le _) (by simp) rfl rfl, rfl, fun q hq => (by simp only [Value.ownBlock, Option.some.injEq] at hq; show w.heap.size ≤ q; omega), fun k h1 _ => absurd h1 (by simp)⟩
theorem NL.el {e : Nat} {S : Nat → Prop} {w : World} {A : Option Addr} {n c : Nat} {css : List (Elm 1)} {xs : List (List Nat)} (h : NL rdL e 1 S w (.slice A n c) css xs) {k : Nat} (hk : k < xs.length) (hc : k < css.length) :
    ∃ g lv, A = some ⟨g, 0, none⟩ ∧ css[k].val = [lv] ∧ w.cell? ⟨g, k, none⟩ = some lv ∧ ∃ T : Nat → Prop, (∀ i, T i → S i ∧ (Value.slice A n c).ownBlock ≠ some i ∧ i < w.heap.size) ∧ OwS T w fun w' => Ints w' lv (castL xs[k]) := by
  obtain ⟨g, rfl, -, -⟩ := h.own.at_ (by omega : 0 < css.length)
  obtain ⟨T, hT, ho⟩ := h.els k hc hk
  obtain ⟨lv, e1, -⟩ := ho.here
  have hn : n = css.length := by
    rcases h.own.2 with ⟨e2, -⟩ | ⟨_, _, _, e2, -⟩
    · cases e2
    · injection e2
  have h3 := h.own.cellAt encC_len hn hc (j := 0) (by omega)
  rw [Nat.mul_one, Nat.add_zero] at h3
  unfold encC at h3
  rw [e1] at h3
  refine ⟨g, lv, rfl, e1, h3, T, hT, ho.imp fun w' ⟨v, e2, hi⟩ => ?_⟩
  rw [e1] at e2
  injection e2 with e2
  rw [e2]
  exact hi
structure CyS (W1 : Nat) (w : World) (ov nv lv : Value) (co cn cl : List (Elm 1)) (ot nx ls : List (List Nat)) : Prop where
  o : NL rdL 28 1 (fun q => W1 ≤ q ∧ nv.ownBlock ≠ some q) w ov co ot
  n : NL rdL 28 1 (fun q => W1 ≤ q ∧ ov.ownBlock ≠ some q) w nv cn nx
  l : NL rdL 28 1 (fun q => W1 ≤ q ∧ ov.ownBlock ≠ some q ∧ nv.ownBlock ≠ some q) w lv cl ls
section
variable {W1 : Nat} {w w' : World} {ov nv lv : Value} {co cn cl : List (Elm 1)} {ot nx ls : List (List Nat)}
theorem CyS.kp (h : CyS W1 w ov nv lv co cn cl ot nx ls) (k : Kp w w') : CyS W1 w' ov nv lv co cn cl ot nx ls := ⟨h.o.kp k, h.n.kp k, h.l.kp k⟩
theorem CyS.symm (h : CyS W1 w ov nv lv co cn cl ot nx ls) : CyS W1 w nv ov lv cn co cl nx ot ls := ⟨h.n, h.o, h.l.mono fun q ⟨a, b, c⟩ => ⟨a, c, b⟩⟩
theorem CyS.snocN (h : CyS W1 w ov nv lv co cn cl ot nx ls) {c : Elm 1} {x : List Nat} {nv' : Value} (own' : Own encC 28 1 0 w' nv' (cn ++ [c])) (hg : w.grownBy w' nv.ownBlock) (hat : nv'.ownBlock = nv.ownBlock ∨ nv'.ownBlock = some w.heap.size) (T : Nat → Prop)
    (hT : ∀ i, T i → W1 ≤ i ∧ ov.ownBlock ≠ some i ∧ nv.ownBlock ≠ some i ∧ i < w.heap.size) (ho : OwS T w fun w2 => rdL w2 c.val x) (hW : W1 ≤ w.heap.size) : CyS W1 w' ov nv' lv co (cn ++ [c]) cl ot (nx ++ [x]) ls := by
  have hnv : ∀ q, nv.ownBlock ≠ some q → q < w.heap.size → nv'.ownBlock ≠ some q := fun q h1 h2 e => by
    rcases hat with h3 | h3
    · exact h1 (h3 ▸ e)
    · rw [h3] at e
      injection e with e
      omega
  refine ⟨?_, ?_, ?_⟩
  · exact ((h.o.away (S' := fun q => (W1 ≤ q ∧ nv.ownBlock ≠ some q) ∧ q < w.heap.size) fun q a b => ⟨a, b⟩).step hg.size fun k hk hlt => hg.block k hlt fun e => hk.1.2 e.symm).mono fun q ⟨a, b⟩ => ⟨a.1, hnv q a.2 b⟩
  · exact h.n.snoc (S' := fun q => W1 ≤ q ∧ ov.ownBlock ≠ some q) own' hg hat T (fun i hi => ⟨⟨(hT i hi).1, (hT i hi).2.1⟩, (hT i hi).2.2⟩) ho (fun _ a => a) ⟨hW, fun e => by have := h.o.own.blk_lt _ e; omega⟩
  · exact ((h.l.away (S' := fun q => (W1 ≤ q ∧ ov.ownBlock ≠ some q ∧ nv.ownBlock ≠ some q) ∧ q < w.heap.size) fun q a b => ⟨a, b⟩).step hg.size fun k hk hlt => hg.block k hlt fun e => hk.1.2.2 e.symm).mono fun q ⟨a, b⟩ => ⟨a.1, a.2.1, hnv q a.2.2 b⟩
theorem CyS.start (ho : NL rdL 28 1 (fun q => W1 ≤ q) w ov co ot) (hl : NL rdL 28 1 (fun q => W1 ≤ q ∧ ov.ownBlock ≠ some q) w lv cl ls) (hW : W1 ≤ w.heap.size) : CyS W1 (w.alloc (.cells #[] 28)) ov (.slice (some ⟨w.heap.size, 0, none⟩) 0 0) lv co [] cl ot [] ls := by
  have k := (Kp.refl w).alloc (.cells #[] 28)
  have hne : ∀ q, q < w.heap.size → (Value.slice (some ⟨w.heap.size, 0, none⟩) 0 0).ownBlock ≠ some q := fun q hq e => by
    simp only [Value.ownBlock, Option.some.injEq] at e
    omega
  refine ⟨(ho.away (S' := fun q => W1 ≤ q ∧ (Value.slice (some ⟨w.heap.size, 0, none⟩) 0 0).ownBlock ≠ some q) fun q a b => ⟨a, hne q b⟩).kp k, (NL.lit0 w).mono fun q a => ⟨Nat.le_trans hW a, fun e => ?_⟩, (hl.away (S' := fun q => W1 ≤ q ∧ ov.ownBlock ≠ some q ∧ (Value.slice (some ⟨w.heap.size, 0, none⟩) 0 0).ownBlock ≠ some q) fun q a b => ⟨a.1, a.2, hne q b⟩).kp k⟩
  have := ho.own.blk_lt q e
  have a' : w.heap.size ≤ q := a
  omega
end
set_option maxRecDepth 8000 in
set_option maxHeartbeats 8000000 in
theorem qCycles_any (s : Int) (v : Value) (es : List Bool) (w : World) (hes : Bools w v es) : Calls Try.prog 25 #[.int .i64 s, v] w fun e w' => ∃ v' css, e = .returned v' ∧ NL rdL 28 1 (fun q => w.heap.size ≤ q) w' v' css (cycQ s es) ∧ Kp w w' := by
  obtain ⟨A, c, rfl, hc, hm⟩ := hes.form
  have HES := hid hes
  generalize hR : cycQ s es = R
  have HR : Hid (R = if openB s es.length = true then cycR s.toNat es s.toNat (startsC s.toNat) else []) := hid hR.symm
  clear hR hes
  have k0 := (Kp.refl w).alloc (.cells #[] 28)
  have n0 := NL.lit0 w
  have z0 := alloc_lt w (.cells #[] 28)
  go_enter Try.func25, Try.ntmps25
  go_upto_region 2 with (fail)
  generalize hw1 : w.alloc (.cells #[] 28) = w1 at *
  clear hw1
  have hgw := n0.blk
  go_wp2_with fail
  refine (qValid_any s A es.length c w1 (by omega)).mono ?_
  rintro e w2 ⟨rfl, rfl⟩
  cases ho : openB s es.length with
  | false =>
    have HF : Hid (R = []) := hid (by rw [HR.out, if_neg (by rw [ho]; simp)])
    replace ho := hid ho
    go_wp2
    go_ret
    exact ⟨_, [], rfl, by rw [HF.out]; exact n0, k0⟩
  | true =>
    obtain ⟨n, rfl, h1, h6, hl⟩ := openB_iff ho
    have HF : Hid (R = cycR n es n (startsC n)) := hid (by rw [HR.out, if_pos ho]; rfl)
    have HL := hid hl
    have hl36 : es.length ≤ 36 := by rw [hl]; exact Nat.mul_le_mul h6 h6
    replace ho := hid ho
    clear hl HR
    have hWw := k0.size
    have n1 := NL.lit0 w2
    have k1 := (Kp.refl w2).alloc (.cells #[] 28)
    have n0' := n0.kp k1
    have HN0 := hid n0
    go_upto_region 5 with (fail)
    generalize hg0 : w.heap.size = g0 at *
    generalize hg1 : w2.heap.size = g1 at *
    generalize hw3 : w2.alloc (.cells #[] 28) = w3 at *
    clear hw3 n0
    have kw3 := k0.trans k1
    have hgg : g0 < g1 := z0
    have HG1 := hid hg1
    have HG0 := hid hg0
    clear hg0 hg1
    have HST := hid (fun k => map_range_succ (fun v : Nat => [v]) k)
    go_wp2_with fail
    go_loopw [6, 7] (fun lv vv wr => ∃ (v : Nat) (L : List (List Nat)) (css : List (Elm 1)), v ≤ n ∧ vv = .int .i64 (v : Int) ∧ NL rdL 28 1 (fun q => g1 ≤ q) wr lv css L ∧ Hid (L = (List.range v).map fun v => [v]) ∧ Kp w2 wr) (fun _ vv _ => n - (intOf vv).toNat)
    case atStart => exact ⟨0, [], [], Nat.zero_le _, rfl, n1, hid rfl, k1⟩
    case round =>
      clear n1 k1 n0' kw3
      obtain ⟨v, L, css, hv, rfl, nl, HLv, kr⟩ := hrel
      obtain ⟨Al, cl, el, hcl, hml⟩ := nl.form
      by_cases hvn : v < n
      · have hvi : (v : Int) < (n : Int) := by omega
        have hll : L.length = v := by rw [HLv.out]; simp
        have HS := hid (HST.out v)
        rw [hll] at el hcl
        subst el
        have hl2 : css.length = v := by rw [nl.len, hll]
        have HLL := hid hll
        clear hll
        have oL := Own.lit (base := wr.heap.size) (size := 1) encInt (e := 3) wr #[.int .i64 (v : Int)] [(v : Int)] (Nat.le_refl _) (by simp) rfl rfl
        have kA := (Kp.refl wr).alloc (.cells #[.int .i64 (v : Int)] 3)
        have zA := World.size_alloc wr (.cells #[.int .i64 (v : Int)] 3)
        have hlo := nl.own.blk_lt
        have hkr := kr.size
        have nlA := nl.kp kA
        have hoS := (oL.owS.kp ((Kp.refl _).alloc (.cells #[.slice (some ⟨wr.heap.size, 0, none⟩) 1 1] 28)))
        have kB := (Kp.refl (wr.alloc (.cells #[.int .i64 (v : Int)] 3))).alloc (.cells #[.slice (some ⟨wr.heap.size, 0, none⟩) 1 1] 28)
        have zB := World.size_alloc (wr.alloc (.cells #[.int .i64 (v : Int)] 3)) (.cells #[.slice (some ⟨wr.heap.size, 0, none⟩) 1 1] 28)
        have nlB := nlA.kp kB
        have hob := nlB.blk
        have sB := Sl.one (R := Pl encC) (wr.alloc (.cells #[.int .i64 (v : Int)] 3)) [.slice (some ⟨wr.heap.size, 0, none⟩) 1 1] 28 1 (⟨[.slice (some ⟨wr.heap.size, 0, none⟩) 1 1], rfl, by simp [Value.oneCell']⟩ : Elm 1) rfl rfl
        have hbo : wr.heap.size < (wr.alloc (.cells #[.int .i64 (v : Int)] 3)).heap.size := by rw [zA]; omega
        have hHS : g1 ≤ wr.heap.size := by have := HG1.out; omega
        have hg1w := HG1.out
        rw [zA] at sB zB
        go_wp2_with (at_builtin; refine wpl_append_flat (base := 0) rfl (.tmp 26) (.tmp 29) rfl stIntsM encC_len encC_one rfl nlB.own rfl sB (by rw [hl2]; simp; omega) (by rw [hl2]; simp; omega) (Nat.zero_le _) ?_; intro vz wz ownz hgr hat hnil; obtain ⟨Az, cz, ez, -, -⟩ := ownz.form; rw [List.length_append, List.length_singleton, hl2] at ez; subst ez)
        have nlq := nlB.snoc (S' := fun q => g1 ≤ q) (x := [v]) ownz hgr hat (fun q => (Value.slice (some ⟨wr.heap.size, 0, none⟩) 1 1).ownBlock = some q) (fun q hq => by
          simp only [Value.ownBlock, Option.some.injEq] at hq
          subst hq
          exact ⟨hHS, fun e => by have h2 := hlo _ e; omega, by rw [zB]; omega⟩) (hoS.imp fun w' h => ⟨_, rfl, h.sl encInt_len⟩) (fun _ h => h) (by show g1 ≤ _; rw [zB]; omega)
        have kwz : Kp w2 wz := ((kr.trans kA).trans kB).grown hgr fun q hq => by have := hob q hq; omega
        clear hgr hat hnil
        go_roundw
        case rel => exact ⟨v + 1, L ++ [[v]], _, by omega, by go_num, nlq, hid (by rw [HS.out, HLv.out]), kwz⟩
        case measure => simp [intOf]; omega
      · obtain rfl : n = v := by omega
        have hvi : ¬ (n : Int) < (n : Int) := by omega
        subst el
        have HLS : Hid (L = startsC n) := hid HLv.out
        have no := HN0.out.kp kr
        have hkr := kr.size
        have kww := k0.trans kr
        have nlw : NL rdL 28 1 (fun q => g0 ≤ q ∧ (Value.slice (some ⟨g0, 0, none⟩) 0 0).ownBlock ≠ some q) wr (.slice Al L.length cl) css L := nl.mono fun q h => ⟨by have h' : g1 ≤ q := h; omega, fun e => by simp only [Value.ownBlock, Option.some.injEq] at e; have h' : g1 ≤ q := h; omega⟩
        have HI0 : Hid (L.length ≤ 6 ^ (0 + 1) ∧ ∀ l ∈ L, l ≠ [] ∧ (∀ x ∈ l, x < n) ∧ l.length = 0 + 1) := hid (by
          rw [HLv.out]
          refine ⟨by simp; omega, fun l hl => ?_⟩
          simp only [List.mem_map, List.mem_range] at hl
          obtain ⟨x, hx, rfl⟩ := hl
          exact ⟨by simp, fun y hy => by simp only [List.mem_singleton] at hy; omega, rfl⟩)
        have HF1 : Hid (R = [] ++ cycR n es (n - 0) L) := hid (by rw [HF.out, HLS.out]; rfl)
        clear nl HLv hcl hml
        go_wp2_with fail
        obtain ⟨w5, rfl⟩ : ∃ w5 : World, w5 = wr := ⟨_, rfl⟩
        go_loopw [5, 6, 8] (fun ov lv rv wr => ∃ (k : Nat) (ot ls : List (List Nat)) (co cl : List (Elm 1)), k ≤ n ∧ rv = .int .i64 (k : Int) ∧ NL rdL 28 1 (fun q => g0 ≤ q) wr ov co ot ∧ NL rdL 28 1 (fun q => g0 ≤ q ∧ ov.ownBlock ≠ some q) wr lv cl ls ∧ Kp w wr ∧ Hid (ot.length ≤ 46656 * k) ∧ Hid (ls.length ≤ 6 ^ (k + 1) ∧ ∀ l ∈ ls, l ≠ [] ∧ (∀ x ∈ l, x < n) ∧ l.length = k + 1) ∧ Hid (R = ot ++ cycR n es (n - k) ls)) (fun _ _ rv _ => n - (intOf rv).toNat)
        case atStart => exact ⟨0, [], L, [], css, Nat.zero_le _, rfl, no, nlw, kww, hid (by simp), HI0, HF1⟩
        case round =>
          clear no nlw kww HI0 HF1 HLS
          obtain ⟨k, ot, ls, co, cl, hk, rfl, no, nl, kr, HOL, HLI, HF⟩ := hrel
          obtain ⟨Ao, co1, eo, hco, hmo⟩ := no.form
          obtain ⟨Al, cl1, el, hcl, hml⟩ := nl.form
          by_cases hkn : k < n
          · have hkl : (k : Int) < (n : Int) := by omega
            have hlen : ls.length ≤ 46656 := Nat.le_trans HLI.out.1 (Nat.pow_le_pow_right (by omega) (by omega : k + 1 ≤ 6))
            obtain ⟨r, hr⟩ : ∃ r, n - k = r + 1 := ⟨n - k - 1, by omega⟩
            have HR1 := hid hr
            have hol := HOL.out
            have HST := hid (CyS.start no nl (by have := kr.size; rw [HG0.out] at this; exact this))
            have kN := kr.alloc (.cells #[] 28)
            generalize hll : ls.length = ll at *
            subst el
            have HLL := hid hll
            have hko : ot.length ≤ 279936 := by have : 46656 * k ≤ 46656 * 6 := Nat.mul_le_mul_left _ (by omega); omega
            subst eo
            clear no nl hll hr hol
            go_wp2_with fail
            generalize wr.alloc (.cells #[] 28) = wn at *
            go_loopw [5, 9, 10] (fun ov nv iv wi => ∃ (i : Nat) (ot1 nx : List (List Nat)) (co2 cn : List (Elm 1)), i ≤ ll ∧ iv = .int .i64 (i : Int) ∧ CyS g0 wi ov nv (.slice Al ll cl1) co2 cn cl ot1 nx ls ∧ Hid (ot1 = ot ++ closeC n es ls i) ∧ Hid (nx = levelC n es ls i) ∧ Kp w wi) (fun _ _ iv _ => ll - (intOf iv).toNat)
            case atStart => exact ⟨0, ot, [], co, [], Nat.zero_le _, rfl, HST.out, hid (by simp [closeC]), hid rfl, kN⟩
            case round =>
              clear HST kN kr
              obtain ⟨i, ot1, nx, co2, cn, hi, rfl, hs, HO1, HX, ki⟩ := hrel
              obtain ⟨Ao, c1, eo, hc1, hm1⟩ := hs.o.form
              obtain ⟨An, c2, en, hc2, hm2⟩ := hs.n.form
              have hnl : nx.length ≤ 279936 := by rw [HX.out]; have := levelC_len h6 es ls i; rw [HLL.out] at this; omega
              have hotl : ot1.length ≤ 400000 := by rw [HO1.out, List.length_append]; have := closeC_len n es ls i; rw [HLL.out] at this; omega
              by_cases hil : i < ll
              · have hii : (i : Int) < (ll : Int) := by omega
                have hil' : i < ls.length := by rw [HLL.out]; exact hil
                have hilc : i < cl.length := by rw [hs.l.len]; exact hil'
                obtain ⟨l, hle⟩ : ∃ l, ls[i] = l := ⟨_, rfl⟩
                obtain ⟨hl1, hl2, hl3⟩ := HLI.out.2 ls[i] (List.getElem_mem hil')
                obtain ⟨bl, uu, hAl, huc, i0, T, hT, hOW⟩ := hs.l.el hil' hilc
                subst hAl
                have HLV := hid (levelC_succ n es ls hil')
                have HCL := hid (closeC_succ n es ls hil')
                rw [hle] at hl1 hl2 hl3 hOW HLV HCL
                have hlv := hOW.here
                obtain ⟨A0, c0, hu, hc0, hm0⟩ := hlv.form
                rw [castL_len, hl3] at hu
                have huu : uu.oneCell' = true := by rw [hu]; rfl
                subst hu
                have hlast : l.getLastD 0 = l[k]'(by omega) := by rw [getLastD_eq hl1]; congr 1; omega
                have hfirst : l.headD 0 = l[0]'(by omega) := headD_eq hl1
                obtain ⟨gl, og, hA0, hgl, i1⟩ := hlv.ints (k := k) (by rw [castL_len]; omega)
                obtain ⟨gl', og', hA0', -, i2⟩ := hlv.ints (k := 0) (by rw [castL_len]; omega)
                subst hA0
                injection hA0' with e1
                injection e1 with e1 e2 e3
                subst e1 e2
                rw [castL_get l k (by omega), ← hlast] at i1
                rw [castL_get l 0 (by omega), ← hfirst, Nat.add_zero] at i2
                have hln : l.getLastD 0 < n := by rw [hlast]; exact hl2 _ (List.getElem_mem _)
                have hhn : l.headD 0 < n := by rw [hfirst]; exact hl2 _ (List.getElem_mem _)
                have HL3 := hid hl3
                clear hlast hfirst hl1 hl2 hl3 hlv hc0
                have hki : (k : Int) < 6 := by omega
                have HEXL := hid (fun v => extC_succ n es l v)
                have HEL := hid (fun v => extC_len n es l v)
                have HLOW := hid (extC_low n es l)
                generalize htl : l.getLastD 0 = t at *
                generalize hhl : l.headD 0 = hd at *
                have HT := hid htl
                have HH := hid hhl
                clear htl hhl
                obtain ⟨tn, htn⟩ : ∃ tn, t * n = tn := ⟨_, rfl⟩
                have hp : (t : Int) * (n : Int) = (tn : Int) := by rw [← htn]; exact mul_cast t n
                have HEG : Hid (∀ v (h : tn + v < es.length), hasE n es t v = es[tn + v]) := hid fun v h => by subst htn; exact hasE_get h
                have HTB : Hid (∀ v, v < n → tn + v < es.length) := hid fun v hv => by rw [← htn, HL.out]; exact idx_lt hln hv
                clear htn
                have hie : tn + hd < es.length := HTB.out hd hhn
                obtain ⟨ge, oe, hAe, hge, ie⟩ := (HES.out.keep (pl_stable _) ki).bools hie
                subst hAe
                have HE0 := hid (HEG.out hd hie)
                have hvxe : (tn : Int) + (hd : Int) < (es.length : Int) := by omega
                rw [HE0.out] at HCL
                generalize es[tn + hd] = x at *
                go_upto_region 17 with (fail)
                refine G2.wp_region_growT Kp [] 12 111 (G2.pvL [G2.eqv (.slice (some ⟨bl, 0, none⟩) ll cl1), G2.eqv (.int .i64 (i : Int)), G2.eqv (.pointer (some ⟨bl, i, none⟩)), G2.eqv (.slice (some ⟨gl, og, none⟩) (k + 1) c0), G2.eqv (.slice (some ⟨bl, 0, none⟩) ll cl1), G2.eqv (.int .i64 (i : Int)), G2.eqv (.pointer (some ⟨bl, i, none⟩)), G2.eqv (.slice (some ⟨gl, og, none⟩) (k + 1) c0), G2.eqv (.int .i64 ((k : Int) + 1)), G2.eqv (.int .i64 (k : Int)), G2.eqv (.pointer (some ⟨gl, og + k, none⟩)), G2.eqv (.int .i64 (t : Int))]) (by kernel_rfl) (by kernel_rfl) rfl (fun x => Kp.refl x) (fun _ _ _ h k => h.trans k) (Kp.refl _).drew (fun _ _ _ _ _ h => h) (G2.pvL_keep (G2.stabL_cons (G2.stab_eq _) (G2.stabL_cons (G2.stab_eq _) (G2.stabL_cons (G2.stab_eq _) (G2.stabL_cons (G2.stab_eq _) (G2.stabL_cons (G2.stab_eq _) (G2.stabL_cons (G2.stab_eq _) (G2.stabL_cons (G2.stab_eq _) (G2.stabL_cons (G2.stab_eq _) (G2.stabL_cons (G2.stab_eq _) (G2.stabL_cons (G2.stab_eq _) (G2.stabL_cons (G2.stab_eq _) (G2.stabL_cons (G2.stab_eq _) (G2.stabL_nil)))))))))))))) (G2.stepsT_cons 0 ?_ (G2.stepsT_cons 1 ?_ (G2.stepsT_cons 2 ?_ (G2.stepsT_cons 3 ?_ (G2.stepsT_cons 4 ?_ (G2.stepsT_cons 5 ?_ (G2.stepsT_cons 6 ?_ (G2.stepsT_cons 7 ?_ (G2.stepsT_cons 8 ?_ (G2.stepsT_cons 9 ?_ (G2.stepsT_cons 10 ?_ (G2.stepsT_cons 11 ?_ (G2.stepsT_nil _ _ _))))))))))))) ?_ ?_
                · intro a w' hk hF hD K hK
                  have h6 : a.tmps[6]?.getD undef = .slice (some ⟨bl, 0, none⟩) ll cl1 := hF 6 (by kernel_rfl)
                  clear hF hD
                  go_simp
                  exact hK.out _ _ (Kp.refl _) rfl
                · intro a w' hk hF hD K hK
                  have h10 : a.tmps[10]?.getD undef = .int .i64 (i : Int) := hF 10 (by kernel_rfl)
                  clear hF hD
                  go_simp
                  exact hK.out _ _ (Kp.refl _) rfl
                · intro a w' hk hF hD K hK
                  have h49 : a.tmps[49]?.getD undef = .slice (some ⟨bl, 0, none⟩) ll cl1 := hD 0 (by kernel_rfl)
                  have h50 : a.tmps[50]?.getD undef = .int .i64 (i : Int) := hD 1 (by kernel_rfl)
                  clear hF hD
                  go_simp
                  exact hK.out _ _ (Kp.refl _) rfl
                · intro a w' hk hF hD K hK
                  have h51 : a.tmps[51]?.getD undef = .pointer (some ⟨bl, i, none⟩) := hD 2 (by kernel_rfl)
                  clear hF hD
                  have z := hk.cellS i0
                  go_simp
                  exact hK.out _ _ (Kp.refl _) rfl
                · intro a w' hk hF hD K hK
                  have h6 : a.tmps[6]?.getD undef = .slice (some ⟨bl, 0, none⟩) ll cl1 := hF 6 (by kernel_rfl)
                  clear hF hD
                  go_simp
                  exact hK.out _ _ (Kp.refl _) rfl
                · intro a w' hk hF hD K hK
                  have h10 : a.tmps[10]?.getD undef = .int .i64 (i : Int) := hF 10 (by kernel_rfl)
                  clear hF hD
                  go_simp
                  exact hK.out _ _ (Kp.refl _) rfl
                · intro a w' hk hF hD K hK
                  have h53 : a.tmps[53]?.getD undef = .slice (some ⟨bl, 0, none⟩) ll cl1 := hD 4 (by kernel_rfl)
                  have h54 : a.tmps[54]?.getD undef = .int .i64 (i : Int) := hD 5 (by kernel_rfl)
                  clear hF hD
                  go_simp
                  exact hK.out _ _ (Kp.refl _) rfl
                · intro a w' hk hF hD K hK
                  have h55 : a.tmps[55]?.getD undef = .pointer (some ⟨bl, i, none⟩) := hD 6 (by kernel_rfl)
                  clear hF hD
                  have z := hk.cellS i0
                  go_simp
                  exact hK.out _ _ (Kp.refl _) rfl
                · intro a w' hk hF hD K hK
                  have h56 : a.tmps[56]?.getD undef = .slice (some ⟨gl, og, none⟩) (k + 1) c0 := hD 7 (by kernel_rfl)
                  clear hF hD
                  go_simp
                  exact hK.out _ _ (Kp.refl _) rfl
                · intro a w' hk hF hD K hK
                  have h57 : a.tmps[57]?.getD undef = .int .i64 ((k : Int) + 1) := hD 8 (by kernel_rfl)
                  clear hF hD
                  have hw : IntKind.i64.wrap (k : Int) = (k : Int) := (by rw [IntKind.wrap_i64]; omega)
                  go_simp
                  exact hK.out _ _ (Kp.refl _) rfl
                · intro a w' hk hF hD K hK
                  have h52 : a.tmps[52]?.getD undef = .slice (some ⟨gl, og, none⟩) (k + 1) c0 := hD 3 (by kernel_rfl)
                  have h58 : a.tmps[58]?.getD undef = .int .i64 (k : Int) := hD 9 (by kernel_rfl)
                  clear hF hD
                  have hq : (k : Int) < (k : Int) + 1 := (by omega)
                  go_simp
                  exact hK.out _ _ (Kp.refl _) rfl
                · intro a w' hk hF hD K hK
                  have h59 : a.tmps[59]?.getD undef = .pointer (some ⟨gl, og + k, none⟩) := hD 10 (by kernel_rfl)
                  clear hF hD
                  have z := hk.cellS i1
                  go_simp
                  exact hK.out _ _ (Kp.refl _) rfl
                · exact fun i0 hi0 => by simp at hi0
                intro v w9 k9 hv
                have v11 : v 11 = .int .i64 (t : Int) := hv 11 (by omega)
                clear hv
                simp only [G2.growPut, G2.gSlot, List.getElem?_toArray, List.getElem?_cons_zero, List.getElem?_cons_succ, Option.bind_some, List.setIfInBounds_toArray, List.set_cons_zero, List.set_cons_succ, List.drop_succ_cons, List.drop_zero, v11]
                have hs9 := hs.kp k9
                have ki9 := ki.trans k9
                have ie9 := k9.cellS ie
                have j0 := k9.cellS i0
                have hdi : (hd : Int) < (n : Int) := by omega
                clear i0 i1 i2 hs ki ie hOW
                subst eo en
                cases x with
                | false =>
                  have HO2 : Hid (ot1 = ot ++ closeC n es ls (i + 1)) := hid (by rw [HCL.out]; simpa using HO1.out)
                  go_wp2_with fail
                  try clear j0
                  try clear ie9
                  go_loopw [9, 13] (fun nv vv wi => ∃ (v : Nat) (nx2 : List (List Nat)) (cn2 : List (Elm 1)), hd < v ∧ v ≤ n ∧ vv = .int .i64 (v : Int) ∧ CyS g0 wi (.slice Ao ot1.length c1) nv (.slice (some ⟨bl, 0, none⟩) ll cl1) co2 cn2 cl ot1 nx2 ls ∧ Hid (nx2 = nx ++ extC n es l v) ∧ Kp w wi) (fun _ vv _ => n - (intOf vv).toNat)
                  case atStart => exact ⟨hd + 1, nx, cn, by omega, by omega, by go_num, hs9, hid (by rw [HLOW.out (hd + 1) (Nat.le_refl _), List.append_nil]), ki9⟩
                  case round =>
                    clear hs9 ki9
                    obtain ⟨v, nx2, cn2, hv1, hv, rfl, hs2, HX2, kp2⟩ := hrel
                    obtain ⟨A2, c3, e2, hc3, hm3⟩ := hs2.n.form
                    have hn2 : nx2.length ≤ 279942 := by rw [HX2.out, List.length_append]; have := HEL.out v; omega
                    by_cases hvn : v < n
                    · have hvi : (v : Int) < (n : Int) := by omega
                      have hi2 : tn + v < es.length := HTB.out v hvn
                      obtain ⟨g, o, hA, hg, i0⟩ := (HES.out.keep (pl_stable _) kp2).bools hi2
                      injection hA with hA
                      injection hA with hA1 hA2 hA3
                      subst hA1 hA2
                      have HE2 := hid (HEG.out v hi2)
                      obtain ⟨bl', u', hAl', huc', j1, T2, hT2, hOW2⟩ := hs2.l.el hil' hilc
                      injection hAl' with hAl'
                      injection hAl' with hAl'
                      subst hAl'
                      obtain rfl : u' = _ := (List.cons.inj (huc'.symm.trans huc)).1
                      have HLV2 : Hid (Ints wr (.slice (some ⟨gl, og, none⟩) (k + 1) c0) (castL l)) := hid (by have := hOW2.here; rw [hle] at this; exact this)
                      have HEXV : Hid (extC n es l (v + 1) = extC n es l v ++ if (es[tn + v] && !decide (v ∈ l)) = true then [l ++ [v]] else []) := hid (by rw [HEXL.out, HE2.out, decide_eq_true hv1, Bool.true_and])
                      clear hOW2 huc'
                      generalize es[tn + v] = x at *
                      have hvx : (tn : Int) + (v : Int) < (es.length : Int) := by omega
                      have hll6 : l.length ≤ 1000 := by rw [HL3.out]; omega
                      subst e2
                      cases x with
                      | false =>
                        have HEX : Hid (extC n es l (v + 1) = extC n es l v) := hid (by rw [HEXV.out]; simp)
                        go_wp2_with fail
                        go_roundw
                        case rel => exact ⟨v + 1, nx2, cn2, by omega, by omega, by go_num, hs2, hid (by rw [HEX.out]; exact HX2.out), kp2⟩
                        case measure => simp [intOf]; omega
                      | true =>
                        have HEX0 : Hid (extC n es l (v + 1) = extC n es l v ++ if (!decide (v ∈ l)) = true then [l ++ [v]] else []) := hid (by rw [HEXV.out]; simp)
                        go_wp2_with fail
                        refine (qHas_any _ l v _ HLV2.out).mono ?_
                        rintro e w8 ⟨rfl, rfl⟩
                        generalize decide (v ∈ l) = ub at *
                        cases ub with
                        | true =>
                          have HEX : Hid (extC n es l (v + 1) = extC n es l v) := hid (by rw [HEX0.out]; simp)
                          go_wp2_with fail
                          go_roundw
                          case rel => exact ⟨v + 1, nx2, cn2, by omega, by omega, by go_num, hs2, hid (by rw [HEX.out]; exact HX2.out), kp2⟩
                          case measure => simp [intOf]; omega
                        | false =>
                          have HEX : Hid (extC n es l (v + 1) = extC n es l v ++ [l ++ [v]]) := hid (by rw [HEX0.out]; simp)
                          go_wp2_with fail
                          refine (qWith_any _ l v _ HLV2.out hll6).mono ?_
                          rintro e wa ⟨vw, rfl, ownw, ka⟩
                          have hsa := hs2.kp ka
                          have kpa := kp2.trans ka
                          have hge := ownw.ge
                          have hlw := ownw.blk_lt
                          have hlo := hs2.o.own.blk_lt
                          have hln2 := hs2.n.own.blk_lt
                          have hn2' : cn2.length = nx2.length := hs2.n.len
                          have hzo : g0 ≤ w8.heap.size := by have := kp2.size; rw [← HG0.out]; exact this
                          have HOWS := hid (ownw.owS.kp ((Kp.refl wa).alloc (.cells #[vw] 28)))
                          obtain ⟨Aw, cw, ew, -, -⟩ := ownw.form
                          subst ew
                          have kz := (Kp.refl wa).alloc (.cells #[.slice Aw (castL (l ++ [v])).length cw] 28)
                          have zz := World.size_alloc wa (.cells #[.slice Aw (castL (l ++ [v])).length cw] 28)
                          have hza := ka.size
                          have hsz := hsa.kp kz
                          have hob := hsz.n.blk
                          clear hsa ownw i0 j1
                          go_wp2_with (at_builtin; refine wpl_append_flat (base := 0) rfl (.tmp 100) (.tmp 107) rfl stIntsM encC_len encC_one rfl hsz.n.own rfl (Sl.one (R := Pl encC) wa [.slice Aw (castL (l ++ [v])).length cw] 28 1 (⟨[.slice Aw (castL (l ++ [v])).length cw], rfl, by simp [Value.oneCell']⟩ : Elm 1) rfl rfl) (by rw [hn2']; simp; omega) (by rw [hn2']; simp; omega) (Nat.zero_le _) ?_; intro vz wz ownz hgr hat hnil; obtain ⟨Az, cz, ez, -, -⟩ := ownz.form; rw [List.length_append, List.length_singleton, hn2'] at ez; subst ez)
                          have hsq := hsz.snocN (x := l ++ [v]) ownz hgr hat (fun q => (Value.slice Aw (castL (l ++ [v])).length cw).ownBlock = some q) (fun q hq => ⟨by have := hge q hq; omega, fun e => by have h1 := hge q hq; have h2 := hlo q e; omega, fun e => by have h1 := hge q hq; have h2 := hln2 q e; omega, by have := hlw q hq; omega⟩) (HOWS.out.imp fun w' h => ⟨_, rfl, h.sl encInt_len⟩) (by omega)
                          have kpz : Kp w wz := (kpa.trans kz).grown hgr fun q hq => by have := (hob q hq).1; rw [HG0.out]; exact this
                          clear hgr hat hnil
                          go_roundw
                          case rel => exact ⟨v + 1, nx2 ++ [l ++ [v]], _, by omega, by omega, by go_num, hsq, hid (by rw [HEX.out, HX2.out, List.append_assoc]), kpz⟩
                          case measure => simp [intOf]; omega
                    · obtain rfl : v = n := by omega
                      have hvi : ¬ (v : Int) < (v : Int) := by omega
                      subst e2
                      go_wp2_with fail
                      go_roundw
                      case rel => exact ⟨i + 1, ot1, nx2, co2, cn2, by omega, by go_num, hs2, HO2, hid (by rw [HX2.out, HX.out, HLV.out]), kp2⟩
                      case measure => simp [intOf]; omega
                | true =>
                  have HO2 : Hid (ot1 ++ [l] = ot ++ closeC n es ls (i + 1)) := hid (by rw [HCL.out, HO1.out]; simp)
                  obtain ⟨bl', u', hAl', huc', -, T, hT, hOW⟩ := hs9.l.el hil' hilc
                  obtain rfl : u' = _ := (List.cons.inj (huc'.symm.trans huc)).1
                  rw [hle] at hOW
                  have kz := (Kp.refl w9).alloc (.cells #[.slice (some ⟨gl, og, none⟩) (k + 1) c0] 28)
                  have zz := World.size_alloc w9 (.cells #[.slice (some ⟨gl, og, none⟩) (k + 1) c0] 28)
                  have hsz := hs9.kp kz
                  have hob := hsz.o.blk
                  have hco' : co2.length = ot1.length := hs9.o.len
                  have hgz : g0 ≤ w9.heap.size := by have := ki9.size; rw [← HG0.out]; exact this
                  have HOWS := hid (hOW.kp kz)
                  have HT := hid hT
                  clear hOW hT huc' hs9 hAl'
                  go_wp2_with (at_builtin; refine wpl_append_flat (base := 0) rfl (.tmp 69) (.tmp 74) rfl stIntsM encC_len encC_one rfl hsz.o.own rfl (Sl.one (R := Pl encC) w9 [.slice (some ⟨gl, og, none⟩) (k + 1) c0] 28 1 (⟨[.slice (some ⟨gl, og, none⟩) (k + 1) c0], rfl, by simp [Value.oneCell']⟩ : Elm 1) rfl rfl) (by rw [hco']; simp; omega) (by rw [hco']; simp; omega) (Nat.zero_le _) ?_; intro vz wz ownz hgr hat hnil; obtain ⟨Az, cz, ez, -, -⟩ := ownz.form; rw [List.length_append, List.length_singleton, hco'] at ez; subst ez)
                  have hsq := (hsz.symm.snocN (x := l) ownz hgr hat T (fun q hq => by
                    obtain ⟨⟨t1, t2, t3⟩, -, t4⟩ := HT.out q hq
                    exact ⟨t1, t3, t2, by omega⟩) (HOWS.out.imp fun w' h => ⟨_, rfl, h⟩) (by omega)).symm
                  have kpz : Kp w wz := (ki9.trans kz).grown hgr fun q hq => by have := (hob q hq).1; rw [HG0.out]; exact this
                  have jz : True := trivial
                  clear hgr hat hnil hsz ki9
                  try clear j0
                  try clear ie9
                  go_loopw [9, 13] (fun nv vv wi => ∃ (v : Nat) (nx2 : List (List Nat)) (cn2 : List (Elm 1)), hd < v ∧ v ≤ n ∧ vv = .int .i64 (v : Int) ∧ CyS g0 wi (.slice Az (ot1.length + 1) cz) nv (.slice (some ⟨bl, 0, none⟩) ll cl1) (co2 ++ [(⟨[.slice (some ⟨gl, og, none⟩) (k + 1) c0], rfl, by simp [Value.oneCell']⟩ : Elm 1)]) cn2 cl (ot1 ++ [l]) nx2 ls ∧ Hid (nx2 = nx ++ extC n es l v) ∧ Kp w wi) (fun _ vv _ => n - (intOf vv).toNat)
                  case atStart => exact ⟨hd + 1, nx, cn, by omega, by omega, by go_num, hsq, hid (by rw [HLOW.out (hd + 1) (Nat.le_refl _), List.append_nil]), kpz⟩
                  case round =>
                    clear hsq kpz
                    obtain ⟨v, nx2, cn2, hv1, hv, rfl, hs2, HX2, kp2⟩ := hrel
                    obtain ⟨A2, c3, e2, hc3, hm3⟩ := hs2.n.form
                    have hn2 : nx2.length ≤ 279942 := by rw [HX2.out, List.length_append]; have := HEL.out v; omega
                    by_cases hvn : v < n
                    · have hvi : (v : Int) < (n : Int) := by omega
                      have hi2 : tn + v < es.length := HTB.out v hvn
                      obtain ⟨g, o, hA, hg, i0⟩ := (HES.out.keep (pl_stable _) kp2).bools hi2
                      injection hA with hA
                      injection hA with hA1 hA2 hA3
                      subst hA1 hA2
                      have HE2 := hid (HEG.out v hi2)
                      obtain ⟨bl', u', hAl', huc', j1, T2, hT2, hOW2⟩ := hs2.l.el hil' hilc
                      injection hAl' with hAl'
                      injection hAl' with hAl'
                      subst hAl'
                      obtain rfl : u' = _ := (List.cons.inj (huc'.symm.trans huc)).1
                      have HLV2 : Hid (Ints wr (.slice (some ⟨gl, og, none⟩) (k + 1) c0) (castL l)) := hid (by have := hOW2.here; rw [hle] at this; exact this)
                      have HEXV : Hid (extC n es l (v + 1) = extC n es l v ++ if (es[tn + v] && !decide (v ∈ l)) = true then [l ++ [v]] else []) := hid (by rw [HEXL.out, HE2.out, decide_eq_true hv1, Bool.true_and])
                      clear hOW2 huc'
                      generalize es[tn + v] = x at *
                      have hvx : (tn : Int) + (v : Int) < (es.length : Int) := by omega
                      have hll6 : l.length ≤ 1000 := by rw [HL3.out]; omega
                      subst e2
                      cases x with
                      | false =>
                        have HEX : Hid (extC n es l (v + 1) = extC n es l v) := hid (by rw [HEXV.out]; simp)
                        go_wp2_with fail
                        go_roundw
                        case rel => exact ⟨v + 1, nx2, cn2, by omega, by omega, by go_num, hs2, hid (by rw [HEX.out]; exact HX2.out), kp2⟩
                        case measure => simp [intOf]; omega
                      | true =>
                        have HEX0 : Hid (extC n es l (v + 1) = extC n es l v ++ if (!decide (v ∈ l)) = true then [l ++ [v]] else []) := hid (by rw [HEXV.out]; simp)
                        go_wp2_with fail
                        refine (qHas_any _ l v _ HLV2.out).mono ?_
                        rintro e w8 ⟨rfl, rfl⟩
                        generalize decide (v ∈ l) = ub at *
                        cases ub with
                        | true =>
                          have HEX : Hid (extC n es l (v + 1) = extC n es l v) := hid (by rw [HEX0.out]; simp)
                          go_wp2_with fail
                          go_roundw
                          case rel => exact ⟨v + 1, nx2, cn2, by omega, by omega, by go_num, hs2, hid (by rw [HEX.out]; exact HX2.out), kp2⟩
                          case measure => simp [intOf]; omega
                        | false =>
                          have HEX : Hid (extC n es l (v + 1) = extC n es l v ++ [l ++ [v]]) := hid (by rw [HEX0.out]; simp)
                          go_wp2_with fail
                          refine (qWith_any _ l v _ HLV2.out hll6).mono ?_
                          rintro e wa ⟨vw, rfl, ownw, ka⟩
                          have hsa := hs2.kp ka
                          have kpa := kp2.trans ka
                          have hge := ownw.ge
                          have hlw := ownw.blk_lt
                          have hlo := hs2.o.own.blk_lt
                          have hln2 := hs2.n.own.blk_lt
                          have hn2' : cn2.length = nx2.length := hs2.n.len
                          have hzo : g0 ≤ w8.heap.size := by have := kp2.size; rw [← HG0.out]; exact this
                          have HOWS := hid (ownw.owS.kp ((Kp.refl wa).alloc (.cells #[vw] 28)))
                          obtain ⟨Aw, cw, ew, -, -⟩ := ownw.form
                          subst ew
                          have kz := (Kp.refl wa).alloc (.cells #[.slice Aw (castL (l ++ [v])).length cw] 28)
                          have zz := World.size_alloc wa (.cells #[.slice Aw (castL (l ++ [v])).length cw] 28)
                          have hza := ka.size
                          have hsz := hsa.kp kz
                          have hob := hsz.n.blk
                          clear hsa ownw i0 j1
                          go_wp2_with (at_builtin; refine wpl_append_flat (base := 0) rfl (.tmp 100) (.tmp 107) rfl stIntsM encC_len encC_one rfl hsz.n.own rfl (Sl.one (R := Pl encC) wa [.slice Aw (castL (l ++ [v])).length cw] 28 1 (⟨[.slice Aw (castL (l ++ [v])).length cw], rfl, by simp [Value.oneCell']⟩ : Elm 1) rfl rfl) (by rw [hn2']; simp; omega) (by rw [hn2']; simp; omega) (Nat.zero_le _) ?_; intro vz wz ownz hgr hat hnil; obtain ⟨Az, cz, ez, -, -⟩ := ownz.form; rw [List.length_append, List.length_singleton, hn2'] at ez; subst ez)
                          have hsq := hsz.snocN (x := l ++ [v]) ownz hgr hat (fun q => (Value.slice Aw (castL (l ++ [v])).length cw).ownBlock = some q) (fun q hq => ⟨by have := hge q hq; omega, fun e => by have h1 := hge q hq; have h2 := hlo q e; omega, fun e => by have h1 := hge q hq; have h2 := hln2 q e; omega, by have := hlw q hq; omega⟩) (HOWS.out.imp fun w' h => ⟨_, rfl, h.sl encInt_len⟩) (by omega)
                          have kpz : Kp w wz := (kpa.trans kz).grown hgr fun q hq => by have := (hob q hq).1; rw [HG0.out]; exact this
                          clear hgr hat hnil
                          go_roundw
                          case rel => exact ⟨v + 1, nx2 ++ [l ++ [v]], _, by omega, by omega, by go_num, hsq, hid (by rw [HEX.out, HX2.out, List.append_assoc]), kpz⟩
                          case measure => simp [intOf]; omega
                    · obtain rfl : v = n := by omega
                      have hvi : ¬ (v : Int) < (v : Int) := by omega
                      subst e2
                      go_wp2_with fail
                      go_roundw
                      case rel => exact ⟨i + 1, (ot1 ++ [l]), nx2, (co2 ++ [(⟨[.slice (some ⟨gl, og, none⟩) (k + 1) c0], rfl, by simp [Value.oneCell']⟩ : Elm 1)]), cn2, by omega, by go_num, hs2, HO2, hid (by rw [HX2.out, HX.out, HLV.out]), kp2⟩
                      case measure => simp [intOf]; omega
              · obtain rfl : i = ll := by omega
                have hii : ¬ (i : Int) < (i : Int) := by omega
                have HX1 : Hid (nx = levelC n es ls ls.length) := hid (by rw [HX.out, HLL.out])
                have HO3 : Hid (ot1 = ot ++ closeC n es ls ls.length) := hid (by rw [HO1.out, HLL.out])
                have HF2 : Hid (R = ot1 ++ cycR n es (n - (k + 1)) nx) := hid (by rw [HF.out, HR1.out, cycR, HO3.out, HX1.out, List.append_assoc]; have := HR1.out; rw [show n - (k + 1) = r by omega])
                have HLI2 : Hid (nx.length ≤ 6 ^ (k + 1 + 1) ∧ ∀ l ∈ nx, l ≠ [] ∧ (∀ x ∈ l, x < n) ∧ l.length = k + 1 + 1) := hid (by rw [HX1.out]; exact LvI.nextC h6 ⟨by rw [HLL.out]; exact HLI.out.1, HLI.out.2⟩)
                have HOL2 : Hid (ot1.length ≤ 46656 * (k + 1)) := hid (by have h3 := closeC_len n es ls ls.length; have h4 := HOL.out; have h5 := HO3.out; have h6 := HLL.out; rw [h5, List.length_append]; omega)
                have no2 := hs.o.mono (S' := fun q => g0 ≤ q) fun q h => h.1
                have nl2 := hs.n
                subst eo en
                clear HF HLI HOL hs
                go_wp2_with fail
                go_roundw
                case rel => exact ⟨k + 1, ot1, nx, co2, cn, by omega, by go_num, no2, nl2, ki, HOL2, HLI2, HF2⟩
                case measure => simp [intOf]; omega
          · obtain rfl : k = n := by omega
            have hkl : ¬ (k : Int) < (k : Int) := by omega
            have HF2 : Hid (R = ot) := hid (by rw [HF.out, Nat.sub_self]; simp [cycR])
            subst eo
            clear nl HF HLI HOL
            go_wp2
            go_ret
            exact ⟨_, rfl, ⟨co, by rw [HF2.out]; exact no.mono fun q h => by rw [HG0.out]; exact h⟩, kr⟩
set_option maxHeartbeats 1600000 in
theorem qCycle_any (s : Int) (v : Value) (es : List Bool) (w : World) (hes : Bools w v es) : Calls Try.prog 22 #[.int .i64 s, v] w fun e w' => ∃ v', e = .returned v' ∧ Ints w' v' (castL ((cycQ s es).headD [])) ∧ Kp w w' := by
  have HCY : Hid (∀ w0, w0 = w → Calls Try.prog 25 #[.int .i64 s, v] w0 fun e w' => ∃ v' css, e = .returned v' ∧ NL rdL 28 1 (fun q => w0.heap.size ≤ q) w' v' css (cycQ s es) ∧ Kp w0 w') := hid fun w0 e => by subst e; exact qCycles_any s v es w0 hes
  generalize cycQ s es = L at *
  go_enter Try.func22, Try.ntmps22
  go_wp2_with fail
  refine (HCY.out _ rfl).mono ?_
  rintro e w1 ⟨v1, css, rfl, nl, k1⟩
  have hsl := nl.sl
  obtain ⟨A1, c1, rfl, hlc, hcm⟩ := nl.form
  cases L with
  | nil =>
    go_wp2
    go_ret
    exact ⟨_, rfl, Sl.nil _ _ _, k1⟩
  | cons x L =>
    obtain ⟨b, o, v, rfl, hb, i0, hv⟩ := hsl.rdL (k := 0) (by simp)
    generalize hll : (x :: L).length = m at *
    have hmp0 : (x :: L).length = L.length + 1 := rfl
    have hmp : (0 : Int) < (m : Int) := by omega
    have hmp2 : 0 < m := by rw [← hll]; simp
    have hm0 : ((m : Int) == 0) = false := beq_false_of_ne (by omega)
    have hm1 : (m == 0) = false := beq_false_of_ne (by omega)
    rw [Nat.add_zero] at i0
    obtain ⟨A2, c2, rfl, -, -⟩ := hv.form
    have HV := hid hv
    generalize (castL ((x :: L)[0]'(by simp))).length = lx at *
    clear hll hv nl hsl
    go_wp2
    go_ret
    exact ⟨_, rfl, HV.out, k1⟩
end Go.Proofs.Ytlkabhjkncklnaa
