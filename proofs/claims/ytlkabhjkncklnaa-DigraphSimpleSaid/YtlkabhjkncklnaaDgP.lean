
/-
Graphs: the first path (breadth first): the walk.
-/
import Derived.Test.YtlkabhjkncklnaaDgA
import Derived.Test.YtlkabhjkncklnaaQueue
import Derived.Deep.LoopGhost
namespace Go.Proofs.Ytlkabhjkncklnaa
set_option linter.unusedSimpArgs false
set_option linter.unusedVariables false
open Go.RowKit

theorem stIntM : SliceT Try.prog 28 3 1 8 := SliceT.mk' Try.underlying28 (z := .int .i64 0) (by kernel_rfl) rfl (by omega)
theorem stBoolM : SliceT Try.prog 22 4 1 1 := SliceT.mk' Try.underlying22 (z := .bool false) (by kernel_rfl) rfl (by omega)
theorem stIntsM : SliceT Try.prog 35 28 1 24 := SliceT.mk' Try.underlying35 (z := .slice none 0 0) (by kernel_rfl) rfl (by omega)
set_option maxHeartbeats 1000000 in
theorem CloneI_any (v : Value) (l : List Int) (w : World) (hS : Ints w v l) (hl : l.length ≤ 1000000000) :
    Calls Try.prog 36 #[v] w fun e w' => ∃ v', e = .returned v' ∧ Own encInt 3 1 w.heap.size w' v' l ∧ Kp w w' := by
  obtain ⟨A, c, rfl, hc, hm⟩ := hS.form
  rcases A with _ | A
  · have hl0 : l = [] := by
      cases l with
      | nil => rfl
      | cons x l =>
        obtain ⟨_, _, _, hA, _⟩ := hS.at_ (k := 0) (by simp)
        cases hA
    subst hl0
    rw [List.length_nil]
    have hnil := fun (W : World) => Lib.run_eql_slice_nil (P := Try.prog) W 28 3 none 0 c 0 0 Try.underlying28
    go_enter Try.func36, Try.ntmps36
    go_wp2
    go_ret
    exact ⟨_, rfl, Own.nil _ _ _ _ _, Kp.refl _⟩
  · have hnil := fun (W : World) => Lib.run_eql_slice_nil (P := Try.prog) W 28 3 (some A) l.length c 0 0 Try.underlying28
    go_enter Try.func36, Try.ntmps36
    go_wp2_with (at_builtin; refine wpl_append_flat rfl (.tmp 5) (.tmp 6) rfl stIntM encInt_len encInt_one rfl (Own.lit (base := w.heap.size) encInt w #[] [] (Nat.le_refl _) (by simp) rfl rfl) rfl (hS.keep (pl_stable _) ((Kp.refl w).alloc _)) (by simp; omega) (by simp; omega) (by simp) ?_; intro v' w' hown hgrow hat hnil')
    go_ret
    exact ⟨_, rfl, by simpa using hown, ((Kp.refl w).alloc _).grown hgrow (fun k hk => by cases hk; exact Nat.le_refl _)⟩
def castL (l : List Nat) : List Int := l.map (fun x : Nat => (x : Int))
theorem castL_len (l : List Nat) : (castL l).length = l.length := by simp [castL]
theorem castL_get (l : List Nat) (k : Nat) (h : k < l.length) : (castL l)[k]'(by rw [castL_len]; exact h) = (l[k] : Int) := by simp [castL]
theorem castL_snoc (l : List Nat) (b : Nat) : castL (l ++ [b]) = castL l ++ [(b : Int)] := by simp [castL]
/-- how a list of vertices reads as an element of a list of lists -/
def rdL : Rd (List Nat) := fun w cs x => ∃ v, cs = [v] ∧ Ints w v (castL x)
theorem rdL_stable : Stable rdL := fun _ _ _ _ k ⟨v, e, h⟩ => ⟨v, e, h.keep (pl_stable _) k⟩
theorem Sl.rdL {w : World} {A : Option Addr} {n c : Nat} {l : List (List Nat)} (h : Sl rdL 1 w (.slice A n c) l) {k : Nat} (hk : k < l.length) :
    ∃ b o v, A = some ⟨b, o, none⟩ ∧ b < w.heap.size ∧ w.cell? ⟨b, o + k, none⟩ = some v ∧ Ints w v (castL l[k]) := by
  obtain ⟨b, o, cs, hA, hb, hcs, hc, v, rfl, hi⟩ := h.at_ hk
  have := hc 0 _ rfl
  rw [Nat.mul_one] at this
  exact ⟨b, o, v, hA, hb, this, hi⟩
/-- one vertex is looked at -/
def bfsIn (n : Nat) (es : List Bool) (l : List Nat) (p : List Bool × List (List Nat)) (b : Nat) : List Bool × List (List Nat) :=
  if hasE n es (l.getLastD 0) b = true ∧ p.1.getD b true = false then (p.1.set b true, p.2 ++ [l ++ [b]]) else p
def bfsRow (n : Nat) (es : List Bool) (l : List Nat) (p : List Bool × List (List Nat)) (k : Nat) : List Bool × List (List Nat) := (List.range k).foldl (bfsIn n es l) p
def bfs (n : Nat) (es : List Bool) (to_ : Nat) : Nat → List Bool → List (List Nat) → List Nat
  | 0, _, _ => []
  | _ + 1, _, [] => []
  | f + 1, seen, l :: q => if l.getLastD 0 = to_ then l else bfs n es to_ f (bfsRow n es l (seen, q) n).1 (bfsRow n es l (seen, q) n).2
def pathF (n : Nat) (es : List Bool) (a b : Nat) : List Nat := bfs n es b n ((List.replicate n false).set a true) [[a]]
theorem bfsRow_succ (n : Nat) (es : List Bool) (l : List Nat) (p : List Bool × List (List Nat)) (k : Nat) : bfsRow n es l p (k + 1) = bfsIn n es l (bfsRow n es l p k) k := by
  unfold bfsRow
  rw [List.range_succ, List.foldl_append]
  rfl
/-- what holds of the lists seen and queue when g rounds are left -/
structure BfsI (n g : Nat) (seen : List Bool) (q : List (List Nat)) : Prop where
  len : seen.length = n
  pot : q.length + seen.count false ≤ g
  els : ∀ l ∈ q, l ≠ [] ∧ (∀ x ∈ l, x < n) ∧ l.length + g ≤ n + 1
theorem count_set {seen : List Bool} {b : Nat} (h : b < seen.length) (h0 : seen.getD b true = false) : (seen.set b true).count false + 1 = seen.count false := by
  have e : seen[b] = false := by simpa [List.getD, List.getElem?_eq_getElem h] using h0
  have h1 := List.count_set (a := true) (b := false) (l := seen) (i := b) (by simpa using h)
  rw [h1, e]
  have : 0 < seen.count false := by
    rw [List.count_pos_iff]
    rw [← e]
    exact List.getElem_mem h
  simp
  omega
theorem BfsI.start (n a : Nat) (ha : a < n) : BfsI n n ((List.replicate n false).set a true) [[a]] := by
  refine ⟨by simp, ?_, fun l hl => ?_⟩
  · have h1 := count_set (seen := List.replicate n false) (b := a) (by simpa using ha) (by simp [List.getD, ha])
    rw [List.count_replicate_self] at h1
    simp
    omega
  · simp only [List.mem_singleton] at hl
    subst hl
    exact ⟨by simp, fun x hx => by simp only [List.mem_singleton] at hx; omega, by simp; omega⟩
theorem BfsI.row {n g : Nat} {seen : List Bool} {l : List Nat} {q : List (List Nat)} {es : List Bool} (h : BfsI n (g + 1) seen (l :: q)) : ∀ k, k ≤ n → BfsI n g (bfsRow n es l (seen, q) k).1 (bfsRow n es l (seen, q) k).2
  | 0, _ => ⟨h.len, by have := h.pot; simp only [List.length_cons] at this; show q.length + seen.count false ≤ g; omega, fun x hx => by obtain ⟨a1, a2, a3⟩ := h.els x (List.mem_cons_of_mem _ hx); exact ⟨a1, a2, by omega⟩⟩
  | k + 1, hk => by
    have ih := BfsI.row (es := es) h k (by omega)
    rw [bfsRow_succ]
    generalize bfsRow n es l (seen, q) k = p at *
    obtain ⟨s, q'⟩ := p
    unfold bfsIn
    dsimp only at ih ⊢
    split
    · rename_i hc
      obtain ⟨a1, a2, a3⟩ := h.els l (List.mem_cons_self ..)
      refine ⟨by simp [ih.len], ?_, fun x hx => ?_⟩
      · have h1 := count_set (seen := s) (b := k) (by rw [ih.len]; omega) hc.2
        have := ih.pot
        simp only [List.length_append, List.length_singleton]
        omega
      · rcases List.mem_append.1 hx with hx | hx
        · exact ih.els x hx
        · simp only [List.mem_singleton] at hx
          subst hx
          refine ⟨by simp, fun y hy => ?_, by simp only [List.length_append, List.length_singleton]; omega⟩
          rcases List.mem_append.1 hy with hy | hy
          · exact a2 y hy
          · simp only [List.mem_singleton] at hy
            omega
    · exact ih
theorem getLastD_eq {l : List Nat} (h : l ≠ []) : l.getLastD 0 = l[l.length - 1]'(by have := List.length_pos_iff.2 h; omega) := by
  rw [List.getLastD_eq_getLast?, List.getLast?_eq_getElem?, List.getElem?_eq_getElem (by have := List.length_pos_iff.2 h; omega)]
  rfl
theorem bfs_nil (n : Nat) (es : List Bool) (t g : Nat) (seen : List Bool) : bfs n es t g seen [] = [] := by cases g <;> rfl
theorem NQ.head {e : Nat} {S : Nat → Prop} {w : World} {A : Option Addr} {n c : Nat} {c0 : Elm 1} {css : List (Elm 1)} {x : List Nat} {xs : List (List Nat)} (h : NQ rdL e 1 S w (.slice A n c) (c0 :: css) (x :: xs)) :
    ∃ b o v, A = some ⟨b, o, none⟩ ∧ b < w.heap.size ∧ c0.val = [v] ∧ w.cell? ⟨b, o, none⟩ = some v ∧ Ints w v (castL x) := by
  obtain ⟨T, hT, ho⟩ := h.els 0 (by simp) (by simp)
  obtain ⟨v, hv, hi⟩ := ho.here
  obtain ⟨b, o, cs, hA, hb, hcs, hc, hr⟩ := (h.own.sl encC_len).at_ (k := 0) (by simp)
  have hr : cs = c0.val := hr
  have hv : c0.val = [v] := hv
  subst hr
  have := hc 0 v (by rw [hv]; rfl)
  simp only [Nat.zero_mul, Nat.add_zero] at this
  exact ⟨b, o, v, hA, hb, hv, this, hi⟩
set_option maxRecDepth 8000 in
set_option maxHeartbeats 3200000 in
theorem dPath_any (v : Value) (n : Nat) (es : List Bool) (a b : Nat) (w : World) (hg : GrV w v n es) (ha : a < n) (hb : b < n) : Calls Try.prog 45 #[v, .int .i64 (a : Int), .int .i64 (b : Int)] w fun e w' => ∃ v', e = .returned v' ∧ Ints w' v' (castL (pathF n es a b)) ∧ Kp w w' := by
  have HGR := hid hg
  generalize hR : pathF n es a b = R
  have HP : Hid (R = bfs n es b n ((List.replicate n false).set a true) [[a]]) := hid hR.symm
  clear hR
  obtain ⟨vb, rfl, hes, hl, h1, h6⟩ := hg
  obtain ⟨A, c, rfl, hc, hm⟩ := hes.form
  have hA := Bx.new w [.int .i64 (n : Int), .slice A es.length c].toArray 51
  have k0 := (Kp.refl w).alloc (.cells [.int .i64 (n : Int), .slice A es.length c].toArray 51)
  have la := alloc_lt w (.cells [.int .i64 (n : Int), .slice A es.length c].toArray 51)
  have hz : (w.alloc (.cells [.int .i64 (n : Int), .slice A es.length c].toArray 51)).heap.size = w.heap.size + 1 := by simp
  have HL := hid hl
  have han : (a : Int) < (n : Int) := by omega
  have hbn : b < n := hb
  clear hes hl
  go_enter Try.func45, Try.ntmps45
  go_upto_region 1 with (fail)
  generalize hw0 : w.alloc (.cells [.int .i64 (n : Int), .slice A es.length c].toArray 51) = w0 at *
  generalize hb0 : w.heap.size = b0 at *
  simp only [List.toList_toArray] at hA
  have c0 := hA.cell (j := 0) rfl
  have HZ := hid hz
  have hbase : b0 + 1 ≤ w0.heap.size := by omega
  clear hw0 hz
  go_upto_region 2 with (refine wpl_make_flat (enc := encBool) (base := b0 + 1) rfl (.tmp 13) (.tmp 13) rfl stBoolM false (zero_of (u := .bool false) (by kernel_rfl) rfl) n rfl rfl (by omega) (by omega) hbase ?_; intro w1 own1 k1 z1; rw [HZ.out] at own1 z1)
  rw [HZ.out]
  have d0 := own1.boolCell (k := a) (by simp) (by simpa using ha)
  have fz := own1.frozen (by simp) a
  go_upto_region 3 with (fail)
  have own2 := own1.boolSet (k := a) (by simp) (by simpa using ha) true
  have kg := (Kg.refl w1 (b0 + 1)).set (p := ⟨b0 + 1, a, none⟩) (.inl rfl) (.bool true)
  have kk := (k0.trans k1).set (p := ⟨b0 + 1, a, none⟩) (by show w.heap.size ≤ b0 + 1; omega) (.bool true)
  have hA2 := (hA.kp k1 la).kg kg (by omega) (by omega)
  have hs2 : (w1.setCell ⟨b0 + 1, a, none⟩ (.bool true)).heap.size = b0 + 2 := by rw [set_size]; exact z1
  clear d0 fz own1 c0 hA kg k0
  generalize hw2 : w1.setCell ⟨b0 + 1, a, none⟩ (.bool true) = w2 at *
  clear hw2
  have HS2 := hid hs2
  have kw3 := (Kp.refl w2).alloc (.cells #[.int .i64 (a : Int)] 3)
  have o3 := Own.lit (base := b0 + 2) (size := 1) encInt (e := 3) w2 #[.int .i64 (a : Int)] [(a : Int)] (by omega) (by simp) rfl rfl
  have hs3 : (w2.alloc (.cells #[.int .i64 (a : Int)] 3)).heap.size = b0 + 3 := by simp [hs2]
  rw [hs2] at o3
  have ho3 := o3.owS
  have kw4 := kw3.alloc (.cells #[.slice (some ⟨b0 + 2, 0, none⟩) 1 1] 28)
  have kw4' := (Kp.refl (w2.alloc (.cells #[.int .i64 (a : Int)] 3))).alloc (.cells #[.slice (some ⟨b0 + 2, 0, none⟩) 1 1] 28)
  have o4 := Own.lit (base := 0) (size := 1) (encC (size := 1)) (e := 28) (w2.alloc (.cells #[.int .i64 (a : Int)] 3)) #[.slice (some ⟨b0 + 2, 0, none⟩) 1 1] [⟨[.slice (some ⟨b0 + 2, 0, none⟩) 1 1], rfl, by simp [Value.oneCell']⟩] (by omega) (by simp) rfl rfl
  rw [hs3] at o4
  have hlt4 : b0 + 3 < ((w2.alloc (.cells #[.int .i64 (a : Int)] 3)).alloc (.cells #[.slice (some ⟨b0 + 2, 0, none⟩) 1 1] 28)).heap.size := by rw [← hs3]; exact alloc_lt _ _
  have NQ0 : NQ rdL 28 1 (fun q => b0 + 2 ≤ q) ((w2.alloc (.cells #[.int .i64 (a : Int)] 3)).alloc (.cells #[.slice (some ⟨b0 + 2, 0, none⟩) 1 1] 28)) (.slice (some ⟨b0 + 3, 0, none⟩) 1 1) [⟨[.slice (some ⟨b0 + 2, 0, none⟩) 1 1], rfl, by simp [Value.oneCell']⟩] [[a]] := by
    refine ⟨o4.q, rfl, fun q hq => ?_, fun k i1 i2 => ?_⟩
    · simp only [Value.ownBlock, Option.some.injEq] at hq
      show b0 + 2 ≤ q
      omega
    · have hk : k = 0 := by simpa using i1
      subst hk
      refine ⟨fun q => (Value.slice (some ⟨b0 + 2, 0, none⟩) 1 1).ownBlock = some q, fun q hq => ?_, (ho3.kp kw4').imp fun w' h => ⟨_, rfl, h.sl encInt_len⟩⟩
      simp only [Value.ownBlock, Option.some.injEq] at hq
      subst hq
      exact ⟨Nat.le_refl _, by simp [Value.ownBlock], by omega⟩
  have own4 := own2.kp kw4
  have kk4 := kk.trans kw4
  have hA4 := hA2.kp kw4 (by omega)
  clear kw4' o3 o4 ho3 kw3 kw4 own2 kk hA2 k1 HZ hbase z1 la
  go_wp2_with fail
  generalize (w2.alloc (.cells #[.int .i64 (a : Int)] 3)).alloc (.cells #[.slice (some ⟨b0 + 2, 0, none⟩) 1 1] 28) = w4 at *
  clear hs2 hs3 HS2
  have HI := hid (BfsI.start n a ha)
  go_loopg [8] (n + 1) (fun gk qv wr => ∃ (g : Nat) (seen : List Bool) (queue : List (List Nat)) (css : List (Elm 1)), gk = g + 1 ∧ g ≤ n ∧ Own encBool 4 1 (b0 + 1) wr (.slice (some ⟨b0 + 1, 0, none⟩) n n) seen ∧ NQ rdL 28 1 (fun q => b0 + 2 ≤ q) wr qv css queue ∧ Kp w wr ∧ Bx wr b0 [.int .i64 (n : Int), .slice A es.length c] ∧ b0 + 1 < wr.heap.size ∧ Hid (BfsI n g seen queue) ∧ Hid (R = bfs n es b g seen queue))
  case atStart => exact ⟨n, _, _, _, rfl, Nat.le_refl _, own4, NQ0, kk4, hA4, by omega, HI, HP⟩
  case round =>
    clear own4 NQ0 kk4 hA4 HI HP hlt4
    obtain ⟨g, seen, queue, css, rfl, hgn, own, nq, kr, hB, hlt, HI, HP⟩ := hrel
    obtain ⟨Aq, cq, e0, hcq, hmq⟩ := nq.form
    generalize hLq : queue.length = Lq at *
    subst e0
    cases queue with
    | nil =>
      obtain rfl : Lq = 0 := by rw [← hLq]; rfl
      clear hLq
      have HF : Hid (R = []) := hid (by rw [HP.out, bfs_nil])
      clear own nq hB HI HP
      go_wp2
      go_ret
      exact ⟨_, rfl, by rw [HF.out]; exact Sl.nil _ _ _, kr⟩
    | cons l q =>
      obtain ⟨g', rfl⟩ : ∃ g', g = g' + 1 := ⟨g - 1, by have := HI.out.pot; simp only [List.length_cons] at this; omega⟩
      obtain ⟨hl1, hl2, hl3⟩ := HI.out.els l (List.mem_cons_self ..)
      have hpot := HI.out.pot
      obtain ⟨cc0, css, rfl⟩ : ∃ x r, css = x :: r := by
        cases css with
        | nil => have := nq.len; simp at this
        | cons x r => exact ⟨x, r, rfl⟩
      obtain ⟨gq, oq, v0, rfl, hgq, hcv, i0, hv0⟩ := nq.head
      obtain ⟨A0, cp0, rfl, hc0, hm0⟩ := hv0.form
      have hpos : 0 < l.length := List.length_pos_iff.2 hl1
      obtain ⟨gl, ol, rfl, hgl, i1⟩ := hv0.ints (k := l.length - 1) (by rw [castL_len]; omega)
      have hlast : l.getLastD 0 = l[l.length - 1]'(by omega) := getLastD_eq hl1
      have hln : l.getLastD 0 < n := by rw [hlast]; exact hl2 _ (List.getElem_mem _)
      rw [castL_get l (l.length - 1) (by omega), ← hlast] at i1
      have HV0 := hid hv0
      have HLL := hid hl3
      have HQP := hid hpot
      rw [castL_len] at i0 hc0 hcv
      obtain ⟨m, hm1⟩ : ∃ m, l.length = m + 1 := ⟨l.length - 1, by omega⟩
      rw [hm1] at i0 hc0 i1 hcv
      have HCV := hid hcv
      clear hcv
      rw [Nat.add_sub_cancel] at i1
      have HM1 := hid hm1
      have hmb : (m : Int) < 6 := by omega
      have hqb : (q.length : Int) ≤ 6 := by simp only [List.length_cons] at hpot; omega
      have HNQ := hid nq
      have hql : (0 : Int) < (Lq : Int) := by rw [← hLq]; simp only [List.length_cons]; omega
      have hql2 : 0 < Lq := by omega
      clear hLq
      clear hv0 hl1 hl2 hl3 hpot hm1 hpos hlast nq
      generalize hlastN : l.getLastD 0 = t at *
      have HT := hid hlastN
      clear hlastN
      by_cases htb : t = b
      · have e1 : ((t : Int) == (b : Int)) = true := by rw [htb]; simp
        have HF : Hid (R = l) := hid (by rw [HP.out, bfs, if_pos (by rw [HT.out]; exact htb)])
        replace htb := hid htb
        clear own HNQ hB HI HP
        go_wp2
        go_ret
        exact ⟨_, rfl, by rw [HF.out]; have := HV0.out; rw [castL_len, HM1.out] at this; exact this, kr⟩
      · have e1 : ((t : Int) == (b : Int)) = false := beq_false_of_ne (by omega)
        have HF : Hid (R = bfs n es b g' (bfsRow n es l (seen, q) n).1 (bfsRow n es l (seen, q) n).2) := hid (by rw [HP.out, bfs, if_neg (by rw [HT.out]; exact htb)])
        replace htb := hid htb
        clear HP
        have c0 := hB.cell (j := 0) rfl
        have lb : b0 < wr.heap.size := by omega
        go_wp2_with fail
        have HRow := hid (BfsI.row (es := es) HI.out)
        clear HI
        obtain ⟨wo, rfl⟩ : ∃ wo : World, wo = wr := ⟨_, rfl⟩
        go_loopw [8, 41] (fun qv i wi => ∃ (k : Nat) (css' : List (Elm 1)), k ≤ n ∧ i = .int .i64 (k : Int) ∧ Own encBool 4 1 (b0 + 1) wi (.slice (some ⟨b0 + 1, 0, none⟩) n n) (bfsRow n es l (seen, q) k).1 ∧ NQ rdL 28 1 (fun q => b0 + 2 ≤ q) wi qv (cc0 :: css') (l :: (bfsRow n es l (seen, q) k).2) ∧ Kp w wi ∧ Bx wi b0 [.int .i64 (n : Int), .slice A es.length c] ∧ b0 + 1 < wi.heap.size) (fun _ i _ => n - (intOf i).toNat)
        case atStart => exact ⟨0, css, Nat.zero_le _, rfl, own, HNQ.out, kr, hB, hlt⟩
        case round =>
          clear own HNQ kr hB hlt HV0 c0 lb i0 i1 hgq hgl
          obtain ⟨k, css', hk, rfl, own, nq, kr, hB, hlt⟩ := hrel
          by_cases hkn : k < n
          · have hkl : (k : Int) < (n : Int) := by omega
            have HI2 := hid (HRow.out k hk)
            have HI3 := hid (HRow.out (k + 1) hkn)
            have HS := hid (bfsRow_succ n es l (seen, q) k)
            rw [HS.out] at HI3
            generalize hps : bfsRow n es l (seen, q) k = p at *
            have HPS := hid hps
            clear hps
            obtain ⟨sn, qn⟩ := p
            dsimp only at own nq HI2
            have hsl : sn.length = n := HI2.out.len
            have d0 := own.boolCell (k := k) hsl.symm (by omega)
            have fz := own.frozen hsl.symm k
            have HSL := hid hsl
            have hsg : sn.getD k true = sn[k] := by simp [List.getD, List.getElem?_eq_getElem (show k < sn.length by omega)]
            have HSG := hid hsg
            have hqn : qn.length ≤ 6 := by have := HI2.out.pot; omega
            have c0 := hB.cell (j := 0) rfl
            have c1 := hB.cell (j := 1) rfl
            have lb : b0 < wr.heap.size := by omega
            generalize sn[k] = sk at *
            clear hsl hsg
            have HG := hid (HGR.out.kp kr)
            go_wp2_with fail
            refine (dHas_any _ n es t k _ HG.out hln hkn).mono ?_
            rintro e w5 ⟨rfl, k5⟩
            have own5 := own.kp k5
            have nq5 := nq.kp k5
            have kr5 := kr.trans k5
            have hB5 := hB.kp k5 lb
            have hz5 := k5.size
            have hlt5 : b0 + 1 < w5.heap.size := by omega
            have d5 := k5.cellS d0
            have fz5 := own5.frozen HSL.out.symm k
            clear own nq kr hB c0 c1 d0 fz k5 lb
            cases hE : hasE n es t k with
            | false =>
              have HBI : Hid (bfsRow n es l (seen, q) (k + 1) = (sn, qn)) := hid (by rw [HS.out, bfsIn, HT.out, hE, if_neg (by simp)])
              replace hE := hid hE
              go_wp2_with fail
              go_roundw
              case rel => exact ⟨k + 1, css', by omega, by go_num, by rw [HBI.out]; exact own5, by rw [HBI.out]; exact nq5, kr5, hB5, hlt5⟩
              case measure => simp [intOf]; omega
            | true =>
              cases sk with
              | true =>
                have HBI : Hid (bfsRow n es l (seen, q) (k + 1) = (sn, qn)) := hid (by rw [HS.out, bfsIn, HT.out, HSG.out, if_neg (by simp)])
                replace hE := hid hE
                go_wp2_with fail
                go_roundw
                case rel => exact ⟨k + 1, css', by omega, by go_num, by rw [HBI.out]; exact own5, by rw [HBI.out]; exact nq5, kr5, hB5, hlt5⟩
                case measure => simp [intOf]; omega
              | false =>
                have HBI : Hid (bfsRow n es l (seen, q) (k + 1) = (sn.set k true, qn ++ [l ++ [k]])) := hid (by rw [HS.out, bfsIn, HT.out, HSG.out, hE, if_pos ⟨rfl, rfl⟩])
                replace hE := hid hE
                go_upto_region 15 with (fail)
                have own6 := own5.boolSet (k := k) HSL.out.symm (by have := HSL.out; omega) true
                have kg := (Kg.refl w5 (b0 + 1)).set (p := ⟨b0 + 1, k, none⟩) (.inl rfl) (.bool true)
                have kr6 := kr5.set (p := ⟨b0 + 1, k, none⟩) (by show w.heap.size ≤ b0 + 1; omega) (.bool true)
                have hB6 := hB5.kg kg (by omega) (by omega)
                have nq6 := nq5.kg kg (by omega)
                have hz6 := kg.size
                clear own5 kr5 hB5 nq5 kg d5 fz5
                generalize hw6 : w5.setCell ⟨b0 + 1, k, none⟩ (.bool true) = w6 at *
                clear hw6
                obtain ⟨Aq, cq, e0, hcq, hmq⟩ := nq6.form
                generalize hLq : (l :: qn).length = Lq at *
                have HLQ := hid hLq
                clear hLq
                subst e0
                have NQ6 := hid nq6
                obtain ⟨gq, oq, v1, rfl, hgq, hcv1, -, hv1⟩ := nq6.head
                obtain rfl : v1 = _ := (List.cons.inj (hcv1.symm.trans HCV.out)).1
                have hlb : (castL l).length ≤ 1000 := by rw [castL_len, HM1.out]; omega
                have hblk := hid (fun i hi => (nq6.own.blk i hi).2)
                clear hcv1 nq6
                go_wp2_with fail
                refine (CloneI_any _ (castL l) w6 hv1 (by omega)).mono ?_
                rintro e w7 ⟨vc, rfl, ownc, k7⟩
                obtain ⟨Ac, cc, rfl, hcc, hmc⟩ := ownc.form
                have hcl : (castL l).length ≤ 1000 := hlb
                have hkb : (k : Int) ≤ 6 := by omega
                have hblo := hid ownc.ge
                have hz7 := k7.size
                go_upto_region 16 with (first | (at_builtin; refine wpl_append_flat rfl (.tmp 60) (.tmp 62) rfl stIntM encInt_len encInt_one rfl (ownc.alloc _) rfl (Sl.one (R := Pl encInt) w7 _ 3 1 (k : Int) rfl rfl) (by simp; omega) (by simp; omega) (by simp; omega) ?_; intro vn w8 ownn hgn hatn hniln; obtain ⟨An, cn, en, hcn, hmn⟩ := ownn.form; rw [List.length_append, List.length_singleton] at en; subst en; have k68 : Kp w6 w8 := (k7.alloc _).grown hgn hblo.out; have k69 : Kp w6 (w8.alloc (.cells #[.slice An ((castL l).length + 1) cn] 28)) := k68.alloc _; have nq9 := NQ6.out.kp k69) | (at_builtin; refine wpl_append_q (base := 0) rfl (.tmp 58) (.tmp 64) rfl stIntsM encC_len encC_one rfl nq9.own rfl (Sl.one (R := Pl encC) w8 _ 28 1 (⟨[.slice An ((castL l).length + 1) cn], rfl, by simp [Value.oneCell']⟩ : Elm 1) rfl rfl) (by have := nq9.len; simp only [List.length_cons, List.length_nil] at this ⊢; omega) (by have := nq9.len; simp only [List.length_cons, List.length_nil] at this ⊢; omega) (Nat.zero_le _) ?_; intro vq wA ownq hgq2 hatq))
                have hgr : (w8.alloc (.cells #[.slice An ((castL l).length + 1) cn] 28)).grownBy wA (Value.slice (some ⟨gq, oq, none⟩) Lq cq).ownBlock := hgq2
                have hat : vq.ownBlock = (Value.slice (some ⟨gq, oq, none⟩) Lq cq).ownBlock ∨ vq.ownBlock = some (w8.alloc (.cells #[.slice An ((castL l).length + 1) cn] 28)).heap.size := hatq
                have hnge := ownn.ge
                have hnlt := ownn.owS.here.blk_lt
                have hk8 := k68.size
                have hz9 := alloc_lt w8 (.cells #[.slice An ((castL l).length + 1) cn] 28)
                have hgqb : b0 + 2 ≤ gq := nq9.blk gq rfl
                have hgq6 : gq < w6.heap.size := hblk.out gq rfl
                have nqA := nq9.snoc (x := l ++ [k]) ownq hgr hat (fun q => (Value.slice An ((castL l).length + 1) cn).ownBlock = some q) (fun q hq => ⟨by have := hnge q hq; show b0 + 2 ≤ q; omega, fun e => by
                  simp only [Value.ownBlock, Option.some.injEq] at e
                  have := hnge q hq
                  omega, by have := hnlt q hq; omega⟩) ((ownn.owS.kp ((Kp.refl w8).alloc _)).imp fun w' h => ⟨_, rfl, by rw [castL_snoc]; have := h.sl encInt_len; simpa using this⟩) (fun q hq => hq) (by show b0 + 2 ≤ _; omega)
                have ownA := (own6.kp k69).owS wA hgr.size fun q hq hlt => hgr.block q hlt fun e => by
                  simp only [Value.ownBlock, Option.some.injEq] at e hq
                  omega
                have hBA := (hB6.kp k69 (by omega)).grown hgr (fun e => by simp only [Value.ownBlock, Option.some.injEq] at e; omega) (by omega)
                have krA := (kr6.trans k69).grown hgr fun q hq => by
                  simp only [Value.ownBlock, Option.some.injEq] at hq
                  omega
                have hsA := hgr.size
                clear hgq2 hatq hatn hgn hgr hat nq9 k69 k68 own6 hB6 kr6 ownn ownq
                obtain ⟨Av, cv, ev, hcv, hmv⟩ := nqA.form
                generalize hLv : (l :: qn ++ [l ++ [k]]).length = Lv at *
                clear hLv
                subst ev
                go_wp2_with fail
                go_roundw
                case rel => exact ⟨k + 1, css' ++ [_], by omega, by go_num, by rw [HBI.out]; exact ownA, by rw [HBI.out]; exact nqA, krA, hBA, by omega⟩
                case measure => simp [intOf]; omega
          · obtain rfl : k = n := by omega
            have HRn := hid (HRow.out k (Nat.le_refl _))
            have hkl : ¬ (k : Int) < (k : Int) := by omega
            obtain ⟨Aq, cq, e0, hcq, hmq⟩ := nq.form
            generalize hLq : (l :: (bfsRow k es l (seen, q) k).2).length = Lq at *
            subst e0
            have hLp : 1 ≤ Lq := by rw [← hLq]; simp
            obtain ⟨At, nt, ct, hs1, nqt⟩ : ∃ At nt ct, (∀ wx, (Instr.slice 35 (.slice Aq Lq cq) (some (.int .i64 1)) none none).run Try.prog wx = .ok (.slice At nt ct) wx) ∧ NQ rdL 28 1 (fun q => b0 + 2 ≤ q) wr (.slice At nt ct) css' (bfsRow k es l (seen, q) k).2 := ⟨_, _, _, slice_one stIntsM Aq Lq cq hLp hcq, nq.tail⟩
            clear hLq nq
            go_wp2_with fail
            go_roundg (g' + 1)
            case measure => omega
            case rel => exact ⟨g', _, _, css', rfl, by omega, own, nqt, kr, hB, hlt, HRn, HF⟩
end Go.Proofs.Ytlkabhjkncklnaa
