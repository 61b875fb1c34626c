
/-
Search: trees, how they read; a further kid: the walk.
-/
import Derived.Test.YtlbhidiliogflaaGreatSeG
import Derived.Deep.RegionHeld3
namespace Go.Proofs.YtlbhidiliogflaaGreat
set_option linter.unusedSimpArgs false
set_option linter.unusedVariables false
open Go.RowKit

theorem putV_cons {cs : List Value} {o : Nat} {v : Value} {vs : List Value} (hl : o < cs.length) : putV (cs.set o v) (o + 1) vs = putV cs o (v :: vs) := by
  have hset : cs.set o v = cs.take o ++ v :: cs.drop (o + 1) := by rw [List.set_eq_take_append_cons_drop, if_pos (by omega)]
  have ht : (cs.take o).length = o := by simp; omega
  unfold putV
  rw [hset, List.take_append, List.drop_append, ht, List.take_of_length_le (l := cs.take o) (by omega), List.drop_of_length_le (l := cs.take o) (by omega), List.length_cons]
  have e1 : o + 1 - o = 1 := by omega
  have e2 : o + 1 + vs.length - o = vs.length + 1 := by omega
  rw [e1, e2]
  simp [Nat.add_assoc, Nat.add_comm 1]
theorem owns_setCells {base e size g n c : Nat} : ∀ (vs : List Value) (o : Nat) (w : World) (xs : List Value), w.ownsRow base e size (.slice (some ⟨g, 0, none⟩) n c) n xs → o + vs.length ≤ xs.length → (w.setCells g o vs).ownsRow base e size (.slice (some ⟨g, 0, none⟩) n c) n (putV xs o vs)
  | [], o, w, xs, h, _ => by
    have : putV xs o [] = xs := by unfold putV; simp
    rw [this]
    exact h
  | v :: vs, o, w, xs, h, hl => by
    rw [List.length_cons] at hl
    have h1 := (World.ownsRow.stored h o v).1
    rw [World.setCells, ← putV_cons (by omega)]
    exact owns_setCells vs (o + 1) _ _ h1 (by rw [List.length_set]; omega)
section
variable {α : Type} {enc : α → List Value} {e size base g n c k : Nat} {w : World} {l : List α}
theorem flat_setRow (he : ∀ x, (enc x).length = size) (x : α) (hk : k < l.length) : putV (flat enc l) (k * size) (enc x) = flat enc (l.set k x) := by
  unfold putV
  rw [List.set_eq_take_append_cons_drop, if_pos hk, flat_append, flat_cons, ← flat_take he l k, he x]
  have : k * size + size = (k + 1) * size := by rw [Nat.add_mul, Nat.one_mul]
  rw [this, ← flat_drop he l (k + 1), List.append_assoc]
theorem Own.setRow (he : ∀ x, (enc x).length = size) (h : Own enc e size base w (.slice (some ⟨g, 0, none⟩) n c) l) (hn : n = l.length) (hk : k < l.length) (x : α) : Own enc e size base (w.setCells g (k * size) (enc x)) (.slice (some ⟨g, 0, none⟩) n c) (l.set k x) := by
  subst hn
  unfold Own at h ⊢
  have h1 : (k + 1) * size ≤ l.length * size := Nat.mul_le_mul_right _ hk
  have h2 := owns_setCells (enc x) (k * size) w _ h (by rw [flat_length he, he]; rw [Nat.add_mul, Nat.one_mul] at h1; exact h1)
  rw [flat_setRow he x hk] at h2
  rw [List.length_set]
  exact h2
theorem Own.thereRow (he : ∀ x, (enc x).length = size) (h : Own enc e size base w (.slice (some ⟨g, 0, none⟩) n c) l) (hn : n = l.length) (hk : k < l.length) : w.there g (k * size) size := fun j hj => by
  refine ⟨?_, h.frozen hn _⟩
  rw [h.cellAt he hn hk hj, List.getElem?_eq_getElem (by rw [he]; exact hj)]
  rfl
end
theorem setsFx {X : Nat → Prop} {a : World} (b o : Nat) (cs : List Value) (w : World) (h : Fx X a w) (hb : X b ∨ a.heap.size ≤ b) : Fx X a (w.setCells b o cs) := by
  induction cs generalizing o w with
  | nil => exact h
  | cons u us ih =>
    simp only [World.setCells]
    exact ih (o + 1) _ (h.set1 ⟨b, o, none⟩ u hb)
/-! trees -/
/-- the cells of a tree of some height -/
def rdTr : Nat → Rd Tr
  | 0 => fun _ _ _ => False
  | n + 1 => fun w cs t => match t with
    | .mk k ss c a ks => ∃ vs vk, cs = [.int .i64 k, vs, .int .i64 c, .int .i64 a, vk] ∧ Stps w vs ss ∧ Sl (rdTr n) 5 w vk ks
theorem rdTr_stable : ∀ n, Stable (rdTr n)
  | 0 => fun _ _ _ _ _ h => h
  | n + 1 => fun w w' cs t hk h => by
    obtain ⟨k, ss, c, a, ks⟩ := t
    obtain ⟨vs, vk, e, h1, h2⟩ := h
    exact ⟨vs, vk, e, h1.keep (pl_stable _) hk, h2.keep (rdTr_stable n) hk⟩
theorem rdTr_succ : ∀ n w cs t, rdTr n w cs t → rdTr (n + 1) w cs t
  | 0, _, _, _, h => absurd h (by intro h; exact h)
  | n + 1, w, cs, .mk k ss c a ks, h => by
    obtain ⟨vs, vk, e, h1, h2⟩ := h
    refine ⟨vs, vk, e, h1, ?_⟩
    have := h2.imp (S := rdTr (n + 1)) id fun cs x hx => rdTr_succ n w cs x hx
    simpa using this
theorem rdTr_le {n m : Nat} (h : n ≤ m) {w : World} {cs : List Value} {t : Tr} (ht : rdTr n w cs t) : rdTr m w cs t := by
  induction h with
  | refl => exact ht
  | step _ ih => exact rdTr_succ _ _ _ _ ih
theorem rdTr_one : ∀ n w cs t, rdTr n w cs t → cs.length = 5 ∧ ∀ u ∈ cs, u.oneCell' = true
  | 0, _, _, _, h => absurd h (by intro h; exact h)
  | n + 1, w, cs, .mk k ss c a ks, h => by
    obtain ⟨vs, vk, rfl, h1, h2⟩ := h
    obtain ⟨A, c1, rfl, -⟩ := h1.form
    obtain ⟨A', c2, rfl, -⟩ := h2.form
    refine ⟨rfl, fun u hu => ?_⟩
    simp only [List.mem_cons, List.not_mem_nil, or_false] at hu
    rcases hu with rfl | rfl | rfl | rfl | rfl <;> rfl
theorem stTr : SliceT Tryz.prog 32 34 5 72 := SliceT.mk' Tryz.underlying32 (z := .agg #[.int .i64 0, .slice none 0 0, .int .i64 0, .int .i64 0, .slice none 0 0]) (by kernel_rfl) rfl (by omega)
def zTrE : Elm 5 := ⟨[.int .i64 0, .slice none 0 0, .int .i64 0, .int .i64 0, .slice none 0 0], rfl, by simp [Value.oneCell']⟩
/-- kids under way: each lies where neither the variables below zp nor the row nor what is new matters -/
structure KI (zp n : Nat) (w : World) (vk : Value) (css : List (Elm 5)) (ts : List Tr) : Prop where
  own : Own encC 34 5 0 w vk css
  len : css.length = ts.length
  els : ∀ k (h1 : k < css.length) (h2 : k < ts.length), OwF (fun q => q < zp ∨ vk.ownBlock = some q ∨ w.heap.size ≤ q) w fun w' => rdTr n w' css[k].val ts[k]
section
variable {zp n : Nat} {w w' : World} {vk vk' : Value} {css : List (Elm 5)} {ts : List Tr}
theorem KI.nil (zp n : Nat) (w : World) : KI zp n w (.slice none 0 0) [] [] := ⟨Own.nil _ _ _ _ _, rfl, fun k h1 _ => absurd h1 (by simp)⟩
/-- nothing but variables below zp, and what is new, has changed -/
theorem KI.fx (h : KI zp n w vk css ts) (k : Fx (fun q => q < zp ∧ vk.ownBlock ≠ some q) w w') : KI zp n w' vk css ts :=
  ⟨h.own.fx k (fun q hq e => e.2 hq), h.len, fun i h1 h2 => ((h.els i h1 h2).fx (k.mono fun q _ e => .inl e.1)).mono fun q hq => by
    rcases hq with e | e | e
    · exact .inl e
    · exact .inr (.inl e)
    · exact .inr (.inr (Nat.le_trans k.size e))⟩
theorem KI.sl (h : KI zp n w vk css ts) : Sl (rdTr n) 5 w vk ts := sl_of (h.own.sl encC_len) h.len fun k h1 h2 => (h.els k h1 h2).here
/-- a further kid -/
theorem KI.snoc {z : Nat} (h : KI zp n w vk css ts) {tc : Elm 5} {t : Tr} (hz : zp ≤ z) (hb : ∀ q, vk.ownBlock = some q → q < z) (ht : OwF (fun q => q < z) w fun w' => rdTr n w' tc.val t) (own' : Own encC 34 5 0 w' vk' (css ++ [tc]))
    (k : Fx (fun q => q < zp ∨ vk.ownBlock = some q) w w') (hat : vk'.ownBlock = vk.ownBlock ∨ ∀ q, vk'.ownBlock = some q → w.heap.size ≤ q) : KI zp n w' vk' (css ++ [tc]) (ts ++ [t]) := by
  have hlen := h.len
  have hS : ∀ q, (q < zp ∨ vk'.ownBlock = some q ∨ w'.heap.size ≤ q) → (q < zp ∨ vk.ownBlock = some q ∨ w.heap.size ≤ q) := fun q hq => by
    rcases hq with e | e | e
    · exact .inl e
    · rcases hat with a | a
      · exact .inr (.inl (a ▸ e))
      · exact .inr (.inr (a q e))
    · exact .inr (.inr (Nat.le_trans k.size e))
  refine ⟨own', by simp [hlen], fun i h1 h2 => ?_⟩
  by_cases hi : i < css.length
  · rw [List.getElem_append_left hi, List.getElem_append_left (by omega)]
    exact ((h.els i hi (by omega)).fx (k.mono fun q _ e => by
      rcases e with e | e
      · exact .inl e
      · exact .inr (.inl e))).mono hS
  · have e1 : i = css.length := by simp at h1; omega
    subst e1
    have e2 : (css ++ [tc])[css.length] = tc := by simp
    have e3 : (ts ++ [t])[css.length]'h2 = t := by simp [hlen]
    rw [e2, e3]
    have h3 := (ht.more (Fx.refl _ w)).mono (Y := fun q => q < zp ∨ vk.ownBlock = some q ∨ w.heap.size ≤ q) fun q hq => by
      rcases hq with e | e | e
      · exact .inl (Nat.lt_of_lt_of_le e hz)
      · exact .inl (hb q e)
      · exact .inr e
    exact (h3.fx (k.mono fun q _ e => by
      rcases e with e | e
      · exact .inl e
      · exact .inr (.inl e))).mono hS
end
theorem kids_real : Real Tryz.prog 44 := ⟨_, Tryz.func44, by kernel_rfl, by kernel_rfl⟩
def tcE (y0 y1 y2 y3 y4 : Value) (h : ∀ u ∈ [y0, y1, y2, y3, y4], u.oneCell' = true) : Elm 5 := ⟨[y0, y1, y2, y3, y4], rfl, h⟩
set_option maxRecDepth 8000 in
set_option maxHeartbeats 4000000 in
theorem kids_any (t9 : Nat) (k0 s0 c0 a0 vk : Value) (css : List (Elm 5)) (Av : Option Addr) (nv cv : Nat) (ix : Int) (y0 y1 y2 y3 y4 : Value) (hy : ∀ u ∈ [y0, y1, y2, y3, y4], u.oneCell' = true) (w : World)
    (hT : Bx w t9 [k0, s0, c0, a0, vk]) (hO : Own encC 34 5 0 w vk css) (hn : ∀ q, vk.ownBlock = some q → q ≠ t9) (hl : css.length ≤ 100000) :
    Calls Tryz.prog 44 #[.agg #[.slice Av nv cv, .int .i64 ix, y0, y1, y2, y3, y4], .pointer (some ⟨t9, 0, none⟩)] w fun e w' => e = .returned (.bool Av.isSome) ∧ ∃ vk', Bx w' t9 [k0, s0, c0, a0, vk'] ∧ Own encC 34 5 0 w' vk' (css ++ [tcE y0 y1 y2 y3 y4 hy]) ∧
      Fx (fun q => q = t9 ∨ vk.ownBlock = some q) w w' ∧ (vk'.ownBlock = vk.ownBlock ∨ ∀ q, vk'.ownBlock = some q → w.heap.size ≤ q) := by
  obtain ⟨Ak, nk, ck, rfl⟩ := hO.isSl
  have hl9 := hT.lt (by simp)
  have hneq := fun W => Go.run_neq_slice_nil_any (P := Tryz.prog) W 30 3 Av nv cv 0 0 Tryz.underlying30
  have k1 := (Kp.refl w).alloc (.cells #[.slice Av nv cv, .int .i64 ix, y0, y1, y2, y3, y4] 64)
  have B2 := Bx.new w #[.slice Av nv cv, .int .i64 ix, y0, y1, y2, y3, y4] 64
  have z1 := World.size_alloc w (.cells #[.slice Av nv cv, .int .i64 ix, y0, y1, y2, y3, y4] 64)
  have hT1 := hT.kp k1 hl9
  have hO1 := hO.kp k1
  have hlo := hO.blk_lt
  go_enter Tryz.func44, Tryz.ntmps44
  go_upto_region 1 with (fail)
  generalize w.alloc (.cells #[.slice Av nv cv, .int .i64 ix, y0, y1, y2, y3, y4] 64) = w1 at *
  obtain ⟨r2, hr2⟩ : ∃ r2, r2 = w.heap.size := ⟨_, rfl⟩
  rw [← hr2] at B2 z1 hl9 hlo ⊢
  replace hr2 := hid hr2
  simp only [List.toList_toArray] at B2
  obtain ⟨tl, htl⟩ : ∃ tl, Hid (tl = [y0, y1, y2, y3, y4]) := ⟨_, hid rfl⟩
  have htl5 : tl.length = 5 := by rw [htl.out]; rfl
  have hsz : (Tryz.prog.info? 34).map (·.size) = some tl.length := by rw [htl5]; kernel_rfl
  have htl1 : ∀ v ∈ tl, v.oneCell' = true := by rw [htl.out]; exact hy
  have hRGof : ∀ W, Bx W r2 [.slice Av nv cv, .int .i64 ix, y0, y1, y2, y3, y4] → W.rangeAt r2 2 tl := fun W B => by
    rw [htl.out]
    intro j u hu
    have : ([.slice Av nv cv, .int .i64 ix, y0, y1, y2, y3, y4] : List Value)[2 + j]? = some u := by
      rw [show 2 + j = j + 1 + 1 by omega]
      simpa using hu
    exact B.cell this
  have hnk : nk = css.length := by
    obtain ⟨A, c, e, -⟩ := hO.form
    injection e
  subst hnk
  clear hT hO
  refine wp_region_held_drew (S := fun W => W.rangeAt r2 2 tl) (by kernel_rfl) (kp_range (Kp.refl _).drew (hRGof w1 B2)) (fun hHeld => ?_)
  refine take_at 0 4 (v := ?_) rfl rfl (by kernel_rfl) (by kernel_rfl) (by kernel_rfl) (fun _ _ _ h => h) hHeld (Or.inl ⟨by kernel_rfl, ?_⟩) ?_
  rotate_left
  · intro w hSw; (try dsimp only at hSw); go_simp; try with_reducible rfl
  simp only [Act.put, List.setIfInBounds_toArray, List.set_cons_zero, List.set_cons_succ]
  refine take_at 2 6 (v := ?_) rfl rfl (by kernel_rfl) (by kernel_rfl) (by kernel_rfl) (fun _ _ _ h => h) hHeld (Or.inl ⟨by kernel_rfl, ?_⟩) ?_
  rotate_left
  · intro w hSw; (try dsimp only at hSw); go_simp; try with_reducible rfl
  simp only [Act.put, List.setIfInBounds_toArray, List.set_cons_zero, List.set_cons_succ]
  refine take_at 3 7 (v := _) rfl rfl (by kernel_rfl) (by kernel_rfl) (by kernel_rfl) (fun _ _ _ h => h) hHeld (yieldsIf_load_mid (by kernel_rfl) 34 _ rfl r2 2 rfl tl _ (fun _ h => h) Tryz.underlying34 rfl (by assumption)) ?_
  simp only [Act.put, List.setIfInBounds_toArray, List.set_cons_zero, List.set_cons_succ]
  have kd : Kp w1 w1.drew := (Kp.refl w1).drew
  have zd : w1.drew.heap.size = w1.heap.size := rfl
  generalize w1.drew = w2 at *
  have hT2 := hT1.kp kd (by omega)
  have hO2 := hO1.kp kd
  have B22 := B2.kp kd (by omega)
  have k02 := k1.trans kd
  have c4 := hT2.cell (j := 4) rfl
  have k23 := (Kp.refl w2).alloc (.cells #[.int .i64 0, .slice none 0 0, .int .i64 0, .int .i64 0, .slice none 0 0] 34)
  have z3 := World.size_alloc w2 (.cells #[.int .i64 0, .slice none 0 0, .int .i64 0, .int .i64 0, .slice none 0 0] 34)
  have hT3 := hT2.kp k23 (by omega)
  have hO3 := hO2.kp k23
  have B23 := B22.kp k23 (by omega)
  have c43 := hT3.cell (j := 4) rfl
  clear hT1 hO1 B2 kd
  have hSrc : Sl (Pl encC) 5 (w2.alloc (.cells #[.int .i64 0, .slice none 0 0, .int .i64 0, .int .i64 0, .slice none 0 0] 34)) (.slice (some ⟨w2.heap.size, 0, none⟩) 1 1) [zTrE] := Sl.one (R := Pl encC) w2 [.int .i64 0, .slice none 0 0, .int .i64 0, .int .i64 0, .slice none 0 0] 34 5 zTrE rfl rfl
  rw [show w2.heap.size = r2 + 1 by omega] at hSrc
  refine wpAnyH_ready (rs := [1, 5]) (by kernel_rfl) (by simp) ?_
  refine AllReadyH.cons (o := _) rfl (fun K hK => ?_) (AllReadyH.cons (o := _) rfl (fun K hK => ?_) AllReadyH.nil)
  · go_simp
    refine hK.out _ _ (hHeld) (fun hHeld2 => ?_)
    clear hK K hHeld
    have hHeld := hHeld2
    clear hHeld2
    try simp only [Act.put, List.setIfInBounds_toArray, List.set_cons_zero, List.set_cons_succ]
    refine take_at 4 8 (v := ?_) rfl rfl (by kernel_rfl) (by kernel_rfl) (by kernel_rfl) (fun _ _ _ h => h) hHeld (Or.inl ⟨by kernel_rfl, ?_⟩) ?_
    rotate_left
    · intro w hSw; (try dsimp only at hSw); go_simp; try with_reducible rfl
    simp only [Act.put, List.setIfInBounds_toArray, List.set_cons_zero, List.set_cons_succ]
    refine wpAnyH_ready (rs := [5]) (by kernel_rfl) (by simp) ?_
    refine AllReadyH.cons (o := _) rfl (fun K hK => ?_) AllReadyH.nil
    go_simp
    refine hK.out _ _ (hRGof _ B23) (fun hHeld2 => ?_)
    clear hK K hHeld
    have hHeld := hHeld2
    clear hHeld2
    try simp only [Act.put, List.setIfInBounds_toArray, List.set_cons_zero, List.set_cons_succ]
    generalize w2.alloc (.cells #[.int .i64 0, .slice none 0 0, .int .i64 0, .int .i64 0, .slice none 0 0] 34) = w3 at *
    refine wpAnyH_ready (rs := [6]) (by kernel_rfl) (by simp) ?_
    refine AllReadyH.cons (o := _) rfl (fun K hK => ?_) AllReadyH.nil
    refine wp_append_flat (m := [zTrE]) (.tmp 5) (.tmp 9) rfl stTr encC_len encC_one rfl hO3 rfl hSrc (by simp; omega) (by simp; omega) (Nat.zero_le _) ?_
    intro v' w4 hO4 hG4 hat4
    replace hG4 : w3.grownBy w4 (Value.slice Ak css.length ck).ownBlock := hG4
    replace hat4 : v'.ownBlock = (Value.slice Ak css.length ck).ownBlock ∨ v'.ownBlock = some w3.heap.size := hat4
    obtain ⟨g', ck', hv', hc1', hc2', -, hg4⟩ := hO4.row (by simp)
    have hln : (css ++ [zTrE]).length = css.length + 1 := by simp
    rw [hln] at hv' hc1'
    subst hv'
    have k34 : Fx (fun q => (Value.slice Ak css.length ck).ownBlock = some q) w3 w4 := (Fx.refl _ w3).grown hG4 (fun g hg => .inl hg)
    have hnr2 : ¬ ((Value.slice Ak css.length ck).ownBlock = some r2) := fun e => by have := hlo r2 e; omega
    have hT4 := hT3.fx k34 (by omega) (fun e => (hn _ e) rfl)
    have B24 := B23.fx k34 (by omega) hnr2
    have hge4 : (g' = t9 → False) ∧ (g' = r2 → False) := by
      have hz3 : w3.heap.size = r2 + 1 + 1 := by omega
      rcases hat4 with e | e
      · exact ⟨fun h => hn g' (e ▸ rfl) h, fun h => hnr2 (by rw [← e, ← h]; rfl)⟩
      · have e : g' = w3.heap.size := by simpa [Value.ownBlock] using e
        exact ⟨fun h => by omega, fun h => by omega⟩
    have hlt9 : (css.length : Int) < (css.length : Int) + 1 := by omega
    refine hK.out _ _ (hRGof w4 B24) (fun hHeld2 => ?_)
    clear hK K hHeld
    have hHeld := hHeld2
    clear hHeld2
    try simp only [Act.put, List.setIfInBounds_toArray, List.set_cons_zero, List.set_cons_succ]
    refine take_at 7 11 (v := ?_) rfl rfl (by kernel_rfl) (by kernel_rfl) (by kernel_rfl) (fun _ _ _ h => h) hHeld (Or.inl ⟨by kernel_rfl, ?_⟩) ?_
    rotate_left
    · intro w hSw; (try dsimp only at hSw); go_simp; try with_reducible rfl
    simp only [Act.put, List.setIfInBounds_toArray, List.set_cons_zero, List.set_cons_succ]
    refine take_at 9 12 (v := ?_) rfl rfl (by kernel_rfl) (by kernel_rfl) (by kernel_rfl) (fun _ _ _ h => h) hHeld (Or.inl ⟨by kernel_rfl, ?_⟩) ?_
    rotate_left
    · intro w hSw; (try dsimp only at hSw); go_simp; try with_reducible rfl
    simp only [Act.put, List.setIfInBounds_toArray, List.set_cons_zero, List.set_cons_succ]
    have hTH := hO4.thereRow encC_len hln.symm (k := css.length) (by simp)
    have hO5 : Own encC 34 5 0 (w4.setCells g' (css.length * 5) tl) (.slice (some ⟨g', 0, none⟩) (css.length + 1) ck') (css ++ [tcE y0 y1 y2 y3 y4 hy]) := by
      have h := hO4.setRow encC_len (by simp) (k := css.length) (by simp) (tcE y0 y1 y2 y3 y4 hy)
      have e2 : encC (tcE y0 y1 y2 y3 y4 hy) = tl := htl.out.symm
      rw [e2] at h
      simpa using h
    have k45 : Fx (fun q => q = g') w4 (w4.setCells g' (css.length * 5) tl) := setsFx g' _ tl w4 (Fx.refl _ _) (.inl rfl)
    have hz4 : w2.heap.size ≤ w4.heap.size := Nat.le_trans k23.size k34.size
    have hT5 := hT4.fx k45 (by omega) (fun e => hge4.1 e.symm)
    have B25 := B24.fx k45 (by omega) (fun e => hge4.2 e.symm)
    have kT : Fx (fun q => q = t9) w4 (w4.setCell ⟨t9, 4, none⟩ (.slice (some ⟨g', 0, none⟩) (css.length + 1) ck')) := (Fx.refl (fun q => q = t9) w4).set1 ⟨t9, 4, none⟩ _ (.inl rfl)
    have hO6 := hO4.fx kT (fun q hq e => by
      have : g' = q := by simpa [Value.ownBlock] using hq
      exact hge4.1 (this.trans e))
    have B26 := B24.fx kT (by omega) (fun e => by omega)
    have hT6 := hT4.set (j := 4) (by simp) (.slice (some ⟨g', 0, none⟩) (css.length + 1) ck')
    have c4f := hT4.free (j := 4) (by simp)
    have c4c := hT4.cell (j := 4) rfl
    have hgz : ∀ q, (Value.slice (some ⟨g', 0, none⟩) (css.length + 1) ck').ownBlock = some q → q = g' := fun q hq => by
      have : g' = q := by simpa [Value.ownBlock] using hq
      exact this.symm
    have hbk : (Value.slice (some ⟨g', 0, none⟩) (css.length + 1) ck').ownBlock = (Value.slice Ak css.length ck).ownBlock ∨ ∀ q, (Value.slice (some ⟨g', 0, none⟩) (css.length + 1) ck').ownBlock = some q → w.heap.size ≤ q := by
      rcases hat4 with e | e
      · exact .inl e
      · refine .inr fun q hq => ?_
        rw [e] at hq
        injection hq with hq
        have := hr2.out
        omega
    have hXg : (Value.slice Ak css.length ck).ownBlock = some g' ∨ w.heap.size ≤ g' := by
      rcases hbk with e | e
      · exact .inl (e ▸ rfl)
      · exact .inr (e g' rfl)
    have k04 : Fx (fun q => q = t9 ∨ (Value.slice Ak css.length ck).ownBlock = some q) w w4 := ((k02.trans k23).fx _).trans (k34.mono fun q _ e => .inr e)
    replace hXg := hid hXg
    replace hbk := hid hbk
    replace hgz := hid hgz
    refine wpAnyH_ready (rs := [8, 10]) (by kernel_rfl) (by simp) ?_
    refine AllReadyH.cons (o := _) rfl (fun K hK => ?_) (AllReadyH.cons (o := _) rfl (fun K hK => ?_) AllReadyH.nil)
    · refine wp_store_mid 34 (.tmp 11) (.tmp 7) rfl g' (css.length * 5) tl.toArray rfl rfl (by simpa [htl5] using hTH) (by simpa using hsz) (all_oneCell_toArray htl1) ?_
      refine hK.out _ _ (hRGof _ B25) (fun hHeld2 => ?_)
      clear hK K hHeld
      have hHeld := hHeld2
      clear hHeld2
      try simp only [Act.put, List.setIfInBounds_toArray, List.set_cons_zero, List.set_cons_succ]
      have hT7 := hT5.set (j := 4) (by simp) (.slice (some ⟨g', 0, none⟩) (css.length + 1) ck')
      have c5f := hT5.free (j := 4) (by simp)
      have c5c := hT5.cell (j := 4) rfl
      have kT5 : Fx (fun q => q = t9) (w4.setCells g' (css.length * 5) tl) ((w4.setCells g' (css.length * 5) tl).setCell ⟨t9, 4, none⟩ (.slice (some ⟨g', 0, none⟩) (css.length + 1) ck')) := (Fx.refl (fun q => q = t9) _).set1 ⟨t9, 4, none⟩ _ (.inl rfl)
      have hO7 := hO5.fx kT5 (fun q hq e => hge4.1 ((hgz.out q hq).symm.trans e))
      have B27 := B25.fx kT5 (by rw [setCells_size]; omega) (fun e => by omega)
      have kE := ((Fx.refl (fun q => q = t9 ∨ (Value.slice Ak css.length ck).ownBlock = some q) w).trans k04).thru (k45.trans (Fx.refl _ _)) (X := fun q => q = t9 ∨ (Value.slice Ak css.length ck).ownBlock = some q) (fun q hq e => by
        rcases hXg.out with h | h
        · exact .inr (e ▸ h)
        · omega)
      have kE2 := kE.thru kT5 (X := fun q => q = t9 ∨ (Value.slice Ak css.length ck).ownBlock = some q) (fun q hq e => .inl e)
      refine wpAnyH_ready (rs := [10]) (by kernel_rfl) (by simp) ?_
      refine AllReadyH.cons (o := _) rfl (fun K hK => ?_) AllReadyH.nil
      go_simp
      refine hK.out _ _ (hRGof _ B27) (fun hHeld2 => ?_)
      clear hK K hHeld
      have hHeld := hHeld2
      clear hHeld2
      try simp only [Act.put, List.setIfInBounds_toArray, List.set_cons_zero, List.set_cons_succ]
      refine wpAnyH_done (by kernel_rfl) ?_ _
      have d0 := B27.cell (j := 0) rfl
      have hE := hid (And.intro hT7 (And.intro hO7 kE2))
      clear hT7 hO7 B27 kE kE2 c5f c5c kT5 hHeld hO5 hO6 hT6 B26 kT c4f c4c hTH
      generalize (w4.setCells g' (css.length * 5) tl).setCell ⟨t9, 4, none⟩ (.slice (some ⟨g', 0, none⟩) (css.length + 1) ck') = wE at *
      go_wp2
      go_ret
      exact ⟨rfl, _, by simpa using hE.out.1, hE.out.2.1, hE.out.2.2, hbk.out⟩
    · go_simp
      refine hK.out _ _ (hRGof _ B26) (fun hHeld2 => ?_)
      clear hK K hHeld
      have hHeld := hHeld2
      clear hHeld2
      try simp only [Act.put, List.setIfInBounds_toArray, List.set_cons_zero, List.set_cons_succ]
      have hTH6 := hO6.thereRow encC_len hln.symm (k := css.length) (by simp)
      have kS : Fx (fun q => q = g') (w4.setCell ⟨t9, 4, none⟩ (.slice (some ⟨g', 0, none⟩) (css.length + 1) ck')) ((w4.setCell ⟨t9, 4, none⟩ (.slice (some ⟨g', 0, none⟩) (css.length + 1) ck')).setCells g' (css.length * 5) tl) := setsFx g' _ tl _ (Fx.refl _ _) (.inl rfl)
      have hz6 : w4.heap.size ≤ (w4.setCell ⟨t9, 4, none⟩ (.slice (some ⟨g', 0, none⟩) (css.length + 1) ck')).heap.size := kT.size
      have hT7 := hT6.fx kS (by omega) (fun e => hge4.1 e.symm)
      have B27 := B26.fx kS (by omega) (fun e => hge4.2 e.symm)
      have hO7 : Own encC 34 5 0 ((w4.setCell ⟨t9, 4, none⟩ (.slice (some ⟨g', 0, none⟩) (css.length + 1) ck')).setCells g' (css.length * 5) tl) (.slice (some ⟨g', 0, none⟩) (css.length + 1) ck') (css ++ [tcE y0 y1 y2 y3 y4 hy]) := by
        have h := hO6.setRow encC_len (by simp) (k := css.length) (by simp) (tcE y0 y1 y2 y3 y4 hy)
        have e2 : encC (tcE y0 y1 y2 y3 y4 hy) = tl := htl.out.symm
        rw [e2] at h
        simpa using h
      have kE := k04.thru kT (X := fun q => q = t9 ∨ (Value.slice Ak css.length ck).ownBlock = some q) (fun q hq e => .inl e)
      have kE2 := kE.thru kS (X := fun q => q = t9 ∨ (Value.slice Ak css.length ck).ownBlock = some q) (fun q hq e => by
        rcases hXg.out with h | h
        · exact .inr (e ▸ h)
        · omega)
      refine wpAnyH_ready (rs := [8]) (by kernel_rfl) (by simp) ?_
      refine AllReadyH.cons (o := _) rfl (fun K hK => ?_) AllReadyH.nil
      refine wp_store_mid 34 (.tmp 11) (.tmp 7) rfl g' (css.length * 5) tl.toArray rfl rfl (by simpa [htl5] using hTH6) (by simpa using hsz) (all_oneCell_toArray htl1) ?_
      refine hK.out _ _ (hRGof _ B27) (fun hHeld2 => ?_)
      clear hK K hHeld
      have hHeld := hHeld2
      clear hHeld2
      try simp only [Act.put, List.setIfInBounds_toArray, List.set_cons_zero, List.set_cons_succ]
      refine wpAnyH_done (by kernel_rfl) ?_ _
      have d0 := B27.cell (j := 0) rfl
      have hE := hid (And.intro hT7 (And.intro hO7 kE2))
      clear hT7 hO7 B27 kE kE2 kS hHeld hO5 hO6 hT6 B26 kT c4f c4c hTH hTH6 hz6
      try simp only [List.toList_toArray]
      generalize (w4.setCell ⟨t9, 4, none⟩ (.slice (some ⟨g', 0, none⟩) (css.length + 1) ck')).setCells g' (css.length * 5) tl = wE at *
      go_wp2
      go_ret
      exact ⟨rfl, _, by simpa using hE.out.1, hE.out.2.1, hE.out.2.2, hbk.out⟩
  · go_simp
    refine hK.out _ _ (hRGof _ B23) (fun hHeld2 => ?_)
    clear hK K hHeld
    have hHeld := hHeld2
    clear hHeld2
    try simp only [Act.put, List.setIfInBounds_toArray, List.set_cons_zero, List.set_cons_succ]
    refine wpAnyH_ready (rs := [1]) (by kernel_rfl) (by simp) ?_
    refine AllReadyH.cons (o := _) rfl (fun K hK => ?_) AllReadyH.nil
    go_simp
    refine hK.out _ _ (hRGof _ B23) (fun hHeld2 => ?_)
    clear hK K hHeld
    have hHeld := hHeld2
    clear hHeld2
    try simp only [Act.put, List.setIfInBounds_toArray, List.set_cons_zero, List.set_cons_succ]
    refine take_at 4 8 (v := ?_) rfl rfl (by kernel_rfl) (by kernel_rfl) (by kernel_rfl) (fun _ _ _ h => h) hHeld (Or.inl ⟨by kernel_rfl, ?_⟩) ?_
    rotate_left
    · intro w hSw; (try dsimp only at hSw); go_simp; try with_reducible rfl
    simp only [Act.put, List.setIfInBounds_toArray, List.set_cons_zero, List.set_cons_succ]
    generalize w2.alloc (.cells #[.int .i64 0, .slice none 0 0, .int .i64 0, .int .i64 0, .slice none 0 0] 34) = w3 at *
    refine wpAnyH_ready (rs := [6]) (by kernel_rfl) (by simp) ?_
    refine AllReadyH.cons (o := _) rfl (fun K hK => ?_) AllReadyH.nil
    refine wp_append_flat (m := [zTrE]) (.tmp 5) (.tmp 9) rfl stTr encC_len encC_one rfl hO3 rfl hSrc (by simp; omega) (by simp; omega) (Nat.zero_le _) ?_
    intro v' w4 hO4 hG4 hat4
    replace hG4 : w3.grownBy w4 (Value.slice Ak css.length ck).ownBlock := hG4
    replace hat4 : v'.ownBlock = (Value.slice Ak css.length ck).ownBlock ∨ v'.ownBlock = some w3.heap.size := hat4
    obtain ⟨g', ck', hv', hc1', hc2', -, hg4⟩ := hO4.row (by simp)
    have hln : (css ++ [zTrE]).length = css.length + 1 := by simp
    rw [hln] at hv' hc1'
    subst hv'
    have k34 : Fx (fun q => (Value.slice Ak css.length ck).ownBlock = some q) w3 w4 := (Fx.refl _ w3).grown hG4 (fun g hg => .inl hg)
    have hnr2 : ¬ ((Value.slice Ak css.length ck).ownBlock = some r2) := fun e => by have := hlo r2 e; omega
    have hT4 := hT3.fx k34 (by omega) (fun e => (hn _ e) rfl)
    have B24 := B23.fx k34 (by omega) hnr2
    have hge4 : (g' = t9 → False) ∧ (g' = r2 → False) := by
      have hz3 : w3.heap.size = r2 + 1 + 1 := by omega
      rcases hat4 with e | e
      · exact ⟨fun h => hn g' (e ▸ rfl) h, fun h => hnr2 (by rw [← e, ← h]; rfl)⟩
      · have e : g' = w3.heap.size := by simpa [Value.ownBlock] using e
        exact ⟨fun h => by omega, fun h => by omega⟩
    have hlt9 : (css.length : Int) < (css.length : Int) + 1 := by omega
    refine hK.out _ _ (hRGof w4 B24) (fun hHeld2 => ?_)
    clear hK K hHeld
    have hHeld := hHeld2
    clear hHeld2
    try simp only [Act.put, List.setIfInBounds_toArray, List.set_cons_zero, List.set_cons_succ]
    refine take_at 7 11 (v := ?_) rfl rfl (by kernel_rfl) (by kernel_rfl) (by kernel_rfl) (fun _ _ _ h => h) hHeld (Or.inl ⟨by kernel_rfl, ?_⟩) ?_
    rotate_left
    · intro w hSw; (try dsimp only at hSw); go_simp; try with_reducible rfl
    simp only [Act.put, List.setIfInBounds_toArray, List.set_cons_zero, List.set_cons_succ]
    refine take_at 9 12 (v := ?_) rfl rfl (by kernel_rfl) (by kernel_rfl) (by kernel_rfl) (fun _ _ _ h => h) hHeld (Or.inl ⟨by kernel_rfl, ?_⟩) ?_
    rotate_left
    · intro w hSw; (try dsimp only at hSw); go_simp; try with_reducible rfl
    simp only [Act.put, List.setIfInBounds_toArray, List.set_cons_zero, List.set_cons_succ]
    have hTH := hO4.thereRow encC_len hln.symm (k := css.length) (by simp)
    have hO5 : Own encC 34 5 0 (w4.setCells g' (css.length * 5) tl) (.slice (some ⟨g', 0, none⟩) (css.length + 1) ck') (css ++ [tcE y0 y1 y2 y3 y4 hy]) := by
      have h := hO4.setRow encC_len (by simp) (k := css.length) (by simp) (tcE y0 y1 y2 y3 y4 hy)
      have e2 : encC (tcE y0 y1 y2 y3 y4 hy) = tl := htl.out.symm
      rw [e2] at h
      simpa using h
    have k45 : Fx (fun q => q = g') w4 (w4.setCells g' (css.length * 5) tl) := setsFx g' _ tl w4 (Fx.refl _ _) (.inl rfl)
    have hz4 : w2.heap.size ≤ w4.heap.size := Nat.le_trans k23.size k34.size
    have hT5 := hT4.fx k45 (by omega) (fun e => hge4.1 e.symm)
    have B25 := B24.fx k45 (by omega) (fun e => hge4.2 e.symm)
    have kT : Fx (fun q => q = t9) w4 (w4.setCell ⟨t9, 4, none⟩ (.slice (some ⟨g', 0, none⟩) (css.length + 1) ck')) := (Fx.refl (fun q => q = t9) w4).set1 ⟨t9, 4, none⟩ _ (.inl rfl)
    have hO6 := hO4.fx kT (fun q hq e => by
      have : g' = q := by simpa [Value.ownBlock] using hq
      exact hge4.1 (this.trans e))
    have B26 := B24.fx kT (by omega) (fun e => by omega)
    have hT6 := hT4.set (j := 4) (by simp) (.slice (some ⟨g', 0, none⟩) (css.length + 1) ck')
    have c4f := hT4.free (j := 4) (by simp)
    have c4c := hT4.cell (j := 4) rfl
    have hgz : ∀ q, (Value.slice (some ⟨g', 0, none⟩) (css.length + 1) ck').ownBlock = some q → q = g' := fun q hq => by
      have : g' = q := by simpa [Value.ownBlock] using hq
      exact this.symm
    have hbk : (Value.slice (some ⟨g', 0, none⟩) (css.length + 1) ck').ownBlock = (Value.slice Ak css.length ck).ownBlock ∨ ∀ q, (Value.slice (some ⟨g', 0, none⟩) (css.length + 1) ck').ownBlock = some q → w.heap.size ≤ q := by
      rcases hat4 with e | e
      · exact .inl e
      · refine .inr fun q hq => ?_
        rw [e] at hq
        injection hq with hq
        have := hr2.out
        omega
    have hXg : (Value.slice Ak css.length ck).ownBlock = some g' ∨ w.heap.size ≤ g' := by
      rcases hbk with e | e
      · exact .inl (e ▸ rfl)
      · exact .inr (e g' rfl)
    have k04 : Fx (fun q => q = t9 ∨ (Value.slice Ak css.length ck).ownBlock = some q) w w4 := ((k02.trans k23).fx _).trans (k34.mono fun q _ e => .inr e)
    replace hXg := hid hXg
    replace hbk := hid hbk
    replace hgz := hid hgz
    refine wpAnyH_ready (rs := [8, 10]) (by kernel_rfl) (by simp) ?_
    refine AllReadyH.cons (o := _) rfl (fun K hK => ?_) (AllReadyH.cons (o := _) rfl (fun K hK => ?_) AllReadyH.nil)
    · refine wp_store_mid 34 (.tmp 11) (.tmp 7) rfl g' (css.length * 5) tl.toArray rfl rfl (by simpa [htl5] using hTH) (by simpa using hsz) (all_oneCell_toArray htl1) ?_
      refine hK.out _ _ (hRGof _ B25) (fun hHeld2 => ?_)
      clear hK K hHeld
      have hHeld := hHeld2
      clear hHeld2
      try simp only [Act.put, List.setIfInBounds_toArray, List.set_cons_zero, List.set_cons_succ]
      have hT7 := hT5.set (j := 4) (by simp) (.slice (some ⟨g', 0, none⟩) (css.length + 1) ck')
      have c5f := hT5.free (j := 4) (by simp)
      have c5c := hT5.cell (j := 4) rfl
      have kT5 : Fx (fun q => q = t9) (w4.setCells g' (css.length * 5) tl) ((w4.setCells g' (css.length * 5) tl).setCell ⟨t9, 4, none⟩ (.slice (some ⟨g', 0, none⟩) (css.length + 1) ck')) := (Fx.refl (fun q => q = t9) _).set1 ⟨t9, 4, none⟩ _ (.inl rfl)
      have hO7 := hO5.fx kT5 (fun q hq e => hge4.1 ((hgz.out q hq).symm.trans e))
      have B27 := B25.fx kT5 (by rw [setCells_size]; omega) (fun e => by omega)
      have kE := ((Fx.refl (fun q => q = t9 ∨ (Value.slice Ak css.length ck).ownBlock = some q) w).trans k04).thru (k45.trans (Fx.refl _ _)) (X := fun q => q = t9 ∨ (Value.slice Ak css.length ck).ownBlock = some q) (fun q hq e => by
        rcases hXg.out with h | h
        · exact .inr (e ▸ h)
        · omega)
      have kE2 := kE.thru kT5 (X := fun q => q = t9 ∨ (Value.slice Ak css.length ck).ownBlock = some q) (fun q hq e => .inl e)
      refine wpAnyH_ready (rs := [10]) (by kernel_rfl) (by simp) ?_
      refine AllReadyH.cons (o := _) rfl (fun K hK => ?_) AllReadyH.nil
      go_simp
      refine hK.out _ _ (hRGof _ B27) (fun hHeld2 => ?_)
      clear hK K hHeld
      have hHeld := hHeld2
      clear hHeld2
      try simp only [Act.put, List.setIfInBounds_toArray, List.set_cons_zero, List.set_cons_succ]
      refine wpAnyH_done (by kernel_rfl) ?_ _
      have d0 := B27.cell (j := 0) rfl
      have hE := hid (And.intro hT7 (And.intro hO7 kE2))
      clear hT7 hO7 B27 kE kE2 c5f c5c kT5 hHeld hO5 hO6 hT6 B26 kT c4f c4c hTH
      generalize (w4.setCells g' (css.length * 5) tl).setCell ⟨t9, 4, none⟩ (.slice (some ⟨g', 0, none⟩) (css.length + 1) ck') = wE at *
      go_wp2
      go_ret
      exact ⟨rfl, _, by simpa using hE.out.1, hE.out.2.1, hE.out.2.2, hbk.out⟩
    · go_simp
      refine hK.out _ _ (hRGof _ B26) (fun hHeld2 => ?_)
      clear hK K hHeld
      have hHeld := hHeld2
      clear hHeld2
      try simp only [Act.put, List.setIfInBounds_toArray, List.set_cons_zero, List.set_cons_succ]
      have hTH6 := hO6.thereRow encC_len hln.symm (k := css.length) (by simp)
      have kS : Fx (fun q => q = g') (w4.setCell ⟨t9, 4, none⟩ (.slice (some ⟨g', 0, none⟩) (css.length + 1) ck')) ((w4.setCell ⟨t9, 4, none⟩ (.slice (some ⟨g', 0, none⟩) (css.length + 1) ck')).setCells g' (css.length * 5) tl) := setsFx g' _ tl _ (Fx.refl _ _) (.inl rfl)
      have hz6 : w4.heap.size ≤ (w4.setCell ⟨t9, 4, none⟩ (.slice (some ⟨g', 0, none⟩) (css.length + 1) ck')).heap.size := kT.size
      have hT7 := hT6.fx kS (by omega) (fun e => hge4.1 e.symm)
      have B27 := B26.fx kS (by omega) (fun e => hge4.2 e.symm)
      have hO7 : Own encC 34 5 0 ((w4.setCell ⟨t9, 4, none⟩ (.slice (some ⟨g', 0, none⟩) (css.length + 1) ck')).setCells g' (css.length * 5) tl) (.slice (some ⟨g', 0, none⟩) (css.length + 1) ck') (css ++ [tcE y0 y1 y2 y3 y4 hy]) := by
        have h := hO6.setRow encC_len (by simp) (k := css.length) (by simp) (tcE y0 y1 y2 y3 y4 hy)
        have e2 : encC (tcE y0 y1 y2 y3 y4 hy) = tl := htl.out.symm
        rw [e2] at h
        simpa using h
      have kE := k04.thru kT (X := fun q => q = t9 ∨ (Value.slice Ak css.length ck).ownBlock = some q) (fun q hq e => .inl e)
      have kE2 := kE.thru kS (X := fun q => q = t9 ∨ (Value.slice Ak css.length ck).ownBlock = some q) (fun q hq e => by
        rcases hXg.out with h | h
        · exact .inr (e ▸ h)
        · omega)
      refine wpAnyH_ready (rs := [8]) (by kernel_rfl) (by simp) ?_
      refine AllReadyH.cons (o := _) rfl (fun K hK => ?_) AllReadyH.nil
      refine wp_store_mid 34 (.tmp 11) (.tmp 7) rfl g' (css.length * 5) tl.toArray rfl rfl (by simpa [htl5] using hTH6) (by simpa using hsz) (all_oneCell_toArray htl1) ?_
      refine hK.out _ _ (hRGof _ B27) (fun hHeld2 => ?_)
      clear hK K hHeld
      have hHeld := hHeld2
      clear hHeld2
      try simp only [Act.put, List.setIfInBounds_toArray, List.set_cons_zero, List.set_cons_succ]
      refine wpAnyH_done (by kernel_rfl) ?_ _
      have d0 := B27.cell (j := 0) rfl
      have hE := hid (And.intro hT7 (And.intro hO7 kE2))
      clear hT7 hO7 B27 kE kE2 kS hHeld hO5 hO6 hT6 B26 kT c4f c4c hTH hTH6 hz6
      try simp only [List.toList_toArray]
      generalize (w4.setCell ⟨t9, 4, none⟩ (.slice (some ⟨g', 0, none⟩) (css.length + 1) ck')).setCells g' (css.length * 5) tl = wE at *
      go_wp2
      go_ret
      exact ⟨rfl, _, by simpa using hE.out.1, hE.out.2.1, hE.out.2.2, hbk.out⟩
end Go.Proofs.YtlbhidiliogflaaGreat
