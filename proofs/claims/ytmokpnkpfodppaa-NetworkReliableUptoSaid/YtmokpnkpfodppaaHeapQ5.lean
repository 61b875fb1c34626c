
/-
The queue of copies in flight: what a call changes; its methods that make it longer and shorter, and the heap's: the walks.
-/
import Derived.Test.YtmokpnkpfodppaaHeapQ4
namespace Go.Proofs.Ytmokpnkpfodppaa
set_option linter.unusedSimpArgs false
set_option linter.unusedVariables false
open Go.RowKit

/-! only the blocks of S, and what is new, have changed -/
structure Fr (S : Nat → Prop) (w w' : World) : Prop where
  os : w'.os = w.os
  tape : w'.tape = w.tape
  output : w'.output = w.output
  size : w.heap.size ≤ w'.heap.size
  block : ∀ k, k < w.heap.size → ¬ S k → w'.heap[k]? = w.heap[k]?
section
variable {S T : Nat → Prop} {a b c w w' : World} {g : Nat}
theorem Fr.refl (S : Nat → Prop) (w : World) : Fr S w w := ⟨rfl, rfl, rfl, Nat.le_refl _, fun _ _ _ => rfl⟩
theorem Fr.trans2 (h : Fr S a b) (k : Fr T b c) (hT : ∀ i, T i → i < a.heap.size → S i) : Fr S a c :=
  ⟨k.os.trans h.os, k.tape.trans h.tape, k.output.trans h.output, Nat.le_trans h.size k.size, fun i hi hS => (k.block i (Nat.lt_of_lt_of_le hi h.size) (fun ht => hS (hT i ht hi))).trans (h.block i hi hS)⟩
theorem Fr.trans (h : Fr S a b) (k : Fr S b c) : Fr S a c := h.trans2 k fun _ h _ => h
theorem Fr.mono (h : Fr S a b) (hS : ∀ i, S i → T i) : Fr T a b := ⟨h.os, h.tape, h.output, h.size, fun k hk hn => h.block k hk fun hs => hn (hS k hs)⟩
theorem Kp.fr (h : Kp a b) (S : Nat → Prop) : Fr S a b := ⟨h.os, h.tape, h.output, h.size, fun _ hk _ => h.block hk⟩
theorem Kg.fr (h : Kg a b g) (hg : S g) : Fr S a b := ⟨h.os, h.tape, h.output, h.size, fun k hk hn => h.block k hk (fun e => hn (by injection e with e; exact e ▸ hg))⟩
theorem Fr.kp (h : Fr S a b) (k : Kp b c) : Fr S a c := h.trans (k.fr S)
theorem Kp.fr2 (h : Kp a b) (k : Fr S b c) : Fr S a c := (h.fr S).trans k
theorem Fr.to_kp (h : Kp a b) (k : Fr S b c) (hS : ∀ i, S i → a.heap.size ≤ i) : Kp a c :=
  ⟨k.os.trans h.os, k.tape.trans h.tape, k.output.trans h.output, Nat.le_trans h.size k.size, fun i hi => (k.block i (Nat.lt_of_lt_of_le hi h.size) (fun hs => by have := hS i hs; omega)).trans (h.block hi)⟩
theorem Fr.cellS (h : Fr S a b) {p : Addr} {v : Value} (hp : a.cell? p = some v) (hn : ¬ S p.block) : b.cell? p = some v := (World.cell?_of_block (h.block p.block (block_lt_of_cell hp) hn)).trans hp
end
/-- the blocks of the queue -/
def Qb (nb : Nat) (v : Value) (k : Nat) : Prop := k = nb ∨ v.ownBlock = some k

set_option maxRecDepth 8000 in
set_option maxHeartbeats 1600000 in
theorem qPush_any (nb : Nat) (cs : List Value) (sv : Value) (l : List Par) (p : Par) (w : World) (hB : Bx w nb cs) (h4 : cs[4]? = some sv) (own : Own encPar 105 5 (nb + 1) w sv l) (hl : l.length ≤ 2000) :
    Calls Try.prog 124 #[.pointer (some ⟨nb, 4, none⟩), .iface 105 (.agg (encPar p).toArray)] w fun e w' => e = .returned (.tuple #[]) ∧ ∃ v', Own encPar 105 5 (nb + 1) w' v' (l ++ [p]) ∧ Bx w' nb (cs.set 4 v') ∧ Fr (Qb nb sv) w w' ∧ ∀ k, v'.ownBlock = some k → sv.ownBlock = some k ∨ w.heap.size ≤ k := by
  have hc := hB.cell h4
  have hnb := block_lt_of_cell hc
  obtain ⟨A, c, rfl, hcc, hmm⟩ := own.form
  have hge := own.ge
  have h4l : 4 < cs.length := (List.getElem?_eq_some_iff.1 h4).1
  have HB := hid hB
  clear hB
  go_enter Try.func124, Try.ntmps124
  go_wp2
  refine G2.wp_region_growG Kp [0] 7 13 (G2.pvL [G2.eqv (.pointer (some ⟨nb, 4, none⟩)), G2.eqv (.pointer (some ⟨nb, 4, none⟩)), G2.eqv (.pointer (some ⟨nb, 4, none⟩)), G2.eqv (.slice A l.length c), G2.eqv (.iface 105 (.agg (encPar p).toArray)), G2.eqv (.agg (encPar p).toArray), (G2.newSl encPar 5 [p])]) (by kernel_rfl) (by kernel_rfl) rfl (fun x => Kp.refl x) (fun _ _ _ h k => h.trans k) (Kp.refl _).drew (fun _ _ _ _ _ h => h) (G2.pvL_keep (G2.stabL_cons (G2.stab_eq _) (G2.stabL_cons (G2.stab_eq _) (G2.stabL_cons (G2.stab_eq _) (G2.stabL_cons (G2.stab_eq _) (G2.stabL_cons (G2.stab_eq _) (G2.stabL_cons (G2.stab_eq _) (G2.stabL_cons (G2.stab_newSl _ _ _) (G2.stabL_nil))))))))) ?_ ?_ ?_
  · intro i0 hi0
    have hi' : i0 = 0 ∨ i0 = 1 ∨ i0 = 2 ∨ i0 = 3 ∨ i0 = 4 ∨ i0 = 5 ∨ i0 = 6 := by omega
    rcases hi' with rfl | rfl | rfl | rfl | rfl | rfl | rfl
    · intro a w' hk hF hD K hK
      simp only [List.getElem?_toArray, List.getElem?_cons_zero, List.getElem?_cons_succ, Option.map_some, Option.getD_some]
      have h0 : a.tmps[0]?.getD undef = .pointer (some ⟨nb, 4, none⟩) := hF 0 (by kernel_rfl)
      clear hF hD
      go_simp
      exact hK.out _ _ (Kp.refl _) rfl
    · intro a w' hk hF hD K hK
      simp only [List.getElem?_toArray, List.getElem?_cons_zero, List.getElem?_cons_succ, Option.map_some, Option.getD_some]
      have h0 : a.tmps[0]?.getD undef = .pointer (some ⟨nb, 4, none⟩) := hF 0 (by kernel_rfl)
      clear hF hD
      go_simp
      exact hK.out _ _ (Kp.refl _) rfl
    · intro a w' hk hF hD K hK
      simp only [List.getElem?_toArray, List.getElem?_cons_zero, List.getElem?_cons_succ, Option.map_some, Option.getD_some]
      have h5 : a.tmps[5]?.getD undef = .pointer (some ⟨nb, 4, none⟩) := hD 1 (by kernel_rfl)
      clear hF hD
      go_simp
      exact hK.out _ _ (Kp.refl _) rfl
    · intro a w' hk hF hD K hK
      simp only [List.getElem?_toArray, List.getElem?_cons_zero, List.getElem?_cons_succ, Option.map_some, Option.getD_some]
      have h6 : a.tmps[6]?.getD undef = .pointer (some ⟨nb, 4, none⟩) := hD 2 (by kernel_rfl)
      clear hF hD
      have z1 := hk.cellS hc
      go_simp
      exact hK.out _ _ (Kp.refl _) rfl
    · intro a w' hk hF hD K hK
      simp only [List.getElem?_toArray, List.getElem?_cons_zero, List.getElem?_cons_succ, Option.map_some, Option.getD_some]
      have h1 : a.tmps[1]?.getD undef = .iface 105 (.agg (encPar p).toArray) := hF 1 (by kernel_rfl)
      clear hF hD
      go_simp
      exact hK.out _ _ (Kp.refl _) rfl
    · intro a w' hk hF hD K hK
      simp only [List.getElem?_toArray, List.getElem?_cons_zero, List.getElem?_cons_succ, Option.map_some, Option.getD_some]
      have h8 : a.tmps[8]?.getD undef = .iface 105 (.agg (encPar p).toArray) := hD 4 (by kernel_rfl)
      clear hF hD
      go_simp
      exact hK.out _ _ (Kp.refl _) rfl
    · intro a w' hk hF hD K hK
      simp only [List.getElem?_toArray, List.getElem?_cons_zero, List.getElem?_cons_succ, Option.map_some, Option.getD_some]
      have h9 : a.tmps[9]?.getD undef = .agg (encPar p).toArray := hD 5 (by kernel_rfl)
      clear hF hD
      go_simp
      exact hK.out _ _ ((Kp.refl w').alloc (.cells (encPar p).toArray 105)) (G2.newSl_one w' 105 rfl rfl)
  · intro i0 hi0
    have hi' : i0 = 0 := by simpa using hi0
    rcases hi' with rfl
    · refine ⟨by omega, fun a w' hk hF hD => ?_⟩
      simp only [List.getElem?_toArray, List.getElem?_cons_zero, List.getElem?_cons_succ, Option.map_some, Option.getD_some]
      have h0 : a.tmps[0]?.getD undef = .pointer (some ⟨nb, 4, none⟩) := hF 0 (by kernel_rfl)
      clear hF hD
      exact ⟨.pointer (some ⟨nb, 4, none⟩), rfl, Or.inl ⟨by simp [Region.wanted], fun w => by go_simp⟩⟩
  intro v w9 k9 hv
  have v3 : v 3 = .slice A l.length c := hv 3 (by omega)
  have v6 : (G2.newSl encPar 5 [p]) (v 6) w9 := hv 6 (by omega)
  have v0 : v 0 = .pointer (some ⟨nb, 4, none⟩) := hv 0 (by omega)
  clear hv
  obtain ⟨px, e6, hp⟩ := v6
  simp only [G2.growPut, G2.gSlot, List.getElem?_toArray, List.getElem?_cons_zero, List.getElem?_cons_succ, Option.bind_some, List.setIfInBounds_toArray, List.set_cons_zero, List.set_cons_succ, List.drop_succ_cons, List.drop_zero, v3, v0, e6]
  have own9 := own.kp k9
  have hB9 := HB.out.keep (k9.block hnb)
  have hc9 := hB9.cell h4
  have hz9 := k9.size
  clear own hc
  go_wp2_with (at_builtin; refine wpl_append_flat rfl (.tmp 7) (.tmp 10) rfl stParM encPar_len encPar_one rfl own9 rfl hp (by simp; omega) (by simp; omega) (by omega) ?_; intro v4 w4 hown4 hgrow4 hat4 hnil4; obtain ⟨A4, c4, e4, hc4, hm4⟩ := hown4.form; rw [List.length_append, List.length_singleton] at e4; subst e4; have hB4 := hB9.grown (row := (Value.slice A l.length c).ownBlock) hgrow4 (fun e => by have := hge nb e; omega) (by omega); have d4 := hB4.cell h4; have f4 := hB4.free h4l; have g4 := block_lt_of_cell d4)
  go_end0
  have hgr : w9.grownBy w4 (Value.slice A l.length c).ownBlock := hgrow4
  have hat : (Value.slice A4 (l.length + 1) c4).ownBlock = (Value.slice A l.length c).ownBlock ∨ (Value.slice A4 (l.length + 1) c4).ownBlock = some w9.heap.size := hat4
  have hfr : Fr (Qb nb (.slice A l.length c)) w9 w4 := ⟨hgr.os, hgr.tape, hgr.output, hgr.size, fun k hk hn => hgr.block k hk (fun e => hn (.inr e.symm))⟩
  refine ⟨rfl, _, hown4.kg ((Kg.refl w4 nb).set (p := ⟨nb, 4, none⟩) (.inl rfl) _) (Nat.lt_succ_self _), hB4.set h4l _, ((k9.fr _).trans hfr).trans (((Kg.refl w4 nb).set (p := ⟨nb, 4, none⟩) (.inl rfl) _).fr (.inl rfl)), fun k hk => ?_⟩
  rcases hat with h | h
  · exact .inl (h ▸ hk)
  · rw [h] at hk
    injection hk with hk
    exact .inr (by omega)
end Go.Proofs.Ytmokpnkpfodppaa
