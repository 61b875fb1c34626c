
/-
Delivering tick by tick is like delivering at once: plain facts; two networks that lie apart.
-/
import Derived.Test.YtmokpnkpfodppaaReliableWalk
namespace Go.Proofs.Ytmokpnkpfodppaa
set_option linter.unusedSimpArgs false
set_option linter.unusedVariables false
open Go.RowKit

/-- no cuts; what is in flight is due between now and 1024, and goes over links that there are -/
structure DInv (N : Net) : Prop where
  cuts : N.cuts = []
  tick : 0 ≤ N.tick
  due : ∀ p ∈ N.fly, N.tick ≤ p.due ∧ p.due ≤ 1024 ∧ lkP N p = true ∧ (numMessage (msgOf p)).length ≤ 1000000000
/-- few of all -/
def cntD (N : Net) (c : Nat) : Prop := N.copies ≤ 2 * (c : Int) ∧ N.sent ≤ (c : Int) ∧ N.delivered = 0 ∧ N.lost ≤ (c : Int) ∧ N.fly.length ≤ 2 * c
theorem d_addC {N : Net} (h : DInv N) (h0 : N.tick = 0) {m : Message} {dl : Int} (hd : 0 ≤ dl ∧ dl ≤ 1024) (he : (encE (numMessage m)).2 = 0) (hlk : linkedB N.reps N.cuts m.sender m.to = true) (hm : (numMessage m).length ≤ 1000000000) :
    DInv (addC 0 m (encE (numMessage m)).1 N dl) := by
  unfold addC
  split
  · refine ⟨h.cuts, h.tick, fun p hp => ?_⟩
    rcases (insP_mem _ p N.fly).1 hp with rfl | hp
    · refine ⟨?_, ?_, hlk, by rw [msgOf_enc he]; exact hm⟩
      · show N.tick ≤ 0 + dl
        omega
      · show 0 + dl ≤ 1024
        omega
    · exact h.due p hp
  · exact h
theorem d_send {N : Net} (h : DInv N) (h0 : N.tick = 0) (ok : OkN N) {c : Nat} (hc : cntD N c) (m : Message) (hm : (numMessage m).length ≤ 1000000000) : DInv (sendN N m 0).1 ∧ (sendN N m 0).1.tick = 0 ∧ cntD (sendN N m 0).1 (c + 1) := by
  obtain ⟨c1, c2, c3, c4, c5⟩ := hc
  have hmore : cntD N (c + 1) := ⟨by omega, by omega, c3, by omega, by omega⟩
  unfold sendN
  split
  · exact ⟨h, h0, hmore⟩
  · split
    · exact ⟨h, h0, hmore⟩
    · split
      · exact ⟨h, h0, hmore⟩
      · rename_i he
        have he0 : (encE (numMessage m)).2 = 0 := by simpa using he
        split
        · exact ⟨h, h0, hmore⟩
        · have h1 : DInv (sent1 N 0) := ⟨h.cuts, Int.le_refl _, fun p hp => by
            obtain ⟨a1, a2, a3, a4⟩ := h.due p hp
            exact ⟨by show (0 : Int) ≤ p.due; have := h.tick; omega, a2, a3, a4⟩⟩
          split
          · exact ⟨⟨h1.cuts, h1.tick, h1.due⟩, rfl, by show N.copies ≤ _; omega, by show N.sent + 1 ≤ _; omega, c3, by show N.lost + 1 ≤ _; omega, by show N.fly.length ≤ _; omega⟩
          · rename_i hlo
            have hlk : linkedB N.reps N.cuts m.sender m.to = true := by
              have : lostB N m = false := by simpa using hlo
              unfold lostB at this
              simp only [Bool.or_eq_false_iff, Bool.not_eq_false'] at this
              exact this.2
            obtain ⟨v1, v2, v3, v4, -⟩ := validF_bounds (fateOf_valid ok)
            have a := addC_facts 0 m (encE (numMessage m)).1 (sent1 N 0) (fateOf N).delay
            have b := addC_facts 0 m (encE (numMessage m)).1 (addC 0 m (encE (numMessage m)).1 (sent1 N 0) (fateOf N).delay) (fateOf N).again
            have d1 := d_addC h1 rfl (m := m) ⟨v1, v2⟩ he0 hlk hm
            have hlk2 : linkedB (addC 0 m (encE (numMessage m)).1 (sent1 N 0) (fateOf N).delay).reps (addC 0 m (encE (numMessage m)).1 (sent1 N 0) (fateOf N).delay).cuts m.sender m.to = true := by
              rw [a.2.2.2.1, a.2.2.2.2.2.1]
              exact hlk
            have t1 : (addC 0 m (encE (numMessage m)).1 (sent1 N 0) (fateOf N).delay).tick = 0 := a.2.2.2.2.2.2.1
            have d2 := d_addC d1 t1 (m := m) ⟨v3, v4⟩ he0 hlk2 hm
            refine ⟨d2, b.2.2.2.2.2.2.1.trans t1, ?_⟩
            have e1 : (sent1 N 0).copies = N.copies := rfl
            have e2 : (sent1 N 0).fly.length = N.fly.length := rfl
            have e3 : (sent1 N 0).sent = N.sent + 1 := rfl
            have e4 : (sent1 N 0).delivered = N.delivered := rfl
            have e5 : (sent1 N 0).lost = N.lost := rfl
            obtain ⟨-, a2, a3, -, -, -, -, a8, a9, a10⟩ := a
            obtain ⟨-, b2, b3, -, -, -, -, b8, b9, b10⟩ := b
            refine ⟨?_, ?_, ?_, ?_, ?_⟩
            · show (addC 0 m _ (addC 0 m _ _ _) _).copies ≤ _
              omega
            · show (addC 0 m _ (addC 0 m _ _ _) _).sent ≤ _
              omega
            · show (addC 0 m _ (addC 0 m _ _ _) _).delivered = _
              omega
            · show (addC 0 m _ (addC 0 m _ _ _) _).lost ≤ _
              omega
            · show (addC 0 m _ (addC 0 m _ _ _) _).fly.length ≤ _
              omega
theorem filter_linked {N : Net} (h : DInv N) (k : Nat) : (N.fly.take k).filter (lkP N) = N.fly.take k ∧ (N.fly.take k).filter (fun p => !lkP N p) = [] := by
  refine ⟨List.filter_eq_self.2 fun p hp => (h.due p (List.mem_of_mem_take hp)).2.2.1, List.filter_eq_nil_iff.2 fun p hp => ?_⟩
  rw [(h.due p (List.mem_of_mem_take hp)).2.2.1]
  simp
theorem d_next {N : Net} (h : DInv N) (hs : SortP N.fly) {p : Par} {S : List Par} (hf : N.fly = p :: S) :
    (deliverN N p.due).2.2 = 0 ∧ DInv (deliverN N p.due).1 ∧ 0 < (deliverN N p.due).2.1.length ∧ (deliverN N p.due).2.1 ++ (deliverN N p.due).1.fly.map msgOf = N.fly.map msgOf ∧ (deliverN N p.due).1.fly.length < N.fly.length ∧
      (deliverN N p.due).1.copies = N.copies ∧ (deliverN N p.due).1.sent = N.sent ∧ (deliverN N p.due).1.delivered + ((deliverN N p.due).1.fly.length : Int) = N.delivered + (N.fly.length : Int) ∧ (deliverN N p.due).1.lost = N.lost ∧ SortP (deliverN N p.due).1.fly := by
  have hp := h.due p (by rw [hf]; simp)
  have hlate : lateB N.tick p.due = false := by
    simp [lateB]
    omega
  have hn : 0 < (dueL p.due N.fly).length := by
    rw [hf, dueL, List.takeWhile_cons_of_pos (by simp)]
    simp
  have hle := dueL_len p.due N.fly
  unfold deliverN
  rw [hlate, if_neg (by simp)]
  generalize (dueL p.due N.fly).length = n at *
  obtain ⟨f1, f2⟩ := filter_linked h n
  have ho : outK N n = (N.fly.take n).map msgOf := by rw [outK, f1]
  have hfl : (delK N p.due n).fly = N.fly.drop n := rfl
  rw [ho]
  refine ⟨rfl, ⟨h.cuts, by show 0 ≤ p.due; have := h.tick; omega, fun q hq => ?_⟩, ?_, ?_, ?_, rfl, rfl, ?_, ?_, ?_⟩
  · rw [hfl] at hq
    have hq' := List.mem_of_mem_drop hq
    obtain ⟨a1, a2, a3, a4⟩ := h.due q hq'
    refine ⟨?_, a2, a3, a4⟩
    show p.due ≤ q.due
    rw [hf] at hq' hs
    rcases List.mem_cons.1 hq' with rfl | hq'
    · exact Int.le_refl _
    · have := (List.pairwise_cons.1 hs).1 q hq'
      rw [ltP_iff] at this
      omega
  · rw [List.length_map, List.length_take]
    omega
  · rw [hfl, ← List.map_append, List.take_append_drop]
  · rw [hfl, List.length_drop]
    omega
  · rw [hfl, List.length_drop]
    show N.delivered + _ + _ = _
    rw [f1, List.length_take]
    omega
  · show N.lost + _ = _
    rw [f2]
    simp
  · rw [hfl]
    exact List.Pairwise.sublist (List.drop_sublist n N.fly) hs
theorem d_all {N : Net} (h : DInv N) (h0 : N.tick = 0) : (deliverN N 1024).2 = (N.fly.map msgOf, 0) ∧ (deliverN N 1024).1.fly = [] := by
  have hlate : lateB N.tick 1024 = false := by
    rw [h0]
    rfl
  have hdue : dueL 1024 N.fly = N.fly := takeWhile_all _ _ fun p hp => by have := (h.due p hp).2.1; simpa using this
  obtain ⟨f1, -⟩ := filter_linked h N.fly.length
  unfold deliverN
  rw [hlate, if_neg (by simp), hdue]
  refine ⟨?_, by show N.fly.drop _ = []; simp⟩
  have : outK N N.fly.length = N.fly.map msgOf := by rw [outK, f1, List.take_length]
  rw [this]

/-! two networks that lie apart -/
/-- what the first queue's row is not -/
def Apart (nb mb : Nat) (vf sv svA : Value) : Prop := ∀ q, svA.ownBlock = some q → q ≠ nb ∧ q ≠ mb ∧ vf.ownBlock ≠ some q ∧ sv.ownBlock ≠ some q
section
variable {lo nb mb loA nbA mbA : Nat} {vf sv vfA svA svA' sv' : Value} {w w' : World} {N NA : Net}
/-- the second network is as it was behind a call of the first -/
theorem NetW.beside (h : NetW lo nb mb vf sv w N) (k : Fr (Qb nbA svA) w w') (hlo : nbA < lo) (ha : Apart nb mb vf sv svA) (hv : ∀ q, vf.ownBlock = some q → lo ≤ q) : NetW lo nb mb vf sv w' N := by
  have h1 := h.mlo
  have h2 := h.mlt
  refine h.fr k (fun hq => ?_) (fun hq => ?_) (fun g hg hq => ?_) (fun g hg hq => ?_)
  · rcases hq with e | e
    · omega
    · exact (ha nb e).1 rfl
  · rcases hq with e | e
    · omega
    · exact (ha mb e).2.1 rfl
  · rcases hq with e | e
    · have := hv g hg
      omega
    · exact (ha g e).2.2.1 hg
  · rcases hq with e | e
    · obtain ⟨Q, own, -⟩ := h.fl
      have := own.ge g hg
      omega
    · exact (ha g e).2.2.2 hg
theorem NetW.vlo (h : NetW lo nb mb vf sv w N) : ∀ q, vf.ownBlock = some q → lo ≤ q := fun q hq => h.own.ge q hq
/-- .. and the row of the first queue stays apart -/
theorem Apart.step (ha : Apart nb mb vf sv svA) (h : NetW lo nb mb vf sv w N) (hs : ∀ k, svA'.ownBlock = some k → svA.ownBlock = some k ∨ w.heap.size ≤ k) : Apart nb mb vf sv svA' := fun q hq => by
  rcases hs q hq with e | e
  · exact ha q e
  · have h1 := h.lt
    have h2 := h.mlt
    refine ⟨by omega, by omega, fun hv => ?_, fun hv => ?_⟩
    · have := (h.ownb q hv).1
      omega
    · have := h.qb_lt q (.inr hv)
      omega
/-- the first network is as it was behind a call of the second -/
theorem NetW.before (hA : NetW loA nbA mbA vfA svA w NA) (k : Fr (Qb nb sv) w w') (hn : nbA < nb) (ha : Apart nb mb vf sv svA) (hr : ∀ q, sv.ownBlock = some q → nb < q) : NetW loA nbA mbA vfA svA w' NA := by
  have h2 := hA.mlt
  refine hA.fr k (fun hq => ?_) (fun hq => ?_) (fun g hg hq => ?_) (fun g hg hq => ?_)
  · rcases hq with e | e
    · omega
    · have := hr nbA e
      omega
  · rcases hq with e | e
    · omega
    · have := hr mbA e
      omega
  · have h3 := (hA.ownb g hg).1
    rcases hq with e | e
    · omega
    · have := hr g e
      omega
  · rcases hq with e | e
    · exact (ha g hg).1 e
    · exact (ha g hg).2.2.2 e
theorem Apart.step2 (ha : Apart nb mb vf sv svA) (hA : NetW loA nbA mbA vfA svA w NA) (hs : ∀ k, sv'.ownBlock = some k → sv.ownBlock = some k ∨ w.heap.size ≤ k) : Apart nb mb vf sv' svA := fun q hq => by
  obtain ⟨h1, h2, h3, h4⟩ := ha q hq
  refine ⟨h1, h2, h3, fun hv => ?_⟩
  rcases hs q hv with e | e
  · exact h4 e
  · have := hA.qb_lt q (.inr hq)
    omega
theorem NetW.svgt (h : NetW lo nb mb vf sv w N) : ∀ q, sv.ownBlock = some q → nb < q := fun q hq => by
  obtain ⟨Q, own, -⟩ := h.fl
  exact own.ge q hq
theorem NetW.sorted (h : NetW lo nb mb vf sv w N) : SortP N.fly := by
  obtain ⟨Q, -, hp⟩ := h.fl
  exact hp.sort
end
/-- results put together -/
theorem EmX.append {α : Type} {size : Nat} {R : Rd α} {base top base2 top2 : Nat} {w : World} {s s2 : Option Nat} {css css2 : List (Elm size)} {xs xs2 : List α} (h : EmX R base top w s css xs) (h2 : EmX R base2 top2 w s2 css2 xs2) (hb : top ≤ base2) (hs : ∀ q, s = some q → q < base2) :
    EmX R base top2 w s (css ++ css2) (xs ++ xs2) := by
  obtain ⟨a1, a2, a3, bs, ts, a4, a5⟩ := h
  obtain ⟨b1, b2, b3, bs2, ts2, b4, b5⟩ := h2
  refine ⟨by simp [a1, b1], by omega, b3, fun k => if k < css.length then bs k else bs2 (k - css.length), fun k => if k < css.length then ts k else ts2 (k - css.length), fun j k hjk hk => ?_, fun k k1 k2 => ?_⟩
  · rw [List.length_append] at hk
    show (if j < css.length then ts j else ts2 (j - css.length)) ≤ if k < css.length then bs k else bs2 (k - css.length)
    by_cases hj : j < css.length
    · rw [if_pos hj]
      by_cases hk2 : k < css.length
      · rw [if_pos hk2]
        exact a4 j k hjk hk2
      · rw [if_neg hk2]
        have h3 := (a5 j hj (by omega)).2.1
        have h4 := (b5 (k - css.length) (by omega) (by omega)).1
        omega
    · rw [if_neg hj, if_neg (by omega)]
      exact b4 _ _ (by omega) (by omega)
  · rw [List.length_append] at k1 k2
    by_cases hk : k < css.length
    · simp only [if_pos hk]
      rw [List.getElem_append_left hk, List.getElem_append_left (by omega)]
      obtain ⟨c1, c2, c3, c4⟩ := a5 k hk (by omega)
      exact ⟨c1, by omega, c3, c4⟩
    · simp only [if_neg hk]
      rw [List.getElem_append_right (by omega), List.getElem_append_right (by omega)]
      obtain ⟨c1, c2, c3, c4⟩ := b5 (k - css.length) (by omega) (by omega)
      have e : k - css.length = k - xs.length := by omega
      refine ⟨by omega, c2, fun q hq => .inl (by have := hs q hq; omega), ?_⟩
      simp only [← e]
      exact c4
end Go.Proofs.Ytmokpnkpfodppaa
