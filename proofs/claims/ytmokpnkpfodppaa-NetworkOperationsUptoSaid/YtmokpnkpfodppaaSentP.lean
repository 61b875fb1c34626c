
/-
Nothing arrives that was not sent: plain facts; lists of results in one row.
-/
import Derived.Test.YtmokpnkpfodppaaNetL
namespace Go.Proofs.Ytmokpnkpfodppaa
set_option linter.unusedSimpArgs false
set_option linter.unusedVariables false
open Go.RowKit

/-- how often a list has a message with these numbers -/
def cntM (κ : List Int) (l : List Message) : Nat := (l.map numMessage).count κ
theorem cntM_append (κ : List Int) (l m : List Message) : cntM κ (l ++ m) = cntM κ l + cntM κ m := by simp [cntM]
theorem cntM_perm {κ : List Int} {l m : List Message} (h : l.Perm m) : cntM κ l = cntM κ m := (h.map numMessage).count_eq κ
theorem cntM_le {κ : List Int} {l m : List Message} (h : l.Sublist m) : cntM κ l ≤ cntM κ m := (h.map numMessage).count_le κ
/-- what was sent, what is in flight, what has arrived, after c calls -/
structure SInv (c : Nat) (N : Net) (sent arr : List Message) : Prop where
  cnt : ∀ κ, cntM κ arr + cntM κ (N.fly.map msgOf) ≤ 2 * cntM κ sent
  c1 : N.copies ≤ 2 * (c : Int)
  c2 : N.sent ≤ (c : Int)
  c3 : N.delivered + N.lost + (N.fly.length : Int) ≤ 3 * (c : Int)
  c4 : sent.length ≤ c
  c5 : (arr.length : Int) ≤ N.delivered
  b1 : ∀ x ∈ sent, (numMessage x).length ≤ 1000000000
  b2 : ∀ x ∈ arr, (numMessage x).length ≤ 1000000000
  b3 : ∀ p ∈ N.fly, (numMessage (msgOf p)).length ≤ 1000000000
theorem SInv.more {c : Nat} {N : Net} {sent arr : List Message} (h : SInv c N sent arr) : SInv (c + 1) N sent arr :=
  ⟨h.cnt, by have := h.c1; omega, by have := h.c2; omega, by have := h.c3; omega, by have := h.c4; omega, h.c5, h.b1, h.b2, h.b3⟩
theorem addC_fly (t : Int) (m : Message) (N : Net) (dl : Int) (he : (encE (numMessage m)).2 = 0) (κ : List Int) :
    cntM κ ((addC t m (encE (numMessage m)).1 N dl).fly.map msgOf) ≤ cntM κ (N.fly.map msgOf) + cntM κ [m] ∧ ∀ p ∈ (addC t m (encE (numMessage m)).1 N dl).fly, p ∈ N.fly ∨ msgOf p = m := by
  unfold addC
  split
  · refine ⟨?_, fun p hp => ?_⟩
    · have h1 := (insP_perm ⟨t + dl, N.copies, m.sender, m.to, (encE (numMessage m)).1⟩ N.fly).map msgOf
      rw [cntM_perm h1, List.map_cons, msgOf_enc he, show m :: N.fly.map msgOf = [m] ++ N.fly.map msgOf from rfl, cntM_append]
      omega
    · rcases (insP_mem _ p N.fly).1 hp with rfl | hp
      · exact .inr (msgOf_enc he _ _ _ _)
      · exact .inl hp
  · exact ⟨by omega, fun p hp => .inl hp⟩
theorem s_send {c : Nat} {N : Net} {sent arr : List Message} (h : SInv c N sent arr) (m : Message) (t : Int) (hm : (numMessage m).length ≤ 1000000000) :
    SInv (c + 1) (sendN N m t).1 (if (sendN N m t).2 = 0 then sent ++ [m] else sent) arr := by
  unfold sendN
  split
  · exact h.more
  · split
    · exact h.more
    · split
      · exact h.more
      · rename_i he
        have he0 : (encE (numMessage m)).2 = 0 := by simpa using he
        split
        · exact h.more
        · have hb1 : ∀ x ∈ sent ++ [m], (numMessage x).length ≤ 1000000000 := fun x hx => by
            rcases List.mem_append.1 hx with hx | hx
            · exact h.b1 x hx
            · simp only [List.mem_singleton] at hx
              subst hx
              exact hm
          have hl1 : (sent ++ [m]).length ≤ c + 1 := by have := h.c4; simp; omega
          split
          · dsimp only
            rw [if_pos rfl]
            refine ⟨fun κ => ?_, by have := h.c1; show N.copies ≤ _; omega, by have := h.c2; show N.sent + 1 ≤ _; omega, by have := h.c3; show N.delivered + (N.lost + 1) + (N.fly.length : Int) ≤ _; omega, hl1, h.c5, hb1, h.b2, h.b3⟩
            have h1 := h.cnt κ
            rw [cntM_append]
            show cntM κ arr + cntM κ (N.fly.map msgOf) ≤ _
            omega
          · dsimp only
            rw [if_pos rfl]
            have a := addC_facts t m (encE (numMessage m)).1 (sent1 N t) (fateOf N).delay
            have b := addC_facts t m (encE (numMessage m)).1 (addC t m (encE (numMessage m)).1 (sent1 N t) (fateOf N).delay) (fateOf N).again
            have e1 : (sent1 N t).copies = N.copies := rfl
            have e2 : (sent1 N t).fly = N.fly := rfl
            have e3 : (sent1 N t).sent = N.sent + 1 := rfl
            have e4 : (sent1 N t).delivered = N.delivered := rfl
            have e5 : (sent1 N t).lost = N.lost := rfl
            have hx := h.c1
            have hy := h.c2
            have hz := h.c3
            obtain ⟨-, a2, a3, -, -, -, -, a8, a9, a10⟩ := a
            obtain ⟨-, b2, b3, -, -, -, -, b8, b9, b10⟩ := b
            rw [e2] at a3
            refine ⟨fun κ => ?_, ?_, ?_, ?_, hl1, ?_, hb1, h.b2, fun p hp => ?_⟩
            · have h1 := h.cnt κ
              have h2 := (addC_fly t m (sent1 N t) (fateOf N).delay he0 κ).1
              have h3 := (addC_fly t m (addC t m (encE (numMessage m)).1 (sent1 N t) (fateOf N).delay) (fateOf N).again he0 κ).1
              rw [e2] at h2
              rw [cntM_append]
              show cntM κ arr + cntM κ ((addC t m _ (addC t m _ _ _) _).fly.map msgOf) ≤ _
              omega
            · show (addC t m _ (addC t m _ _ _) _).copies ≤ _
              omega
            · show (addC t m _ (addC t m _ _ _) _).sent ≤ _
              omega
            · show (addC t m _ (addC t m _ _ _) _).delivered + (addC t m _ (addC t m _ _ _) _).lost + ((addC t m _ (addC t m _ _ _) _).fly.length : Int) ≤ _
              omega
            · have := h.c5
              show (arr.length : Int) ≤ (addC t m _ (addC t m _ _ _) _).delivered
              omega
            · rcases (addC_fly t m (addC t m (encE (numMessage m)).1 (sent1 N t) (fateOf N).delay) (fateOf N).again he0 []).2 p hp with hp | hp
              · rcases (addC_fly t m (sent1 N t) (fateOf N).delay he0 []).2 p hp with hp | hp
                · exact h.b3 p hp
                · rw [hp]
                  exact hm
              · rw [hp]
                exact hm
theorem filter_split {α : Type} (p : α → Bool) : ∀ l : List α, (l.filter p).length + (l.filter fun x => !p x).length = l.length
  | [] => rfl
  | x :: l => by
    have := filter_split p l
    cases h : p x <;> simp [h] <;> omega
theorem s_deliver {c : Nat} {N : Net} {sent arr : List Message} (h : SInv c N sent arr) (t : Int) : SInv (c + 1) (deliverN N t).1 sent (arr ++ (deliverN N t).2.1) := by
  unfold deliverN
  split
  · simpa using h.more
  · dsimp only
    generalize (dueL t N.fly).length = n
    have hsub : ((N.fly.take n).filter (lkP N)).Sublist (N.fly.take n) := List.filter_sublist
    have hfs := filter_split (lkP N) (N.fly.take n)
    have htd : (N.fly.take n).length + (N.fly.drop n).length = N.fly.length := by rw [← List.length_append, List.take_append_drop]
    have hc3 := h.c3
    have hc5 := h.c5
    refine ⟨fun κ => ?_, by have := h.c1; show N.copies ≤ _; omega, by have := h.c2; show N.sent ≤ _; omega, ?_, by have := h.c4; omega, ?_, h.b1, fun x hx => ?_, fun p hp => h.b3 p (List.mem_of_mem_drop hp)⟩
    · have h1 := h.cnt κ
      have h2 : cntM κ (outK N n) ≤ cntM κ ((N.fly.take n).map msgOf) := cntM_le (hsub.map msgOf)
      have h3 : cntM κ (N.fly.map msgOf) = cntM κ ((N.fly.take n).map msgOf) + cntM κ ((N.fly.drop n).map msgOf) := by
        rw [← cntM_append, ← List.map_append, List.take_append_drop]
      rw [cntM_append]
      show cntM κ arr + cntM κ (outK N n) + cntM κ ((N.fly.drop n).map msgOf) ≤ _
      omega
    · show N.delivered + _ + (N.lost + _) + ((N.fly.drop n).length : Int) ≤ _
      omega
    · rw [List.length_append, outK, List.length_map]
      show _ ≤ N.delivered + _
      push_cast
      omega
    · rcases List.mem_append.1 hx with hx | hx
      · exact h.b2 x hx
      · obtain ⟨p, hp, rfl⟩ := List.mem_map.1 hx
        exact h.b3 p (List.mem_of_mem_take (hsub.mem hp))
/-- what was sent behind a call -/
def sentBy (N : Net) (x : Cmd) (sent : List Message) : List Message := if x.kind = 0 ∧ (doN N x).2.2 = 0 then sent ++ [x.m] else sent
theorem s_do {c : Nat} {N : Net} {sent arr : List Message} (h : SInv c N sent arr) (x : Cmd) (hm : (numMessage x.m).length ≤ 1000000000) : SInv (c + 1) (doN N x).1 (sentBy N x sent) (arr ++ (doN N x).2.1) := by
  unfold sentBy
  by_cases h0 : x.kind = 0
  · have hd : doN N x = ((sendN N x.m x.tick).1, [], (sendN N x.m x.tick).2) := by rw [doN, if_pos h0]
    rw [hd]
    have := s_send h x.m x.tick hm
    simpa [h0] using this
  · rw [if_neg (fun hh => h0 hh.1)]
    by_cases h1 : x.kind = 1
    · have hd : doN N x = deliverN N x.tick := by rw [doN, if_neg h0, if_pos h1]
      rw [hd]
      exact s_deliver h x.tick
    · have hcut : ∀ N' : Net, N'.fly = N.fly → N'.copies = N.copies → N'.sent = N.sent → N'.delivered = N.delivered → N'.lost = N.lost → SInv (c + 1) N' sent (arr ++ []) := fun N' e1 e2 e3 e4 e5 => by
        have := h.more
        rw [List.append_nil]
        exact ⟨fun κ => by rw [e1]; exact this.cnt κ, by rw [e2]; exact this.c1, by rw [e3]; exact this.c2, by rw [e1, e4, e5]; exact this.c3, this.c4, by rw [e4]; exact this.c5, this.b1, this.b2, fun p hp => this.b3 p (by rw [← e1]; exact hp)⟩
      by_cases h2 : x.kind = 2
      · have hd : doN N x = ((cutN N x.a x.b).1, [], (cutN N x.a x.b).2) := by rw [doN, if_neg h0, if_neg h1, if_pos h2]
        rw [hd]
        unfold cutN
        split <;> exact hcut _ rfl rfl rfl rfl rfl
      · by_cases h3 : x.kind = 3
        · have hd : doN N x = ((healN N x.a x.b).1, [], (healN N x.a x.b).2) := by rw [doN, if_neg h0, if_neg h1, if_neg h2, if_pos h3]
          rw [hd]
          unfold healN
          split <;> exact hcut _ rfl rfl rfl rfl rfl
        · have hd : doN N x = (N, [], 0) := by rw [doN, if_neg h0, if_neg h1, if_neg h2, if_neg h3]
          rw [hd]
          exact hcut _ rfl rfl rfl rfl rfl
theorem SInv.few {c : Nat} {N : Net} {sent arr : List Message} (h : SInv c N sent arr) (hc : c ≤ 100) (ok : OkN N) : Few N := by
  have h1 := h.c1
  have h2 := h.c2
  have h3 := h.c3
  obtain ⟨p1, p2, p3, p4⟩ := ok.pos
  exact ⟨by omega, by omega, by omega, by omega⟩
/-- results put behind those of a row -/
theorem NL.appendX {α : Type} {size : Nat} {R : Rd α} {e base top : Nat} {S S' : Nat → Prop} {w w' : World} {v v' : Value} {s2 : Option Nat} {css css2 : List (Elm size)} {xs xs2 : List α} (h : NL R e size S w v css xs) (em : EmX R base top w s2 css2 xs2)
    (own' : Own encC e size 0 w' v' (css ++ css2)) (hg : w.grownBy w' v.ownBlock) (hat : v'.ownBlock = v.ownBlock ∨ v'.ownBlock = some w.heap.size) (hS : ∀ i, S i → S' i) (hn : ∀ q, v'.ownBlock = some q → S' q) (hT : ∀ i, base ≤ i → i < top → S' i) (hq : ∀ q, v.ownBlock = some q → q < base) :
    NL R e size S' w' v' (css ++ css2) (xs ++ xs2) := by
  obtain ⟨b1, b2, b3, bs, ts, -, b5⟩ := em
  have hlen := h.len
  have hgb : ∀ i, v.ownBlock ≠ some i → i < w.heap.size → w'.heap[i]? = w.heap[i]? := fun i hi hlt => hg.block i hlt (fun e => hi e.symm)
  have hne : ∀ i, v.ownBlock ≠ some i → i < w.heap.size → v'.ownBlock ≠ some i := fun i hi hlt e => by
    rcases hat with h1 | h1
    · exact hi (h1 ▸ e)
    · rw [h1] at e
      injection e with e
      omega
  refine ⟨own', by simp [h.len, b1], hn, fun k h1 h2 => ?_⟩
  · rw [List.length_append] at h1 h2
    by_cases hk : k < css.length
    · rw [List.getElem_append_left hk, List.getElem_append_left (by omega)]
      obtain ⟨T', hT', ho'⟩ := h.els k hk (by omega)
      exact ⟨T', fun i hi => ⟨hS i (hT' i hi).1, hne i (hT' i hi).2.1 (hT' i hi).2.2, Nat.lt_of_lt_of_le (hT' i hi).2.2 hg.size⟩, ho'.step hg.size fun i hi hlt => hgb i (hT' i hi).2.1 hlt⟩
    · rw [List.getElem_append_right (by omega), List.getElem_append_right (by omega)]
      have e1 : k - css.length = k - xs.length := by omega
      obtain ⟨c1, c2, -, c4⟩ := b5 (k - css.length) (by omega) (by omega)
      simp only [← e1]
      have hv : ∀ i, bs (k - css.length) ≤ i → v.ownBlock ≠ some i := fun i hi e => by have := hq i e; omega
      refine ⟨fun i => bs (k - css.length) ≤ i ∧ i < ts (k - css.length), fun i hi => ⟨hT i (by omega) (by omega), hne i (hv i hi.1) (by omega), by have := hg.size; omega⟩, fun w2 g1 g2 => ?_⟩
      exact c4 w2 (by have := hg.size; omega) fun i i1 i2 => (g2 i ⟨i1, i2⟩ (by have := hg.size; omega)).trans (hgb i (hv i i1) (by omega))
end Go.Proofs.Ytmokpnkpfodppaa
