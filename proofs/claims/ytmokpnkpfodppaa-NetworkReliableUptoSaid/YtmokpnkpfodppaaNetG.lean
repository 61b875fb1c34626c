
/-
What arrives is what was sent: plain facts; a network without fates and cuts.
-/
import Derived.Test.YtmokpnkpfodppaaNetF
namespace Go.Proofs.Ytmokpnkpfodppaa
set_option linter.unusedSimpArgs false
set_option linter.unusedVariables false
open Go.RowKit

theorem encE_zero {l : List Int} {bs : List UInt8} (h : encE l = (bs, 0)) : encB l = bs ∧ (∀ n ∈ l, OkI n) ∧ bs.length ≤ 65536 := by
  unfold encE at h
  split at h
  · simp at h
  · rename_i ho
    split at h
    · simp at h
    · rename_i hb
      simp only [Prod.mk.injEq, and_true] at h
      subst h
      refine ⟨rfl, fun n hn => outI_ok ?_, by omega⟩
      by_cases hx : outI n = true
      · exact absurd (List.any_eq_true.2 ⟨n, hn, hx⟩) ho
      · simpa using hx
theorem decE_of {l : List Int} {bs : List UInt8} (h1 : encB l = bs) (h2 : ∀ n ∈ l, OkI n) (h3 : bs.length ≤ 65536) : decE bs = (l, 0) := by
  unfold decE
  rw [if_neg (by omega), (dec_iff bs l).2 ⟨h1, h2⟩]
  rfl
theorem read_enc {α : Type} {P : Ps α} {f : α → List Int} (hg : Good P f) {x : α} {bs : List UInt8} (h : encE (f x) = (bs, 0)) : readE P bs = (some x, 0) := by
  obtain ⟨h1, h2, h3⟩ := encE_zero h
  have hd := decE_of h1 h2 h3
  unfold readE
  rw [hd, if_pos rfl]
  have h4 := (hg (f x) x []).2 (by simp)
  dsimp only
  rw [h4]
theorem msgOf_enc {m : Message} (h : (encE (numMessage m)).2 = 0) (a b c d : Int) : msgOf ⟨a, b, c, d, (encE (numMessage m)).1⟩ = m := by
  have := read_enc (P := messageP) (f := numMessage) messageP_good (x := m) (bs := (encE (numMessage m)).1) (by rw [← h])
  unfold msgOf
  dsimp only
  rw [this]
  rfl
theorem insP_end (p : Par) : ∀ S, (∀ q ∈ S, ltP p q = false) → insP p S = S ++ [p]
  | [], _ => rfl
  | q :: S, h => by
    rw [insP, if_neg (by rw [h q (by simp)]; simp), insP_end p S fun x hx => h x (by simp [hx])]
    rfl
/-- no fates, no cuts: what is in flight in group g, after c messages -/
structure RInv (r : Int) (g c : Nat) (N : Net) (sent : List Message) : Prop where
  reps : N.reps = r
  fates : N.fates = []
  cuts : N.cuts = []
  tick : N.tick ≤ (g : Int)
  due : ∀ p ∈ N.fly, p.due = (g : Int) + 1 ∧ pairB r p.frm p.dst = true
  out : N.fly.map msgOf = sent
  c1 : N.copies ≤ (c : Int)
  c2 : N.sent ≤ (c : Int)
  c3 : N.delivered + (N.fly.length : Int) ≤ (c : Int)
  c4 : N.lost ≤ (c : Int)
theorem RInv.more {r : Int} {g c : Nat} {N : Net} {sent : List Message} (h : RInv r g c N sent) : RInv r g (c + 1) N sent :=
  ⟨h.reps, h.fates, h.cuts, h.tick, h.due, h.out, by have := h.c1; omega, by have := h.c2; omega, by have := h.c3; omega, by have := h.c4; omega⟩
theorem RInv.few {r : Int} {g c : Nat} {N : Net} {sent : List Message} (h : RInv r g c N sent) (hc : c ≤ 1000) (hp : 0 ≤ N.delivered) : Few N ∧ N.fly.length ≤ c :=
  ⟨⟨by have := h.c1; omega, by have := h.c2; omega, by have := h.c3; omega, by have := h.c4; omega⟩, by have := h.c3; omega⟩
theorem linked_nil {r a b : Int} : linkedB r [] a b = pairB r a b := by simp [linkedB, hasC]
theorem r_send {r : Int} {g c : Nat} {N : Net} {sent : List Message} (h : RInv r g c N sent) (ok : OkN N) (hg : g ≤ 100) (hc : c ≤ 100) (m : Message) :
    ((sendN N m g).2 = 0 → RInv r g (c + 1) (sendN N m g).1 (sent ++ [m])) ∧ ((sendN N m g).2 ≠ 0 → RInv r g (c + 1) (sendN N m g).1 sent) := by
  obtain ⟨-, hl⟩ := h.few (by omega) ok.pos.2.2.1
  have hf : fateOf N = ⟨false, 1, 0⟩ := by rw [fateOf, h.fates]; rfl
  have hlate : lateB N.tick (g : Int) = false := by
    have := h.tick
    simp [lateB]
    omega
  have hfull : fullB N m = false := by
    unfold fullB
    simp
    omega
  unfold sendN
  rw [h.reps, hlate, hfull]
  cases hp : pairB r m.sender m.to with
  | false =>
    rw [if_pos rfl]
    exact ⟨fun h => by simp at h, fun _ => h.more⟩
  | true =>
    rw [if_neg (by simp), if_neg (by simp)]
    by_cases he : (encE (numMessage m)).2 ≠ 0
    · rw [if_pos he]
      exact ⟨fun h => absurd h he, fun _ => h.more⟩
    · have he0 : (encE (numMessage m)).2 = 0 := by simpa using he
      have hlost : lostB N m = false := by
        rw [lostB, hf, h.reps, h.cuts, linked_nil, hp]
        rfl
      rw [if_neg he, if_neg (by simp), hlost, if_neg (by simp), hf]
      refine ⟨fun _ => ?_, fun h => absurd rfl h⟩
      dsimp only
      have hend : insP ⟨(g : Int) + 1, N.copies, m.sender, m.to, (encE (numMessage m)).1⟩ N.fly = N.fly ++ [⟨(g : Int) + 1, N.copies, m.sender, m.to, (encE (numMessage m)).1⟩] := insP_end _ _ fun q hq => by
        have h1 := (h.due q hq).1
        have h2 := ok.nums q hq
        rw [ltP_not]
        show ¬ ((g : Int) + 1 < q.due ∨ (g : Int) + 1 = q.due ∧ N.copies < q.num)
        omega
      have hN : [(1 : Int), 0].foldl (addC (g : Int) m (encE (numMessage m)).1) (sent1 N (g : Int)) = { sent1 N (g : Int) with fly := N.fly ++ [⟨(g : Int) + 1, N.copies, m.sender, m.to, (encE (numMessage m)).1⟩], copies := N.copies + 1 } := by
        rw [← hend]
        rfl
      rw [hN]
      refine ⟨h.reps, h.fates, h.cuts, Int.le_refl _, fun p hp' => ?_, ?_, by have := h.c1; show N.copies + 1 ≤ _; omega, by have := h.c2; show N.sent + 1 ≤ _; omega, ?_, by have := h.c4; show N.lost ≤ _; omega⟩
      · rcases List.mem_append.1 hp' with hp' | hp'
        · exact h.due p hp'
        · simp only [List.mem_singleton] at hp'
          subst hp'
          exact ⟨rfl, hp⟩
      · show (N.fly ++ [_]).map msgOf = _
        rw [List.map_append, h.out, List.map_cons, List.map_nil, msgOf_enc he0]
      · have := h.c3
        show N.delivered + ((N.fly ++ [_]).length : Int) ≤ _
        rw [List.length_append, List.length_singleton]
        omega
theorem takeWhile_all {α : Type} (p : α → Bool) : ∀ l : List α, (∀ x ∈ l, p x = true) → l.takeWhile p = l
  | [], _ => rfl
  | x :: l, h => by rw [List.takeWhile_cons_of_pos (h x (by simp)), takeWhile_all p l fun y hy => h y (by simp [hy])]
theorem r_deliver {r : Int} {g c : Nat} {N : Net} {sent : List Message} (h : RInv r g c N sent) (hg : g ≤ 100) :
    (deliverN N ((g : Int) + 1)).2 = (sent, 0) ∧ (deliverN N ((g : Int) + 1)).1.fly = [] ∧ RInv r (g + 1) c (deliverN N ((g : Int) + 1)).1 [] := by
  have hlate : lateB N.tick ((g : Int) + 1) = false := by
    have := h.tick
    simp [lateB]
    omega
  have hdue : dueL ((g : Int) + 1) N.fly = N.fly := takeWhile_all _ _ fun p hp => by have := (h.due p hp).1; simp; omega
  have hlk : N.fly.filter (lkP N) = N.fly := List.filter_eq_self.2 fun p hp => by
    rw [lkP, h.reps, h.cuts, linked_nil]
    exact (h.due p hp).2
  have hlk2 : N.fly.filter (fun p => !lkP N p) = [] := List.filter_eq_nil_iff.2 fun p hp => by
    rw [lkP, h.reps, h.cuts, linked_nil, (h.due p hp).2]
    simp
  have hout : outK N N.fly.length = sent := by rw [outK, List.take_length, hlk, h.out]
  unfold deliverN
  rw [hlate, if_neg (by simp), hdue, hout]
  refine ⟨rfl, by simp [delK], ?_⟩
  refine ⟨h.reps, h.fates, h.cuts, by show (g : Int) + 1 ≤ _; omega, fun p hp => by simp [delK] at hp, by simp [delK], h.c1, h.c2, ?_, ?_⟩
  · have := h.c3
    simp only [delK, List.take_length, hlk, List.drop_length, List.length_nil]
    omega
  · have := h.c4
    simp only [delK, List.take_length, hlk2, List.length_nil]
    omega
end Go.Proofs.Ytmokpnkpfodppaa
