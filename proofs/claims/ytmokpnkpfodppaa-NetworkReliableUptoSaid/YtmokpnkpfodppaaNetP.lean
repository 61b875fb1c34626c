
/-
What sending does to a network: plain facts.
-/
import Derived.Test.YtmokpnkpfodppaaNetC
namespace Go.Proofs.Ytmokpnkpfodppaa
set_option linter.unusedSimpArgs false
set_option linter.unusedVariables false
open Go.RowKit

/-- a copy of a message takes off -/
def addC (t : Int) (m : Message) (data : List UInt8) (N : Net) (dl : Int) : Net :=
  if dl ≠ 0 then { N with fly := insP ⟨t + dl, N.copies, m.sender, m.to, data⟩ N.fly, copies := N.copies + 1 } else N
def lostB (N : Net) (m : Message) : Bool := (fateOf N).drop || !linkedB N.reps N.cuts m.sender m.to
def fullB (N : Net) (m : Message) : Bool := decide (1024 ≤ N.fly.length) || (decide (N.fly.length = 1023) && !decide ((fateOf N).again = 0) && !lostB N m)
def sent1 (N : Net) (t : Int) : Net := { N with sent := N.sent + 1, tick := t }
def sendN (N : Net) (m : Message) (t : Int) : Net × Int :=
  if pairB N.reps m.sender m.to = false then (N, 1)
  else if lateB N.tick t then (N, 2)
  else if (encE (numMessage m)).2 ≠ 0 then (N, (encE (numMessage m)).2)
  else if fullB N m then (N, 8)
  else if lostB N m then ({ sent1 N t with lost := N.lost + 1 }, 0)
  else ([(fateOf N).delay, (fateOf N).again].foldl (addC t m (encE (numMessage m)).1) (sent1 N t), 0)

theorem insP_len (p : Par) (S : List Par) : (insP p S).length = S.length + 1 := by rw [(insP_perm p S).length_eq]; rfl
theorem OkN.sent1 {N : Net} (h : OkN N) {t : Int} (ht : 0 ≤ t ∧ t ≤ 1048576) : OkN (sent1 N t) :=
  ⟨h.nums, h.len, h.fv, h.flen, ht, h.pos.1, by have := h.pos.2.1; show 0 ≤ N.sent + 1; omega, h.pos.2.2⟩
theorem OkN.lost1 {N : Net} (h : OkN N) : OkN { N with lost := N.lost + 1 } :=
  ⟨h.nums, h.len, h.fv, h.flen, h.tick, h.pos.1, h.pos.2.1, h.pos.2.2.1, by have := h.pos.2.2.2; show 0 ≤ N.lost + 1; omega⟩
theorem OkN.addC {N : Net} (h : OkN N) {t dl : Int} {m : Message} {data : List UInt8} (hl : dl ≠ 0 → N.fly.length + 1 ≤ 1024) : OkN (addC t m data N dl) := by
  unfold Go.Proofs.Ytmokpnkpfodppaa.addC
  by_cases hd : dl ≠ 0
  · rw [if_pos hd]
    refine ⟨fun q hq => ?_, by show (insP _ _).length ≤ 1024; rw [insP_len]; exact hl hd, h.fv, h.flen, h.tick, by have := h.pos.1; show 0 ≤ N.copies + 1; omega, h.pos.2⟩
    show q.num < N.copies + 1
    rcases (insP_mem _ q N.fly).1 hq with rfl | hq
    · show N.copies < N.copies + 1
      omega
    · have := h.nums q hq
      omega
  · rw [if_neg hd]
    exact h
theorem fateOf_valid {N : Net} (h : OkN N) : validF (fateOf N) = true := by
  unfold fateOf
  split
  · rfl
  · rename_i hz
    have hk : N.sent.toNat % N.fates.length < N.fates.length := Nat.mod_lt _ (by omega)
    have : N.fates.getD (N.sent.toNat % N.fates.length) default = N.fates[N.sent.toNat % N.fates.length] := by simp [List.getD, hk]
    rw [this]
    exact h.fv _ (List.getElem_mem hk)
theorem validF_bounds {f : Fate} (h : validF f = true) : 0 ≤ f.delay ∧ f.delay ≤ 1024 ∧ 0 ≤ f.again ∧ f.again ≤ 1024 ∧ (f.drop = false → 1 ≤ f.delay) := by
  unfold validF at h
  cases hd : f.drop with
  | true =>
    rw [hd, if_pos rfl] at h
    simp only [Bool.and_eq_true, decide_eq_true_eq] at h
    refine ⟨by omega, by omega, by omega, by omega, fun h => by cases h⟩
  | false =>
    rw [hd, if_neg (by simp)] at h
    simp only [Bool.and_eq_true, decide_eq_true_eq] at h
    refine ⟨by omega, by omega, by omega, by omega, fun _ => by omega⟩
theorem addC_facts (t : Int) (m : Message) (data : List UInt8) (N : Net) (dl : Int) :
    N.copies ≤ (addC t m data N dl).copies ∧ (addC t m data N dl).copies ≤ N.copies + 1 ∧ (addC t m data N dl).fly.length ≤ N.fly.length + 1 ∧ (addC t m data N dl).reps = N.reps ∧ (addC t m data N dl).fates = N.fates ∧ (addC t m data N dl).cuts = N.cuts ∧ (addC t m data N dl).tick = N.tick ∧ (addC t m data N dl).sent = N.sent ∧ (addC t m data N dl).delivered = N.delivered ∧ (addC t m data N dl).lost = N.lost := by
  unfold addC
  split
  · refine ⟨?_, Int.le_refl _, ?_, rfl, rfl, rfl, rfl, rfl, rfl, rfl⟩
    · show N.copies ≤ N.copies + 1
      omega
    · show (insP _ _).length ≤ _
      rw [insP_len]
      omega
  · exact ⟨by omega, by omega, by omega, rfl, rfl, rfl, rfl, rfl, rfl, rfl⟩
theorem addK_facts (t : Int) (m : Message) (data : List UInt8) : ∀ (l : List Int) (N : Net),
    N.copies ≤ (l.foldl (addC t m data) N).copies ∧ (l.foldl (addC t m data) N).copies ≤ N.copies + l.length ∧ (l.foldl (addC t m data) N).fly.length ≤ N.fly.length + l.length ∧ (l.foldl (addC t m data) N).reps = N.reps ∧ (l.foldl (addC t m data) N).fates = N.fates ∧ (l.foldl (addC t m data) N).cuts = N.cuts ∧ (l.foldl (addC t m data) N).tick = N.tick ∧ (l.foldl (addC t m data) N).sent = N.sent ∧ (l.foldl (addC t m data) N).delivered = N.delivered ∧ (l.foldl (addC t m data) N).lost = N.lost
  | [], N => ⟨Int.le_refl _, by simp, by simp, rfl, rfl, rfl, rfl, rfl, rfl, rfl⟩
  | dl :: l, N => by
    obtain ⟨a1, a2, a3, a4, a5, a6, a7, a8, a9, a10⟩ := addC_facts t m data N dl
    obtain ⟨b1, b2, b3, b4, b5, b6, b7, b8, b9, b10⟩ := addK_facts t m data l (addC t m data N dl)
    rw [List.foldl_cons, List.length_cons]
    exact ⟨by omega, by push_cast; omega, by omega, b4.trans a4, b5.trans a5, b6.trans a6, b7.trans a7, b8.trans a8, b9.trans a9, b10.trans a10⟩
theorem foldl_take_succ {α β : Type} (f : β → α → β) (l : List α) (k : Nat) (b : β) (h : k < l.length) : (l.take (k + 1)).foldl f b = f ((l.take k).foldl f b) l[k] := by
  rw [List.take_succ_eq_append_getElem h, List.foldl_append]
  rfl
section
variable {lo nb mb : Nat} {vf sv sv' : Value} {w w' : World} {N N' : Net}
/-- a change of the network's own blocks -/
theorem NetW.upd (h : NetW lo nb mb vf sv w N) (k : Fr (Qb nb sv) w w') (hB : Bx w' nb (netCells N' vf sv' mb)) (h1 : N'.fates = N.fates) (h2 : N'.cuts = N.cuts) (h3 : ∃ Q, Own encPar 105 5 (nb + 1) w' sv' Q ∧ HeapOf Q N'.fly) (h4 : OkN N') : NetW lo nb mb vf sv' w' N' := by
  obtain ⟨es, clock, h5, h6⟩ := h.mp
  obtain ⟨Q, h7, h8⟩ := h.fl
  have hn : ∀ i, i < nb → ¬ Qb nb sv i := fun i hi hq => by
    rcases hq with e | e
    · omega
    · have := h7.ge i e
      omega
  refine ⟨hB, ?_, h.ownb, ⟨es, clock, (k.block mb h.mblt (hn mb h.mlt)).trans h5, by rw [h2]; exact h6⟩, h.mlo, h.mlt, h3, h4⟩
  rw [h1]
  exact h.own.owS w' k.size fun i hi hlt => k.block i hlt (hn i (h.ownb i hi).1)
/-- .. of its box alone -/
theorem NetW.updB (h : NetW lo nb mb vf sv w N) (k : Kg w w' nb) (hB : Bx w' nb (netCells N' vf sv mb)) (h1 : N'.fates = N.fates) (h2 : N'.cuts = N.cuts) (h3 : N'.fly = N.fly) (h4 : OkN N') : NetW lo nb mb vf sv w' N' := by
  obtain ⟨Q, h7, h8⟩ := h.fl
  exact h.upd (k.fr (.inl rfl)) hB h1 h2 ⟨Q, h7.kg k (Nat.lt_succ_self _), by rw [h3]; exact h8⟩ h4
end
/-- a message's cells -/
theorem MessageV.cells2 {w : World} {val : Value} {m : Message} (h : MessageV w val m) : ∃ cs : List Value, val = .agg cs.toArray ∧ cs.length = 18 ∧ (∀ u ∈ cs, u.oneCell' = true) ∧ cs[1]? = some (.int .i64 m.sender) ∧ cs[2]? = some (.int .i64 m.to) := by
  obtain ⟨cs, e, hl, h1⟩ := message_cells w val m h
  obtain ⟨v3, v4, v5, v6, v7, rfl, -⟩ := h
  injection e with e
  refine ⟨cs, congrArg Value.agg e, hl, h1, ?_, ?_⟩
  · have := congrArg (fun a : Array Value => a[1]?) e
    simpa using this.symm
  · have := congrArg (fun a : Array Value => a[2]?) e
    simpa using this.symm
end Go.Proofs.Ytmokpnkpfodppaa
