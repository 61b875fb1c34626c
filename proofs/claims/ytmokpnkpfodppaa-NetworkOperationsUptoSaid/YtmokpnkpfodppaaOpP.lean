
/-
The network and the reference's network do the same: plain facts.
-/
import Derived.Test.YtmokpnkpfodppaaOpF
import Derived.Test.YtmokpnkpfodppaaSentP
import Derived.Test.YtmokpnkpfodppaaDueP
namespace Go.Proofs.Ytmokpnkpfodppaa
set_option linter.unusedSimpArgs false
set_option linter.unusedVariables false
open Go.RowKit

def parOf (c : Cpy) : Par := ⟨c.due, c.num, c.m.sender, c.m.to, (encE (numMessage c.m)).1⟩
theorem ltP_parOf (x y : Cpy) : ltP (parOf x) (parOf y) = ltC x y := by
  rw [Bool.eq_iff_iff, ltP_iff]
  simp [ltC, parOf]
/-- a network and the reference's -/
structure Sim (N : Net) (s : RSt) : Prop where
  reps : N.reps = s.reps
  tick : N.tick = s.tick
  fates : N.fates = s.fates
  sent : N.sent = s.sent
  delivered : N.delivered = s.delivered
  lost : N.lost = s.lost
  made : N.copies = s.made
  nodup : N.cuts.Nodup
  cuts : ∀ p, p ∈ N.cuts ↔ p ∈ s.cuts
  fly : N.fly.Perm (s.flight.map parOf)
  enc : ∀ c ∈ s.flight, (encE (numMessage c.m)).2 = 0
theorem take_cons_drop {α : Type} (l : List α) (j : Nat) (h : j < l.length) : l.Perm (l[j] :: (l.take j ++ l.drop (j + 1))) := by
  have e : l = l.take j ++ l[j] :: l.drop (j + 1) := by rw [← List.drop_eq_getElem_cons h, List.take_append_drop]
  have := @List.perm_middle _ l[j] (l.take j) (l.drop (j + 1))
  rwa [← e] at this
theorem sim_first {p : Par} {S : List Par} {l : List Cpy} (hs : SortP (p :: S)) (hp : (p :: S).Perm (l.map parOf)) : ∃ j : Nat, firstR l = j ∧ ∃ hj : j < l.length, parOf l[j] = p ∧ S.Perm ((l.take j ++ l.drop (j + 1)).map parOf) := by
  rcases firstR_spec l with ⟨rfl, -⟩ | ⟨j, h1, h2, h3⟩
  · have := hp.length_eq
    simp at this
  · obtain ⟨c, hc, hcp⟩ := List.mem_map.1 (hp.mem_iff.1 (List.mem_cons_self ..))
    obtain ⟨k, hk, hkc⟩ := List.mem_iff_getElem.1 hc
    have hj : parOf l[j] ∈ p :: S := hp.mem_iff.2 (List.mem_map.2 ⟨_, List.getElem_mem h2, rfl⟩)
    have e : parOf l[j] = p := by
      rcases List.mem_cons.1 hj with e | hS
      · exact e
      · have hlt := (List.pairwise_cons.1 hs).1 _ hS
        rw [← hcp, ltP_parOf, ← hkc] at hlt
        have := h3 k hk
        simp only [List.getD, List.getElem?_eq_getElem hk, List.getElem?_eq_getElem h2, Option.getD_some] at this
        rw [this] at hlt
        cases hlt
    refine ⟨j, h1, h2, e, ?_⟩
    have h4 := hp.trans ((take_cons_drop l j h2).map parOf)
    rw [List.map_cons, e] at h4
    exact h4.cons_inv
theorem oneR_link {s : RSt} {i : Nat} {m : Message} (out : List Message) : oneR s out i m = if linkR s m.sender m.to then ({ popR s i with delivered := s.delivered + 1 }, out ++ [m]) else ({ popR s i with lost := s.lost + 1 }, out) := rfl
theorem del_sim (t n : Int) (cuts cuts' : List (Int × Int)) (hlk : ∀ s : RSt, s.reps = n → s.cuts = cuts' → ∀ a b, linkR s a b = linkedB n cuts a b) : ∀ (fly : List Par) (s : RSt) (out : List Message) (k : Nat), s.flight.length ≤ k → SortP fly → fly.Perm (s.flight.map parOf) → (∀ c ∈ s.flight, (encE (numMessage c.m)).2 = 0) → s.reps = n → s.cuts = cuts' →
    ∃ l', delR t k (s, out) = ({ s with flight := l', delivered := s.delivered + ((dueL t fly).filter fun p => linkedB n cuts p.frm p.dst).length, lost := s.lost + ((dueL t fly).filter fun p => !linkedB n cuts p.frm p.dst).length }, out ++ ((dueL t fly).filter fun p => linkedB n cuts p.frm p.dst).map msgOf) ∧
      (fly.drop (dueL t fly).length).Perm (l'.map parOf) ∧ ∀ c ∈ l', c ∈ s.flight
  | [], s, out, k, hk, hs, hp, he, h1, h2 => by
    have h0 : s.flight = [] := by
      have := hp.length_eq
      simp at this
      exact List.eq_nil_of_length_eq_zero this.symm
    refine ⟨[], ?_, by simp [dueL], fun c hc => by simp at hc⟩
    have hd : delR t k (s, out) = (s, out) := by
      cases k with
      | zero => rfl
      | succ k =>
        rw [delR, if_neg]
        rw [h0]
        rintro ⟨h, -⟩
        have : firstR [] = -1 := rfl
        omega
    rw [hd]
    obtain ⟨a1, a2, a3, a4, a5, a6, a7, a8, a9⟩ := s
    dsimp only at h0
    simp [dueL, h0]
  | p :: S, s, out, k, hk, hs, hp, he, h1, h2 => by
    obtain ⟨j, hf, hj, e, hperm⟩ := sim_first hs hp
    by_cases hd : p.due ≤ t
    · obtain ⟨k', rfl⟩ : ∃ k', k = k' + 1 := ⟨k - 1, by omega⟩
      have hdj : s.flight[j].due ≤ t := by rw [← e] at hd; exact hd
      rw [delR_go t s out hf hj hdj k', oneR_link, hlk s h1 h2]
      have hlen : (s.flight.take j ++ s.flight.drop (j + 1)).length ≤ k' := by simp; omega
      have hmem : ∀ c ∈ s.flight.take j ++ s.flight.drop (j + 1), c ∈ s.flight := fun c hc => by
        rcases List.mem_append.1 hc with h | h
        · exact List.mem_of_mem_take h
        · exact List.mem_of_mem_drop h
      have hdue : dueL t (p :: S) = p :: dueL t S := List.takeWhile_cons_of_pos (by simpa using hd)
      have hmsg : msgOf p = s.flight[j].m := by rw [← e]; exact msgOf_enc (he _ (List.getElem_mem hj)) _ _ _ _
      have hpf : p.frm = s.flight[j].m.sender ∧ p.dst = s.flight[j].m.to := by rw [← e]; exact ⟨rfl, rfl⟩
      rw [← hpf.1, ← hpf.2]
      cases hl : linkedB n cuts p.frm p.dst with
      | true =>
        rw [if_pos rfl]
        obtain ⟨l', h3, h4, h5⟩ := del_sim t n cuts cuts' hlk S { popR s j with delivered := s.delivered + 1 } (out ++ [s.flight[j].m]) k' hlen (List.pairwise_cons.1 hs).2 hperm (fun c hc => he c (hmem c hc)) h1 h2
        refine ⟨l', ?_, by rw [hdue]; simpa using h4, fun c hc => hmem c (h5 c hc)⟩
        rw [h3, hdue]
        simp [hl, popR, hmsg]
        omega
      | false =>
        rw [if_neg (by simp)]
        obtain ⟨l', h3, h4, h5⟩ := del_sim t n cuts cuts' hlk S { popR s j with lost := s.lost + 1 } out k' hlen (List.pairwise_cons.1 hs).2 hperm (fun c hc => he c (hmem c hc)) h1 h2
        refine ⟨l', ?_, by rw [hdue]; simpa using h4, fun c hc => hmem c (h5 c hc)⟩
        rw [h3, hdue]
        simp [hl, popR]
        omega
    · have hdj : ¬ s.flight[j].due ≤ t := by rw [← e] at hd; exact hd
      have hdue : dueL t (p :: S) = [] := List.takeWhile_cons_of_neg (by simpa using hd)
      refine ⟨s.flight, ?_, by rw [hdue]; simpa using hp, fun c hc => hc⟩
      rw [delR_stop t s out hf hj hdj k, hdue]
      simp
theorem hasC_iff (cuts : List (Int × Int)) (x y : Int) : hasC cuts x y = true ↔ (x, y) ∈ cuts := by
  simp only [hasC, List.any_eq_true]
  constructor
  · rintro ⟨c, hc, h⟩
    rw [isC_eq h] at hc
    exact hc
  · intro h
    exact ⟨_, h, by simp [isC]⟩
theorem cutIn_iff (cuts : List (Int × Int)) (a b : Int) : cutIn cuts a b = true ↔ (min a b, max a b) ∈ cuts := by
  simp [cutIn]
theorem linkR_eq {n : Int} {cuts : List (Int × Int)} {s : RSt} (hn : s.reps = n) (hc : ∀ p, p ∈ cuts ↔ p ∈ s.cuts) (a b : Int) : linkR s a b = linkedB n cuts a b := by
  have : cutIn s.cuts a b = hasC cuts (min a b) (max a b) := by
    rw [Bool.eq_iff_iff, cutIn_iff, hasC_iff]
    exact (hc _).symm
  rw [linkR, linkedB, hn, this]
theorem Sim.link {N : Net} {s : RSt} (h : Sim N s) (a b : Int) : linkR s a b = linkedB N.reps N.cuts a b := linkR_eq h.reps.symm h.cuts a b
theorem linkedB_symm (n : Int) (cuts : List (Int × Int)) (a b : Int) : linkedB n cuts a b = linkedB n cuts b a := by
  unfold linkedB
  rw [Int.min_comm, Int.max_comm]
  congr 1
  unfold pairB
  rw [Bool.eq_iff_iff]
  simp
  omega
theorem Sim.fate {N : Net} {s : RSt} (h : Sim N s) : fateR s = fateOf N := by rw [fateR, fateOf, h.fates, h.sent]
theorem Sim.flen {N : Net} {s : RSt} (h : Sim N s) : N.fly.length = s.flight.length := by rw [h.fly.length_eq, List.length_map]
theorem sim_deliver {N : Net} {s : RSt} (h : Sim N s) (hs : SortP N.fly) (t : Int) : Sim (deliverN N t).1 (deliverQ s t).1 ∧ (deliverN N t).2 = (deliverQ s t).2 := by
  unfold deliverN deliverQ
  rw [← h.tick]
  split
  · exact ⟨h, rfl⟩
  · obtain ⟨l', h1, h2, h3⟩ := del_sim t N.reps N.cuts s.cuts (fun s' e1 e2 a b => linkR_eq e1 (by rw [e2]; exact h.cuts) a b) N.fly { s with tick := t } [] s.flight.length (Nat.le_refl _) hs h.fly h.enc h.reps.symm rfl
    rw [h1]
    dsimp only
    refine ⟨⟨h.reps, rfl, h.fates, h.sent, ?_, ?_, h.made, h.nodup, h.cuts, h2, fun c hc => h.enc c (h3 c hc)⟩, ?_⟩
    · show N.delivered + _ = s.delivered + _
      rw [dueL_take, h.delivered]
      rfl
    · show N.lost + _ = s.lost + _
      rw [dueL_take, h.lost]
      rfl
    · rw [outK, dueL_take, List.nil_append]
      rfl
theorem putC_eq (cuts : List (Int × Int)) (x y : Int) : putC cuts x y = if (x, y) ∈ cuts then cuts else cuts ++ [(x, y)] := by
  unfold putC
  split
  · rename_i k hk
    rw [if_pos]
    obtain ⟨h1, h2, -⟩ := List.findIdx?_eq_some_iff_getElem.1 hk
    rw [← isC_eq h2]
    exact List.getElem_mem h1
  · rename_i hk
    rw [if_neg]
    intro h
    have := List.findIdx?_eq_none_iff.1 hk _ h
    simp [isC] at this
theorem delC_eq (cuts : List (Int × Int)) (x y : Int) : delC cuts x y = cuts.erase (x, y) := by
  unfold delC
  rw [List.erase_eq_eraseP, List.eraseP_eq_eraseIdx]
  have : cuts.findIdx? (isC x y) = cuts.findIdx? (fun c => (x, y) == c) := by
    congr 1
  rw [this]
  split <;> rename_i h <;> rw [h]
theorem sim_cut {N : Net} {s : RSt} (h : Sim N s) (a b : Int) : Sim (cutN N a b).1 (cutR s a b true).1 ∧ (cutN N a b).2 = (cutR s a b true).2 := by
  have hr := h.reps
  unfold cutN cutR
  rw [← h.reps]
  split
  · refine ⟨⟨rfl, h.tick, h.fates, h.sent, h.delivered, h.lost, h.made, ?_, fun p => ?_, h.fly, h.enc⟩, rfl⟩
    · show (putC _ _ _).Nodup
      rw [putC_eq]
      split
      · exact h.nodup
      · rename_i hn
        rw [List.nodup_append]
        refine ⟨h.nodup, by simp, fun p hp q hq e => ?_⟩
        simp only [List.mem_singleton] at hq
        subst hq e
        exact hn hp
    · show p ∈ putC _ _ _ ↔ p ∈ keepC s.cuts a b ++ _
      rw [putC_eq, if_pos rfl]
      simp only [keepC, List.mem_append, List.mem_filter, List.mem_singleton, Bool.not_eq_true', decide_eq_false_iff_not]
      rw [← h.cuts p]
      split
      · rename_i hi
        constructor
        · intro hp
          by_cases e : p = (min a b, max a b)
          · exact .inr e
          · exact .inl ⟨hp, e⟩
        · rintro (hp | rfl)
          · exact hp.1
          · exact hi
      · simp only [List.mem_append, List.mem_singleton]
        constructor
        · rintro (hp | hp)
          · by_cases e : p = (min a b, max a b)
            · exact .inr e
            · exact .inl ⟨hp, e⟩
          · exact .inr hp
        · rintro (hp | hp)
          · exact .inl hp.1
          · exact .inr hp
  · exact ⟨h, rfl⟩
theorem sim_heal {N : Net} {s : RSt} (h : Sim N s) (a b : Int) : Sim (healN N a b).1 (cutR s a b false).1 ∧ (healN N a b).2 = (cutR s a b false).2 := by
  unfold healN cutR
  rw [← h.reps]
  split
  · refine ⟨⟨rfl, h.tick, h.fates, h.sent, h.delivered, h.lost, h.made, ?_, fun p => ?_, h.fly, h.enc⟩, rfl⟩
    · show (delC _ _ _).Nodup
      rw [delC_eq]
      exact h.nodup.erase _
    · show p ∈ delC _ _ _ ↔ p ∈ keepC s.cuts a b ++ _
      rw [delC_eq, h.nodup.mem_erase_iff]
      simp only [keepC, List.mem_append, List.mem_filter, Bool.not_eq_true', decide_eq_false_iff_not]
      rw [← h.cuts p]
      simp
      exact ⟨fun h => ⟨h.2, h.1⟩, fun h => ⟨h.2, h.1⟩⟩
  · exact ⟨h, rfl⟩
theorem Sim.add {N : Net} {s : RSt} (h : Sim N s) (m : Message) (t dl : Int) (hd : dl ≠ 0) (he : (encE (numMessage m)).2 = 0) : Sim (addC t m (encE (numMessage m)).1 N dl) { s with flight := s.flight ++ [⟨t + dl, s.made, m⟩], made := s.made + 1 } := by
  unfold addC
  rw [if_pos hd]
  refine ⟨h.reps, h.tick, h.fates, h.sent, h.delivered, h.lost, by show N.copies + 1 = s.made + 1; rw [h.made], h.nodup, h.cuts, ?_, fun c hc => ?_⟩
  · show (insP _ N.fly).Perm _
    refine (insP_perm _ _).trans ?_
    rw [List.map_append, h.made]
    exact (h.fly.cons _).trans (List.perm_append_singleton _ _).symm
  · rcases List.mem_append.1 hc with hc | hc
    · exact h.enc c hc
    · simp only [List.mem_singleton] at hc
      subst hc
      exact he
theorem sim_full {N : Net} {s : RSt} (h : Sim N s) (ok : OkN N) (m : Message) : fullR s m = fullB N m := by
  have hv := validF_bounds (fateOf_valid ok)
  have hl : lostR s m = lostB N m := by rw [lostR, lostB, h.fate, h.link]
  unfold fullR fullB cntR
  rw [h.flen, hl, h.fate]
  generalize fateOf N = f at *
  rw [Bool.eq_iff_iff]
  cases lostB N m with
  | true => simp; omega
  | false =>
    by_cases hg : 0 < f.again
    · have : f.again ≠ 0 := by omega
      simp [hg, this]
      omega
    · have : f.again = 0 := by omega
      simp [this]
      omega
theorem sim_send {N : Net} {s : RSt} (h : Sim N s) (ok : OkN N) (m : Message) (t : Int) : Sim (sendN N m t).1 (sendQ s m t).1 ∧ (sendN N m t).2 = (sendQ s m t).2 := by
  have hv := validF_bounds (fateOf_valid ok)
  have hl : lostR s m = lostB N m := by rw [lostR, lostB, h.fate, h.link]
  unfold sendN sendQ
  rw [← h.reps, ← h.tick, sim_full h ok, hl, h.fate]
  split
  · exact ⟨h, rfl⟩
  · split
    · exact ⟨h, rfl⟩
    · split
      · exact ⟨h, rfl⟩
      · rename_i he
        have he0 : (encE (numMessage m)).2 = 0 := by simpa using he
        split
        · exact ⟨h, rfl⟩
        · split
          · exact ⟨⟨rfl, rfl, h.fates, by show N.sent + 1 = s.sent + 1; rw [h.sent], h.delivered, by show N.lost + 1 = s.lost + 1; rw [h.lost], h.made, h.nodup, h.cuts, h.fly, h.enc⟩, rfl⟩
          · rename_i hnl
            refine ⟨?_, rfl⟩
            have hnl' : lostB N m = false := by simpa using hnl
            have hdrop : (fateOf N).drop = false := by
              unfold lostB at hnl'
              simp only [Bool.or_eq_false_iff] at hnl'
              exact hnl'.1
            have h1 : Sim (sent1 N t) { s with tick := t, sent := s.sent + 1 } := ⟨h.reps, rfl, h.fates, by show N.sent + 1 = s.sent + 1; rw [h.sent], h.delivered, h.lost, h.made, h.nodup, h.cuts, h.fly, h.enc⟩
            have hd := hv.2.2.2.2 hdrop
            have h2 := h1.add m t (fateOf N).delay (by omega) he0
            have hc : cntR s m = if 0 < (fateOf N).again then 2 else 1 := by rw [cntR, hl, hnl', h.fate]; rfl
            simp only [List.foldl_cons, List.foldl_nil]
            by_cases hg : 0 < (fateOf N).again
            · rw [hc, if_pos hg, if_pos rfl]
              have h3 := h2.add m t (fateOf N).again (by omega) he0
              rw [List.append_assoc] at h3
              have e : s.made + 1 + 1 = s.made + ((2 : Nat) : Int) := by omega
              dsimp only at h3
              rw [e, ← h.reps] at h3
              exact h3
            · rw [hc, if_neg hg, if_neg (by omega)]
              have : (fateOf N).again = 0 := by omega
              rw [this, addC, if_neg (by simp), List.append_nil]
              rw [← h.reps] at h2
              exact h2
def doR (s : RSt) (x : Cmd) : RSt × List Message × Int :=
  if x.kind = 0 then ((sendQ s x.m x.tick).1, [], (sendQ s x.m x.tick).2)
  else if x.kind = 1 then deliverQ s x.tick
  else if x.kind = 2 then ((cutR s x.a x.b true).1, [], (cutR s x.a x.b true).2)
  else if x.kind = 3 then ((cutR s x.a x.b false).1, [], (cutR s x.a x.b false).2)
  else (s, [], 0)
theorem sim_do {N : Net} {s : RSt} (h : Sim N s) (ok : OkN N) (hs : SortP N.fly) (x : Cmd) : Sim (doN N x).1 (doR s x).1 ∧ (doN N x).2 = (doR s x).2 := by
  unfold doN doR
  split
  · obtain ⟨h1, h2⟩ := sim_send h ok x.m x.tick
    exact ⟨h1, by rw [h2]⟩
  · split
    · exact sim_deliver h hs x.tick
    · split
      · obtain ⟨h1, h2⟩ := sim_cut h x.a x.b
        exact ⟨h1, by rw [h2]⟩
      · split
        · obtain ⟨h1, h2⟩ := sim_heal h x.a x.b
          exact ⟨h1, by rw [h2]⟩
        · exact ⟨h, rfl⟩
theorem sim_new (r : Int) (fs : List Fate) : Sim (newN r fs) { zSt with reps := r, fates := fs } :=
  ⟨rfl, rfl, rfl, rfl, rfl, rfl, rfl, List.nodup_nil, fun _ => Iff.rfl, List.Perm.nil, fun c hc => by simp [zSt] at hc⟩
theorem newOk_bad (r : Int) (fs : List Fate) : newOkB r fs = !badNew r fs := by
  unfold newOkB badNew
  rw [Bool.eq_iff_iff]
  simp
theorem sim_next {N : Net} {s : RSt} (h : Sim N s) (hs : SortP N.fly) : nextQ s.flight = nextR N := by
  unfold nextR nextQ
  cases hf : N.fly with
  | nil =>
    have h0 := h.flen
    rw [hf] at h0
    have h0 : s.flight = [] := List.eq_nil_of_length_eq_zero h0.symm
    rw [h0]
    rfl
  | cons p S =>
    have hp := h.fly
    rw [hf] at hs hp
    obtain ⟨j, h1, hj, e, -⟩ := sim_first hs hp
    rw [h1, if_neg (by omega), Int.toNat_natCast, ← e]
    simp [List.getD, List.getElem?_eq_getElem hj, parOf]
theorem Sim.okR {N : Net} {s : RSt} (h : Sim N s) (ok : OkN N) (hf : Few N) (hc : s.cuts.length ≤ 1000000) : OkR s := by
  obtain ⟨f1, f2, f3, f4⟩ := hf
  obtain ⟨p1, p2, p3, p4⟩ := ok.pos
  exact ⟨h.tick ▸ ok.tick, by rw [← h.sent]; exact ⟨p2, f2⟩, by rw [← h.delivered]; exact ⟨p3, f3⟩, by rw [← h.lost]; exact ⟨p4, f4⟩, by rw [← h.made]; exact ⟨p1, f1⟩, by rw [← h.fates]; exact ok.fv, by rw [← h.flen]; have := ok.len; omega, hc⟩
theorem doR_cuts (s : RSt) (x : Cmd) : (doR s x).1.cuts.length ≤ s.cuts.length + 1 := by
  have hk : ∀ a b, (keepC s.cuts a b).length ≤ s.cuts.length := fun a b => List.length_filter_le _ _
  unfold doR
  split
  · unfold sendQ
    repeat' split
    all_goals exact Nat.le_succ _
  · split
    · unfold deliverQ
      split
      · exact Nat.le_succ _
      · have : ∀ (k : Nat) (t : Int) (p : RSt × List Message), (delR t k p).1.cuts = p.1.cuts := by
          intro k t
          induction k with
          | zero => exact fun p => rfl
          | succ k ih =>
            rintro ⟨s, out⟩
            rw [delR]
            split
            · rw [ih]
              unfold oneR
              split <;> rfl
            · rfl
        show (delR _ _ _).1.cuts.length ≤ _
        rw [this]
        exact Nat.le_succ _
    · split
      · unfold cutR
        have := hk x.a x.b
        split
        · show (keepC _ _ _ ++ _).length ≤ _
          simp
          exact this
        · exact Nat.le_succ _
      · split
        · unfold cutR
          have := hk x.a x.b
          split
          · show (keepC _ _ _ ++ _).length ≤ _
            simp
            omega
          · exact Nat.le_succ _
        · exact Nat.le_succ _
end Go.Proofs.Ytmokpnkpfodppaa
