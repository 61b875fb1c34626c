
/-
The reference of the broker, plain: requests in order; giving away.
-/
import Derived.Test.YtbcekihjcgnhkaaBkM
namespace Go.Proofs.Ytbcekihjcgnhkaa
set_option linter.unusedSimpArgs false
set_option linter.unusedVariables false

/-- what a replica has asked for last -/
def hd (H : Int → Option Ak) (k : Nat) : Ak := (H (k : Int)).getD zAk
def hdL (H : Int → Option Ak) (n : Nat) : List Ak := (List.range n).map (hd H)
theorem hdL_len (H : Int → Option Ak) (n : Nat) : (hdL H n).length = n := by simp [hdL]
theorem hdL_at (H : Int → Option Ak) {n k : Nat} (hk : k < n) : (hdL H n)[k]'(by rw [hdL_len]; exact hk) = hd H k := by simp [hdL]
theorem hdL_new (n : Nat) : hdL (fun _ => none) n = List.replicate n zAk := by
  unfold hdL hd
  rw [List.eq_replicate_iff]
  simp
theorem hd_set (H : Int → Option Ak) (k j : Nat) (a : Ak) : hd (setH H (k : Int) a) j = if j = k then a else hd H j := by
  unfold hd setH
  by_cases h : j = k
  · subst h; simp
  · rw [if_neg h, if_neg (by omega)]
theorem hdL_set (H : Int → Option Ak) {n k : Nat} (a : Ak) (hk : k < n) : hdL (setH H (k : Int) a) n = (hdL H n).set k a := by
  apply List.ext_getElem
  · rw [List.length_set, hdL_len, hdL_len]
  · intro j h1 h2
    rw [hdL_len] at h1
    rw [hdL_at _ h1, List.getElem_set, hd_set]
    by_cases h : k = j
    · subst h; simp
    · rw [if_neg h, if_neg (fun e => h e.symm), hdL_at _ h1]
/-! requests in order -/
/-- the replicas below r that ask, in the order of what they ask for -/
structure OrI (b : Bk) (r : Nat) (out : List Nat) : Prop where
  srt : SortA (out.map (hd b.heard))
  mem : ∀ x, x ∈ out ↔ x < r ∧ (hd b.heard x).needs.length ≠ 0
theorem hd_some {b : Bk} {x : Nat} (h : (hd b.heard x).needs.length ≠ 0) : b.heard (x : Int) = some (hd b.heard x) := by
  unfold hd at h ⊢
  cases hb : b.heard (x : Int) with
  | none => rw [hb] at h; exact absurd rfl h
  | some a => rfl
theorem OrI.nil (b : Bk) : OrI b 0 [] := ⟨List.Pairwise.nil, fun x => by simp⟩
theorem OrI.skip {b : Bk} {r : Nat} {out : List Nat} (h : OrI b r out) (hn : (hd b.heard r).needs.length = 0) : OrI b (r + 1) out :=
  ⟨h.srt, fun x => by
    rw [h.mem x]
    constructor
    · rintro ⟨h1, h2⟩; exact ⟨by omega, h2⟩
    · rintro ⟨h1, h2⟩
      refine ⟨?_, h2⟩
      by_cases e : x = r
      · subst e; exact absurd hn h2
      · omega⟩
theorem hd_pri {b : Bk} (ok : OkB b) {x : Nat} (h : (hd b.heard x).needs.length ≠ 0) : (hd b.heard x).pri.2.2.1 = (x : Int) :=
  (validA_of (ok.key _ _ (hd_some h)).2.2.2 (by unfold hasN; exact decide_eq_true h)).1
theorem OrI.ins {b : Bk} (ok : OkB b) {r k : Nat} {out : List Nat} (h : OrI b r out) (hn : (hd b.heard r).needs.length ≠ 0) (hk : k ≤ out.length)
    (hg : ∀ j (h1 : j < out.length), k ≤ j → lessB (hd b.heard r).pri (hd b.heard out[j]).pri = true) (hl : ∀ (h1 : 0 < k), lessB (hd b.heard r).pri (hd b.heard (out[k - 1]'(by omega))).pri = false) :
    OrI b (r + 1) (out.take k ++ r :: out.drop k) := by
  have hs := h.srt
  unfold SortA at hs
  rw [List.pairwise_map] at hs
  have hsplit := List.take_append_drop k out
  have hlt : ∀ x ∈ out.take k, lessB (hd b.heard x).pri (hd b.heard r).pri = true := fun x hx => by
    obtain ⟨i, hi, rfl⟩ := List.getElem_of_mem hx
    rw [List.length_take] at hi
    have hk0 : 0 < k := by omega
    rw [List.getElem_take]
    have h1 := hl hk0
    have hmr : ∀ y ∈ out, (hd b.heard y).pri ≠ (hd b.heard r).pri := fun y hy e => by
      obtain ⟨h2, h3⟩ := (h.mem y).1 hy
      have e1 := hd_pri ok h3
      have e2 := hd_pri ok hn
      rw [e, e2] at e1
      omega
    have h4 : lessB (hd b.heard (out[k - 1]'(by omega))).pri (hd b.heard r).pri = true := by
      cases h5 : lessB (hd b.heard (out[k - 1]'(by omega))).pri (hd b.heard r).pri with
      | true => rfl
      | false => exact absurd (lessB_total h5 h1) (hmr _ (List.getElem_mem _))
    by_cases e : i = k - 1
    · subst e; exact h4
    · exact lessB_trans (List.pairwise_iff_getElem.1 hs i (k - 1) (by omega) (by omega) (by omega)) h4
  have hgt : ∀ x ∈ out.drop k, lessB (hd b.heard r).pri (hd b.heard x).pri = true := fun x hx => by
    obtain ⟨i, hi, rfl⟩ := List.getElem_of_mem hx
    rw [List.length_drop] at hi
    rw [List.getElem_drop]
    exact hg _ _ (by omega)
  rw [← hsplit, List.pairwise_append] at hs
  obtain ⟨s1, s2, s3⟩ := hs
  refine ⟨?_, fun x => ?_⟩
  · unfold SortA
    rw [List.pairwise_map, List.pairwise_append, List.pairwise_cons]
    refine ⟨s1, ⟨hgt, s2⟩, fun x hx y hy => ?_⟩
    rcases List.mem_cons.1 hy with rfl | hy
    · exact hlt x hx
    · exact s3 x hx y hy
  · have hm := h.mem x
    rw [← hsplit, List.mem_append] at hm
    rw [List.mem_append, List.mem_cons]
    constructor
    · rintro (h1 | rfl | h1)
      · have := hm.1 (.inl h1); exact ⟨by omega, this.2⟩
      · exact ⟨by omega, hn⟩
      · have := hm.1 (.inr h1); exact ⟨by omega, this.2⟩
    · rintro ⟨h1, h2⟩
      by_cases e : x = r
      · exact .inr (.inl e)
      · rcases hm.2 ⟨by omega, h2⟩ with h3 | h3
        · exact .inl h3
        · exact .inr (.inr h3)
theorem OrI.done {b : Bk} (ok : OkB b) {out : List Nat} (h : OrI b b.n.toNat out) : out.map (hd b.heard) = reqL b := by
  refine sort_ext h.srt (reqL_sort ok) fun x => ?_
  rw [mem_reqL ok, List.mem_map]
  constructor
  · rintro ⟨k, hk, rfl⟩
    obtain ⟨h1, h2⟩ := (h.mem k).1 hk
    refine ⟨by unfold hasN; exact decide_eq_true h2, ?_⟩
    rw [hd_pri ok h2]
    exact hd_some h2
  · rintro ⟨h1, h2⟩
    have hk := ok.key _ _ h2
    have e : ((x.pri.2.2.1.toNat : Nat) : Int) = x.pri.2.2.1 := Int.toNat_of_nonneg hk.1
    have e2 : hd b.heard x.pri.2.2.1.toNat = x := by unfold hd; rw [e, h2]; rfl
    refine ⟨x.pri.2.2.1.toNat, (h.mem _).2 ⟨by omega, ?_⟩, e2⟩
    rw [e2]
    unfold hasN at h1
    exact of_decide_eq_true h1
/-! less of a right -/
def woN : List Nd → Rt → Int → List Nd
  | [], _, _ => []
  | y :: l, x, n => if y.1 = x then (if 0 < y.2 - n then (y.1, y.2 - n) :: woN l x n else woN l x n) else (if 0 < y.2 then y :: woN l x n else woN l x n)
theorem woN_app (x : Rt) (n : Int) : ∀ a b : List Nd, woN (a ++ b) x n = woN a x n ++ woN b x n
  | [], _ => rfl
  | y :: a, b => by
    rw [List.cons_append, woN, woN, woN_app x n a b]
    split <;> split <;> simp
def posN (l : List Nd) : Prop := ∀ z ∈ l, 1 ≤ z.2
theorem woN_skip (x : Rt) (n : Int) : ∀ l : List Nd, x ∉ l.map (·.1) → posN l → woN l x n = l
  | [], _, _ => rfl
  | y :: l, h, hp => by
    rw [List.map_cons, List.mem_cons, not_or] at h
    have := hp y (by simp)
    rw [woN, if_neg (fun e => h.1 e.symm), if_pos (by omega), woN_skip x n l h.2 (fun z hz => hp z (by simp [hz]))]
theorem woN_mem {x : Rt} {n : Int} : ∀ {l : List Nd} {z : Nd}, z ∈ woN l x n → z.1 ∈ l.map (·.1) ∧ 0 < z.2
  | [], z, h => by simp [woN] at h
  | y :: l, z, h => by
    rw [woN] at h
    rw [List.map_cons, List.mem_cons]
    split at h
    · split at h
      · rcases List.mem_cons.1 h with rfl | h
        · exact ⟨.inl rfl, by assumption⟩
        · exact ⟨.inr (woN_mem h).1, (woN_mem h).2⟩
      · exact ⟨.inr (woN_mem h).1, (woN_mem h).2⟩
    · split at h
      · rcases List.mem_cons.1 h with rfl | h
        · exact ⟨.inl rfl, by assumption⟩
        · exact ⟨.inr (woN_mem h).1, (woN_mem h).2⟩
      · exact ⟨.inr (woN_mem h).1, (woN_mem h).2⟩
theorem woN_nodup {x : Rt} {n : Int} : ∀ {l : List Nd}, (l.map (·.1)).Nodup → ((woN l x n).map (·.1)).Nodup
  | [], _ => by simp [woN]
  | y :: l, h => by
    rw [List.map_cons, List.nodup_cons] at h
    have ih := woN_nodup (x := x) (n := n) h.2
    have hn : y.1 ∉ (woN l x n).map (·.1) := fun hm => by
      obtain ⟨z, hz, e⟩ := List.mem_map.1 hm
      exact h.1 (by rw [← e]; exact (woN_mem hz).1)
    rw [woN]
    split
    · split
      · rw [List.map_cons, List.nodup_cons]; exact ⟨hn, ih⟩
      · exact ih
    · split
      · rw [List.map_cons, List.nodup_cons]; exact ⟨hn, ih⟩
      · exact ih
theorem woN_pos {x : Rt} {n : Int} (l : List Nd) : posN (woN l x n) := fun z hz => by have := (woN_mem hz).2; omega
theorem amt_out (x : Rt) : ∀ l : List Nd, x ∉ l.map (·.1) → amt l x = 0
  | [], _ => rfl
  | y :: l, h => by
    rw [List.map_cons, List.mem_cons, not_or] at h
    rw [amt_cons, if_neg (fun e => h.1 e.symm), amt_out x l h.2]
theorem amt_wo {x : Rt} {n : Int} : ∀ {l : List Nd}, (l.map (·.1)).Nodup → posN l → 0 < n → n ≤ amt l x → amt (woN l x n) = setF (amt l) x (amt l x - n)
  | [], _, _, h1, h2 => by
    have h0 : amt ([] : List Nd) x = 0 := rfl
    omega
  | y :: l, hd, hp, h1, h2 => by
    rw [List.map_cons, List.nodup_cons] at hd
    have hp2 : posN l := fun z hz => hp z (by simp [hz])
    have hy := hp y (by simp)
    funext z
    rw [woN]
    by_cases e : y.1 = x
    · rw [amt_cons, if_pos e] at h2
      have hs : woN l x n = l := woN_skip x n l (by rw [← e]; exact hd.1) hp2
      rw [if_pos e, hs]
      unfold setF
      by_cases ez : z = x
      · rw [if_pos ez, ez]
        split
        · rw [amt_cons, if_pos e, amt_cons, if_pos e]
        · rw [amt_cons, if_pos e, amt_out x l (by rw [← e]; exact hd.1)]; omega
      · rw [if_neg ez]
        split
        · rw [amt_cons, amt_cons, if_neg (fun e2 => ez (e2.symm.trans e)), if_neg (fun e2 => ez (e2.symm.trans e))]
        · rw [amt_cons, if_neg (fun e2 => ez (e2.symm.trans e))]
    · rw [amt_cons, if_neg e] at h2
      have ih := amt_wo hd.2 hp2 h1 h2
      rw [if_neg e, if_pos (by omega), amt_cons, ih]
      unfold setF
      by_cases ez : z = x
      · rw [if_pos ez, ez, if_neg e, if_pos rfl, amt_cons, if_neg e]
      · rw [if_neg ez, if_neg ez, amt_cons]
/-! giving away, entry by entry -/
structure HasOk (l : List Nd) : Prop where
  nd : (l.map (·.1)).Nodup
  pos : posN l
  le : ∀ z ∈ l, z.2 ≤ 1000000
theorem validL_has {l : List Nd} (h : validL l = true) : HasOk l := by
  obtain ⟨h1, h2, -⟩ := (validL_iff l).1 h
  refine ⟨h2, fun z hz => ?_, fun z hz => ?_⟩
  · exact (okNd_amt (h1 z hz)).1
  · exact (okNd_amt (h1 z hz)).2
theorem woN_le {x : Rt} {n : Int} (hn : 0 < n) : ∀ {l : List Nd}, (∀ z ∈ l, z.2 ≤ 1000000) → ∀ z ∈ woN l x n, z.2 ≤ 1000000
  | [], _, z, hz => by simp [woN] at hz
  | y :: l, h, z, hz => by
    have hy := h y (by simp)
    have hl : ∀ z ∈ l, z.2 ≤ 1000000 := fun z hz => h z (by simp [hz])
    rw [woN] at hz
    split at hz
    · split at hz
      · rcases List.mem_cons.1 hz with rfl | hz
        · dsimp only; omega
        · exact woN_le hn hl z hz
      · exact woN_le hn hl z hz
    · split at hz
      · rcases List.mem_cons.1 hz with rfl | hz
        · exact hy
        · exact woN_le hn hl z hz
      · exact woN_le hn hl z hz
theorem HasOk.wo {l : List Nd} (h : HasOk l) {x : Rt} {n : Int} (hn : 0 < n) : HasOk (woN l x n) := ⟨woN_nodup h.nd, woN_pos l, woN_le hn h.le⟩
theorem HasOk.amt {l : List Nd} (h : HasOk l) (x : Rt) : 0 ≤ amt l x ∧ amt l x ≤ 1000000 := by
  have : ∀ l : List Nd, posN l → (∀ z ∈ l, z.2 ≤ 1000000) → 0 ≤ Go.Proofs.Ytbcekihjcgnhkaa.amt l x ∧ Go.Proofs.Ytbcekihjcgnhkaa.amt l x ≤ 1000000 := fun l => by
    induction l with
    | nil => intro _ _; exact ⟨Int.le_refl _, by show (0 : Int) ≤ 1000000; decide⟩
    | cons y l ih =>
      intro h1 h2
      rw [amt_cons]
      have a1 := h1 y (by simp)
      have a2 := h2 y (by simp)
      split
      · exact ⟨by omega, a2⟩
      · exact ih (fun z hz => h1 z (by simp [hz])) (fun z hz => h2 z (by simp [hz]))
  exact this l h.pos h.le
structure GvI (kp : Rt → Int) (tg : Int) (needs : List Nd) (f0 : Rt → Int) (k : Nat) (has cur : List Nd) (gs : List Gr) : Prop where
  ok : HasOk has
  ex : ∃ done : List Nd, cur = noZ done ++ needs.drop k ∧ done.map (·.1) = (needs.take k).map (·.1) ∧ (∀ z ∈ done, 0 ≤ z.2) ∧
    give1 kp tg f0 needs = ((give1 kp tg (amt has) (needs.drop k)).1, done ++ (give1 kp tg (amt has) (needs.drop k)).2.1, gs ++ (give1 kp tg (amt has) (needs.drop k)).2.2)
theorem GvI.start {kp : Rt → Int} {tg : Int} {needs has : List Nd} (h : HasOk has) : GvI kp tg needs (amt has) 0 has needs [] :=
  ⟨h, [], by simp [noZ], by simp, by simp, by simp⟩
theorem noZ_app (a b : List Nd) : noZ (a ++ b) = noZ a ++ noZ b := by unfold noZ; rw [List.filter_append]
theorem GvI.keep {kp : Rt → Int} {tg : Int} {needs has cur : List Nd} {f0 : Rt → Int} {k : Nat} {gs : List Gr} (h : GvI kp tg needs f0 k has cur gs) (hk : k < needs.length) (hp : posN needs) (hm : min (amt has needs[k].1 - kp needs[k].1) needs[k].2 ≤ 0) :
    GvI kp tg needs f0 (k + 1) has cur gs := by
  obtain ⟨done, h1, h2, h3, h4⟩ := h.ex
  have hx := hp needs[k] (List.getElem_mem hk)
  have hd := List.drop_eq_getElem_cons hk
  refine ⟨h.ok, done ++ [needs[k]], ?_, ?_, ?_, ?_⟩
  · rw [h1, hd, noZ_app]
    have : noZ [needs[k]] = [needs[k]] := by unfold noZ; rw [List.filter_cons_of_pos (by simp; omega), List.filter_nil]
    rw [this, List.append_assoc]
    rfl
  · rw [List.map_append, h2, List.take_succ_eq_append_getElem hk, List.map_append]
    try rfl
  · intro z hz
    rcases List.mem_append.1 hz with hz | hz
    · exact h3 z hz
    · rw [List.mem_singleton] at hz
      subst hz
      omega
  · rw [h4, hd, give1_le hm]
    simp
theorem GvI.give {kp : Rt → Int} {tg : Int} {needs has cur : List Nd} {f0 : Rt → Int} {k : Nat} {gs : List Gr} {m : Int} (h : GvI kp tg needs f0 k has cur gs) (hk : k < needs.length) (hp : posN needs) (hnd : (needs.map (·.1)).Nodup) (hkp : 0 ≤ kp needs[k].1)
    (hm : min (amt has needs[k].1 - kp needs[k].1) needs[k].2 = m) (hm0 : 0 < m) : GvI kp tg needs f0 (k + 1) (woN has needs[k].1 m) (woN cur needs[k].1 m) (gs ++ [(tg, needs[k].1, m)]) := by
  obtain ⟨done, h1, h2, h3, h4⟩ := h.ex
  have hx := hp needs[k] (List.getElem_mem hk)
  have hd := List.drop_eq_getElem_cons hk
  have hle : m ≤ needs[k].2 ∧ m ≤ amt has needs[k].1 := by omega
  have hnd2 : (needs.take k).map (·.1) ++ (needs[k].1 :: (needs.drop (k + 1)).map (·.1)) = needs.map (·.1) := by
    have : needs[k].1 :: (needs.drop (k + 1)).map (·.1) = (needs.drop k).map (·.1) := by rw [hd]; rfl
    rw [this, ← List.map_append, List.take_append_drop]
  rw [← hnd2, List.nodup_append, List.nodup_cons] at hnd
  obtain ⟨n1, ⟨n2, n3⟩, n4⟩ := hnd
  have hdn : needs[k].1 ∉ (noZ done).map (·.1) := fun hm2 => by
    obtain ⟨z, hz, e⟩ := List.mem_map.1 hm2
    have hz' : z ∈ done := by unfold noZ at hz; exact (List.mem_filter.1 hz).1
    have : needs[k].1 ∈ (needs.take k).map (·.1) := by rw [← h2, ← e]; exact List.mem_map.2 ⟨z, hz', rfl⟩
    exact n4 _ this _ (by simp) rfl
  have hpn : posN (noZ done) := fun z hz => by
    unfold noZ at hz
    obtain ⟨hz1, hz2⟩ := List.mem_filter.1 hz
    have := h3 z hz1
    simp at hz2
    omega
  have hpd : posN (needs.drop (k + 1)) := fun z hz => hp z (List.mem_of_mem_drop hz)
  refine ⟨h.ok.wo hm0, done ++ [(needs[k].1, needs[k].2 - m)], ?_, ?_, ?_, ?_⟩
  · rw [h1, hd, woN_app, woN_skip _ _ _ hdn hpn, woN, if_pos rfl, woN_skip _ _ _ n2 hpd, noZ_app]
    by_cases h0 : 0 < needs[k].2 - m
    · have : noZ [(needs[k].1, needs[k].2 - m)] = [(needs[k].1, needs[k].2 - m)] := by unfold noZ; rw [List.filter_cons_of_pos (by simp; omega), List.filter_nil]
      rw [if_pos h0, this, List.append_assoc]
      rfl
    · have : noZ [(needs[k].1, needs[k].2 - m)] = [] := by unfold noZ; rw [List.filter_cons_of_neg (by simp; omega), List.filter_nil]
      rw [if_neg h0, this, List.append_nil]
  · rw [List.map_append, h2, List.take_succ_eq_append_getElem hk, List.map_append]
    try rfl
  · intro z hz
    rcases List.mem_append.1 hz with hz | hz
    · exact h3 z hz
    · rw [List.mem_singleton] at hz
      subst hz
      dsimp only
      omega
  · rw [h4, hd, give1_gt hm (by omega), amt_wo h.ok.nd h.ok.pos hm0 hle.2]
    simp
theorem GvI.done {kp : Rt → Int} {tg : Int} {needs has cur : List Nd} {f0 : Rt → Int} {gs : List Gr} (h : GvI kp tg needs f0 needs.length has cur gs) : (give1 kp tg f0 needs).1 = amt has ∧ noZ (give1 kp tg f0 needs).2.1 = cur ∧ (give1 kp tg f0 needs).2.2 = gs := by
  obtain ⟨done, h1, h2, h3, h4⟩ := h.ex
  rw [List.drop_length] at h1 h4
  rw [h4, h1]
  simp [give1]
/-- between two requests that are answered -/
structure GvO (b : Bk) (has0 : List Nd) (i : Nat) (has : List Nd) (H : Int → Option Ak) (gs : List Gr) : Prop where
  ok : HasOk has
  eq : giveA b.own (amt has0) b.heard (reqL b) = ((giveA b.own (amt has) H ((reqL b).drop i)).1, gs ++ (giveA b.own (amt has) H ((reqL b).drop i)).2)
  hd : ∀ j (h : j < (reqL b).length), i ≤ j → H (reqL b)[j].pri.2.2.1 = some (reqL b)[j]
theorem GvO.start {b : Bk} (ok : OkB b) {has : List Nd} (h : HasOk has) : GvO b has 0 has b.heard [] :=
  ⟨h, by simp, fun j hj _ => ((mem_reqL ok _).1 (List.getElem_mem hj)).2⟩
theorem req_apart {b : Bk} (ok : OkB b) {i j : Nat} (hj : j < (reqL b).length) (hij : i < j) : (reqL b)[j].pri.2.2.1 ≠ ((reqL b)[i]'(by omega)).pri.2.2.1 := fun e => by
  have h1 := ((mem_reqL ok _).1 (List.getElem_mem hj)).2
  have h2 := ((mem_reqL ok _).1 (List.getElem_mem (show i < (reqL b).length by omega))).2
  rw [e, h2] at h1
  injection h1 with h1
  have h3 := reqL_sort ok
  unfold SortA at h3
  have h4 := List.pairwise_iff_getElem.1 h3 i j (by omega) hj hij
  rw [h1, lessB_irrefl] at h4
  cases h4
theorem GvO.step {b : Bk} (ok : OkB b) {has0 has has' cur : List Nd} {i : Nat} {H : Int → Option Ak} {gs g2 : List Gr} (h : GvO b has0 i has H gs) (hi : i < (reqL b).length)
    (hG : GvI (fun x => keeps b.own x (reqL b)[i].pri) (reqL b)[i].pri.2.2.1 (reqL b)[i].needs (amt has) (reqL b)[i].needs.length has' cur g2) :
    GvO b has0 (i + 1) has' (setH H (reqL b)[i].pri.2.2.1 { (reqL b)[i] with needs := cur }) (gs ++ g2) := by
  obtain ⟨d1, d2, d3⟩ := hG.done
  refine ⟨hG.ok, ?_, fun j hj hij => ?_⟩
  · rw [h.eq, List.drop_eq_getElem_cons hi, giveA]
    simp only [d1, d2, d3, List.append_assoc]
  · unfold setH
    rw [if_neg (req_apart ok hj (by omega))]
    exact h.hd j hj (by omega)
theorem GvO.done {b : Bk} {has0 has : List Nd} {H : Int → Option Ak} {gs : List Gr} (h : GvO b has0 (reqL b).length has H gs) (hv : validL has0 = true) : grants b has0 = ({ b with heard := H }, gs) := by
  have he := h.eq
  rw [List.drop_length] at he
  unfold grants
  rw [hv, if_neg (by simp)]
  simp only [he, giveA, List.append_nil]
end Go.Proofs.Ytbcekihjcgnhkaa
