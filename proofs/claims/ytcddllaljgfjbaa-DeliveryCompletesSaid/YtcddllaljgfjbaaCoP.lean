
/-
What a buffer has delivered when all of a closed set has arrived. No program here.
-/
import Derived.Test.YtcddllaljgfjbaaSK
namespace Go.Proofs.Ytcddllaljgfjbaa
set_option linter.unusedSimpArgs false
set_option linter.unusedVariables false
open Go.RowKit

/-- a state, and all that was delivered on the way -/
structure CoS (l : List Ev) (c0 : List Int) (T : Ev → Prop) (s : BfS) (G : List Ev) : Prop where
  sk : SkS l c0 T s
  ch : ChainE c0.length c0 G s.1
  sub : ∀ x ∈ G, x ∈ l
theorem CoS.start {l : List Ev} {c0 : List Int} (hv : validC c0 = true) (hw : ∀ e ∈ l, e.past.length = c0.length) (hl : ClosedP l) : CoS l c0 (fun _ => False) (c0, []) [] :=
  ⟨SkS.start hv hw hl, rfl, by simp⟩
theorem CoS.add {l : List Ev} {c0 : List Int} {T : Ev → Prop} {s : BfS} {G : List Ev} (h : CoS l c0 T s G) (hm : l.length < 256) {e : Ev} (he : e ∈ l) :
    CoS l c0 (fun x => T x ∨ x = e) (addE s e).1 (G ++ (addE s e).2.1) ∧ ((addE s e).2.2 = 0 ∨ (addE s e).2.2 = 6) := by
  obtain ⟨h1, h2⟩ := h.sk.add hm he
  obtain ⟨c, H⟩ := s
  have hU := h.sk.cl.names
  have hf := h.sk.few
  obtain ⟨-, -, -, h4, h5⟩ := h.sk.arr.add (e := e) (fun x y hx hy hn => hU.eq_of x (h.sk.sub x hx) y (h.sk.sub y hy) hn) (h.sk.cl.fe e he) ((h.sk.wid e he).trans h.sk.len.symm) (fun x hx hn => hU.eq_of x (h.sk.sub x hx) e he hn) (by dsimp only at hf ⊢; omega)
  have hcl : c.length = c0.length := h.sk.len
  rw [hcl] at h4
  refine ⟨⟨h1, h.ch.append h4, fun x hx => ?_⟩, h2⟩
  rcases List.mem_append.1 hx with hx | hx
  · exact h.sub x hx
  · rcases h5 x hx with hx | rfl
    · exact h.sk.sub x hx
    · exact he
theorem CoS.len {l : List Ev} {c0 : List Int} {T : Ev → Prop} {s : BfS} {G : List Ev} (h : CoS l c0 T s G) : G.length ≤ l.length := by
  have h1 := (h.ch.props rfl).names
  unfold NamesU at h1
  have := nodup_le h1 (b := l.map nameE) fun x hx => by
    obtain ⟨e, he, rfl⟩ := List.mem_map.1 hx
    exact List.mem_map.2 ⟨e, h.sub e he, rfl⟩
  simpa using this
theorem CoS.pre {l : List Ev} {c0 : List Int} {T : Ev → Prop} {s : BfS} {G : List Ev} (h : CoS l c0 T s G) (h0 : ∀ k, c0.getD k 0 = 0) (k : Nat) : ClosedP (G.take k) := by
  obtain ⟨f, h1, -⟩ := h.ch.split k
  refine chain_closed rfl h0 h1 h.sk.cl (fun e he => h.sub e (List.mem_of_mem_take he)) ?_
  have := h.len
  have := h.sk.cl.len
  rw [List.length_take]
  omega
/-- the greatest number of each replica -/
def mxStep (c : List Int) (e : Ev) : List Int := c.set e.r.toNat (max (c.getD e.r.toNat 0) e.n)
theorem mxStep_len (c : List Int) (e : Ev) : (mxStep c e).length = c.length := by unfold mxStep; rw [List.length_set]
theorem mxStep_get {c : List Int} {e : Ev} (h : e.r.toNat < c.length) (k : Nat) : (mxStep c e).getD k 0 = if k = e.r.toNat then max (c.getD k 0) e.n else c.getD k 0 := by
  unfold mxStep
  rw [List.getD_eq_getElem?_getD, List.getElem?_set]
  by_cases hk : k = e.r.toNat
  · subst hk
    rw [if_pos rfl, if_pos h, if_pos rfl]
    rfl
  · rw [if_neg (fun e => hk e.symm), if_neg hk, List.getD_eq_getElem?_getD]
theorem mx_len : ∀ (l : List Ev) (c : List Int), (l.foldl mxStep c).length = c.length
  | [], _ => rfl
  | e :: l, c => by rw [List.foldl_cons, mx_len l, mxStep_len]
theorem mx_ge : ∀ (l : List Ev) (c : List Int), (∀ e ∈ l, e.r.toNat < c.length) → LeC c (l.foldl mxStep c) ∧ ∀ e ∈ l, InC (l.foldl mxStep c) e
  | [], c, _ => ⟨LeC.refl _, by simp⟩
  | e :: l, c, h => by
    have h1 := h e (by simp)
    obtain ⟨h2, h3⟩ := mx_ge l (mxStep c e) fun x hx => by rw [mxStep_len]; exact h x (by simp [hx])
    rw [List.foldl_cons]
    refine ⟨LeC.trans (fun k => ?_) h2, fun x hx => ?_⟩
    · rw [mxStep_get h1]
      split
      · omega
      · exact Int.le_refl _
    · rcases List.mem_cons.1 hx with rfl | hx
      · refine InC.mono ?_ h2
        unfold InC
        rw [mxStep_get h1, if_pos rfl]
        omega
      · exact h3 x hx
theorem mx_le : ∀ (l : List Ev) (c X : List Int), (∀ e ∈ l, e.r.toNat < c.length) → LeC c X → (∀ e ∈ l, InC X e) → LeC (l.foldl mxStep c) X
  | [], _, _, _, h, _ => h
  | e :: l, c, X, hr, h, hx => by
    rw [List.foldl_cons]
    refine mx_le l _ X (fun x hx => by rw [mxStep_len]; exact hr x (by simp [hx])) (fun k => ?_) fun x h => hx x (by simp [h])
    rw [mxStep_get (hr e (by simp))]
    split
    · rename_i hk
      have h1 := h k
      have h2 := hx e (by simp)
      unfold InC at h2
      rw [← hk] at h2
      omega
    · exact h k
theorem NamesU.nodup {l : List Ev} (h : NamesU l) : l.Nodup := List.Pairwise.of_map nameE (fun a b h e => h (by rw [e])) h
/-- all has arrived -/
theorem CoS.over {l : List Ev} {c0 : List Int} {T : Ev → Prop} {s : BfS} {G : List Ev} (h : CoS l c0 T s G) (h0 : ∀ k, c0.getD k 0 = 0) (ha : ∀ e ∈ l, T e) :
    s.2 = [] ∧ G.Perm l ∧ s.1 = l.foldl mxStep c0 := by
  obtain ⟨h1, h2⟩ := h.sk.arr.whole h.sk.cl fun e => ⟨h.sk.sub e, ha e⟩
  have P := h.ch.props rfl
  have hfe := fun e he => formedE_fe (h.sk.cl.fe e he)
  have hrn : ∀ e ∈ l, e.r.toNat < c0.length := fun e he => by
    have f := hfe e he
    have := f.r0
    have := f.r1
    have := h.sk.wid e he
    omega
  have hin : ∀ e, e ∈ l → e ∈ G := fun e he => by
    have f := hfe e he
    obtain ⟨x, hx, hxe⟩ := P.all e.r.toNat e.n (hrn e he) (by rw [h0]; have := f.n0; omega) (h2 e he)
    have hn : nameE x = nameE e := by
      rw [hxe]
      unfold nameE
      rw [Int.toNat_of_nonneg f.r0]
    rw [← h.sk.cl.names.eq_of x (h.sub x hx) e he hn]
    exact hx
  refine ⟨h1, (List.perm_ext_iff_of_nodup P.names.nodup h.sk.cl.names.nodup).2 fun e => ⟨h.sub e, hin e⟩, LeC.anti (by rw [mx_len]; exact h.sk.len) (fun k => ?_) (mx_le l c0 s.1 hrn h.sk.arr.ge h2)⟩
  obtain ⟨m1, m2⟩ := mx_ge l c0 hrn
  by_cases hk : k < c0.length
  · by_cases hz : c0.getD k 0 < s.1.getD k 0
    · obtain ⟨x, hx, hxe⟩ := P.all k (s.1.getD k 0) hk hz (Int.le_refl _)
      have h4 := m2 x (h.sub x hx)
      unfold nameE at hxe
      injection hxe with e1 e2
      unfold InC at h4
      rw [e1, e2] at h4
      simpa using h4
    · have := m1 k
      omega
  · have := h.sk.len
    rw [getD_out (by omega), getD_out (by rw [mx_len]; omega)]
    exact Int.le_refl _
theorem missE_nil (c : List Int) : missE (c, []) = [] := by
  unfold missE allC
  have h : ∀ (k : Nat) (o : List Sn), missRow c c [] o k = o := fun k o => by
    unfold missRow
    rw [show (c.getD k 0 - c.getD k 0).toNat = 0 by omega]
    rfl
  have h2 : ∀ (m : List Nat) (o : List Sn), m.foldl (missRow c c []) o = o := fun m => by
    induction m with
    | nil => exact fun o => rfl
    | cons x m ih => intro o; rw [List.foldl_cons, h, ih]
  exact h2 _ _
end Go.Proofs.Ytcddllaljgfjbaa
