
/-
BrokerFirst: the walk.
-/
import Derived.Test.YtbcekihjcgnhkaaBkFb
namespace Go.Proofs.Ytbcekihjcgnhkaa
set_option linter.unusedSimpArgs false
set_option linter.unusedVariables false
open Go.RowKit

def encU8f (k : Int) : List Value := [.int .u8 k]
abbrev U8s := Sl (Pl encU8f) 1
theorem Sl.u8f {w : World} {A : Option Addr} {n c : Nat} {l : List Int} (h : U8s w (.slice A n c) l) {k : Nat} (hk : k < l.length) :
    ∃ b o, A = some ⟨b, o, none⟩ ∧ b < w.heap.size ∧ w.cell? ⟨b, o + k, none⟩ = some (.int .u8 l[k]) := by
  obtain ⟨b, o, cs, hA, had, hcs, hc, hr⟩ := h.at_ hk
  unfold Pl encU8f at hr
  subst hr
  exact ⟨b, o, hA, had, by simpa using hc 0 _ rfl⟩
/-- the data of the arguments -/
def dataF (lh ld lt : List Int) : Dt := ⟨lh.length, fun k => lh.getD k 0 % 16, fun k => ld.getD k 0 % 32, fun k => lt.getD k 0⟩
theorem getD_u8 {l : List Int} (h : ∀ x ∈ l, 0 ≤ x ∧ x < 256) (k : Nat) : 0 ≤ l.getD k 0 ∧ l.getD k 0 < 256 := by
  simp only [List.getD_eq_getElem?_getD]
  cases hk : l[k]? with
  | none => simp
  | some x => exact h x (List.mem_of_getElem? hk)
theorem okD_data {lh ld lt : List Int} (h1 : 1 ≤ lh.length ∧ lh.length ≤ 5) (ht : ∀ x ∈ lt, 0 ≤ x ∧ x < 256) : OkD (dataF lh ld lt) :=
  ⟨h1, fun k => by simp only [dataF]; omega, fun k => by simp only [dataF]; omega, fun k => getD_u8 ht k⟩
theorem getD_at {l : List Int} {k : Nat} (h : k < l.length) : l.getD k 0 = l[k] := by simp [List.getD_eq_getElem?_getD, h]
theorem eval_tmpF (a : Act) (i : Nat) : a.eval (.tmp i) = a.tmps[i]?.getD undef := by simp [Act.eval]
/-- what an append of one element has made -/
def appP {α : Type} (enc : α → List Value) (e size base old n : Nat) (v0 : Value) (l : List α) (v : Value) (w : World) : Prop := ∃ A c, v = .slice A n c ∧ Own enc e size base w v l ∧ (v.ownBlock = v0.ownBlock ∨ ∃ g, v.ownBlock = some g ∧ old ≤ g)
theorem appP_fx {α : Type} {enc : α → List Value} {e size base old n : Nat} {v0 : Value} {l : List α} {X : Nat → Prop} {v : Value} {w1 w2 : World} (h : appP enc e size base old n v0 l v w1) (k : Fx X w1 w2) (hx : ∀ q, v.ownBlock = some q → ¬ X q) : appP enc e size base old n v0 l v w2 := by
  obtain ⟨A, c, e1, own, h2⟩ := h
  exact ⟨A, c, e1, own.owS w2 k.size fun q hq hlt => k.block q hlt (hx q hq), h2⟩
/-- a literal of one element, in a new block -/
def oneP {α : Type} (enc : α → List Value) (e size old : Nat) (x : α) (v : Value) (w : World) : Prop := ∃ p : Nat, v = .slice (some ⟨p, 0, none⟩) 1 1 ∧ Own enc e size old w (.slice (some ⟨p, 0, none⟩) 1 1) [x]
theorem oneP_fx {α : Type} {enc : α → List Value} {e size old : Nat} {x : α} {X : Nat → Prop} (hX : ∀ q, X q → q < old) : StabG (Fx X) (oneP enc e size old x) := fun v w1 w2 ⟨p, e1, own⟩ k => ⟨p, e1, own.owS w2 k.size fun q hq hlt => k.block q hlt fun hx => by have := own.ge q hq; have := hX q hx; omega⟩
/-- what Request has returned -/
def rqP (S : Nat → Prop) (base b mb : Nat) (s' : Bk) (a : Ak) (v : Value) (w : World) : Prop := ∃ A c, v = .tuple #[askV a (.slice A a.needs.length c), .int .i64 0] ∧ Own encNd 41 4 base w (.slice A a.needs.length c) a.needs ∧ BrW S w b mb s'
theorem stab_rqP {S : Nat → Prop} {base b mb : Nat} {s' : Bk} {a : Ak} : G2.Stab (rqP S base b mb s' a) := fun v w1 w2 ⟨A, c, e, h1, h2⟩ k => ⟨A, c, e, h1.kp k, h2.kp k⟩
def tupT (base : Nat) (a : Ak) (v : Value) (w : World) : Prop := ∃ A c, v = .tuple #[askV a (.slice A a.needs.length c), .int .i64 0] ∧ Own encNd 41 4 base w (.slice A a.needs.length c) a.needs
def tupA (base : Nat) (a : Ak) (v : Value) (w : World) : Prop := ∃ A c, v = askV a (.slice A a.needs.length c) ∧ Own encNd 41 4 base w (.slice A a.needs.length c) a.needs
theorem tupT_fx {base : Nat} {a : Ak} {X : Nat → Prop} (hX : ∀ q, X q → q < base) : StabG (Fx X) (tupT base a) := fun v w1 w2 ⟨A, c, e1, own⟩ k => ⟨A, c, e1, own.owS w2 k.size fun q hq hlt => k.block q hlt fun hx => by have := own.ge q hq; have := hX q hx; omega⟩
theorem tupA_fx {base : Nat} {a : Ak} {X : Nat → Prop} (hX : ∀ q, X q → q < base) : StabG (Fx X) (tupA base a) := fun v w1 w2 ⟨A, c, e1, own⟩ k => ⟨A, c, e1, own.owS w2 k.size fun q hq hlt => k.block q hlt fun hx => by have := own.ge q hq; have := hX q hx; omega⟩
theorem range_snoc {β : Type} (f : Nat → β) (k : Nat) : (List.range (k + 1)).map f = (List.range k).map f ++ [f k] := by rw [List.range_succ, List.map_append]; rfl
theorem sumI_snoc (l : List Int) (x : Int) : sumI (l ++ [x]) = sumI l + x := by
  induction l with
  | nil => simp [sumI]
  | cons y l ih =>
    have e1 : sumI (y :: (l ++ [x])) = y + sumI (l ++ [x]) := rfl
    have e2 : sumI (y :: l) = y + sumI l := rfl
    rw [List.cons_append, e1, ih, e2]
    omega
theorem sum_range {D : Dt} (ok : OkD D) (k : Nat) (hk : k ≤ 5) : 0 ≤ sumI ((List.range k).map D.h) ∧ sumI ((List.range k).map D.h) ≤ 75 := by
  have h1 := sumI_le 15 ((List.range k).map D.h) fun x hx => by
    obtain ⟨j, -, rfl⟩ := List.mem_map.1 hx
    have := ok.h j
    omega
  have h2 := sumI_ge ((List.range k).map D.h) 0 fun j => by
    simp only [List.getD_eq_getElem?_getD, List.getElem?_map]
    cases hj : (List.range k)[j]? with
    | none => simp
    | some x => simpa using (ok.h x).1
  simp only [List.length_map, List.length_range] at h1
  refine ⟨h2.2, ?_⟩
  omega
/-- the rounds in which the brokers are made -/
structure GC (w : World) (D : Dt) (k : Nat) (vb va vh : Value) (wr : World) : Prop where
  st : ∃ S Bs aks, Bs.length = k ∧ aks.map (·.a) = (List.range k).map (askF D) ∧ FB w wr S Bs ((List.range k).map (stF D 0)) aks ∧ FR w wr S vb vh va Bs ((List.range k).map D.h) aks
theorem store_has {w wr : World} {S : Nat → Prop} {vb va : Value} {gh n co k : Nat} {Bs : List (Nat × Nat)} {ss : List Bk} {hs : List Int} {aks : List AV} (hF : FB w wr S Bs ss aks) (hR : FR w wr S vb (.slice (some ⟨gh, 0, none⟩) n co) va Bs hs aks) (hn : n = hs.length) (hk : k < hs.length) (u : Int) :
    FB w (wr.setCell ⟨gh, k, none⟩ (.int .i64 u)) S Bs ss aks ∧ FR w (wr.setCell ⟨gh, k, none⟩ (.int .i64 u)) S vb (.slice (some ⟨gh, 0, none⟩) n co) va Bs (hs.set k u) aks := by
  have fS := ((Kg.refl wr gh).set (p := ⟨gh, k, none⟩) (.inl rfl) (.int .i64 u)).fx (X := fun q => q = gh) (.inl rfl)
  have hown : (Value.slice (some ⟨gh, 0, none⟩) n co).ownBlock = some gh := rfl
  have hrow : Rw vb (.slice (some ⟨gh, 0, none⟩) n co) va gh := .inr (.inl hown)
  refine ⟨hF.same fS fun q hq _ => ?_, hR.ob.owS _ fS.size fun q hq hlt => fS.block q hlt fun e => ?_, Own.intSet hR.oh hn hk u, hR.oa.owS _ fS.size fun q hq hlt => fS.block q hlt fun e => ?_, hR.nr⟩
  · subst hq
    exact ⟨(hR.nr _ hrow).1, (hR.nr _ hrow).2, (hR.blk hrow).1⟩
  · subst e
    exact own_ne hR.ob hR.oh (by decide) hq hown
  · subst e
    exact own_ne hR.oa hR.oh (by decide) hq hown
theorem tot_take {gs : List Gr} (h : ∀ g ∈ gs, 1 ≤ g.2.2) : ∀ k, 0 ≤ tot (gs.take k) ∧ tot (gs.take k) ≤ tot gs := by
  induction gs with
  | nil => intro k; simp [tot]
  | cons g gs ih =>
    intro k
    have h0 := h g (by simp)
    have ih := ih fun x hx => h x (by simp [hx])
    cases k with
    | zero => have := ih 0; simp only [List.take_zero, tot] at this ⊢; omega
    | succ k => have := ih k; simp only [List.take_succ_cons, tot]; omega
theorem tot_snoc (gs : List Gr) (k : Nat) (hk : k < gs.length) : tot (gs.take (k + 1)) = tot (gs.take k) + gs[k].2.2 := by
  rw [List.take_succ_eq_append_getElem hk]
  generalize gs.take k = l
  induction l with
  | nil => simp [tot]
  | cons x l ih => rw [List.cons_append, tot, tot, ih]; omega
/-- the holdings between -/
theorem move_mid {n i : Nat} (hi : i < n) {gs : List Gr} {hs : List Int} (hl : hs.length = n) (ht : ToOk n i gs) (h0 : OneR0 gs) (hp : ∀ k, 0 ≤ hs.getD k 0) (hs75 : sumI hs ≤ 75) (htot : tot gs ≤ hs.getD i 0) (k : Nat) :
    (moveG i hs (gs.take k)).length = n ∧ (∀ j, 0 ≤ (moveG i hs (gs.take k)).getD j 0 ∧ (moveG i hs (gs.take k)).getD j 0 ≤ 75) ∧ (moveG i hs (gs.take k)).getD i 0 = hs.getD i 0 - tot (gs.take k) := by
  have hp1 : ∀ g ∈ gs, 1 ≤ g.2.2 := fun g hg => (ht g hg).2.2.2
  obtain ⟨m1, m2, m3, m4⟩ := moveG_spec hi (gs.take k) hs hl (fun g hg => ht g (List.mem_of_mem_take hg)) (fun g hg => h0 g (List.mem_of_mem_take hg))
  have htk := tot_take hp1 k
  have hpos : ∀ j, 0 ≤ (moveG i hs (gs.take k)).getD j 0 := fun j => by
    by_cases e : j = i
    · subst e; rw [m3]; omega
    · rw [m4 j e]
      have h1 := hp j
      have h2 := (sumG_tot (tg := j) (gs.take k) (fun g hg => h0 g (List.mem_of_mem_take hg)) (fun g hg => hp1 g (List.mem_of_mem_take hg))).1
      omega
  refine ⟨m1, fun j => ⟨hpos j, ?_⟩, m3⟩
  have := (sumI_ge (moveG i hs (gs.take k)) j hpos).1
  omega
theorem sumI_take {l : List Int} (h : ∀ j, 0 ≤ l.getD j 0) (k : Nat) : 0 ≤ sumI (l.take k) ∧ sumI (l.take k) ≤ sumI l := by
  induction l generalizing k with
  | nil => simp [sumI]
  | cons x l ih =>
    have h0 := h 0
    simp only [List.getD_cons_zero] at h0
    have hl : ∀ j, 0 ≤ l.getD j 0 := fun j => by have := h (j + 1); simpa using this
    have e : sumI (x :: l) = x + sumI l := rfl
    have h2 := (sumI_ge l 0 hl).2
    cases k with
    | zero => rw [List.take_zero, e, show sumI [] = 0 from rfl]; omega
    | succ k =>
      have h3 := ih hl k
      have e2 : sumI (x :: l.take k) = x + sumI (l.take k) := rfl
      rw [List.take_succ_cons, e, e2]
      omega
theorem map_upd {β : Type} (F G : Nat → β) {n m : Nat} (hm : m < n) : ((List.range n).map (fun i => if i < m then F i else G i)).set m (F m) = (List.range n).map (fun i => if i < m + 1 then F i else G i) := by
  apply List.ext_getElem?
  intro i
  rw [List.getElem?_set]
  simp only [List.getElem?_map, List.length_map, List.length_range]
  by_cases e : m = i
  · subst e
    simp [hm]
  · rw [if_neg e]
    by_cases hi : i < n
    · rw [List.getElem?_range hi]
      simp only [Option.map_some, Option.some.injEq]
      by_cases h2 : i < m
      · rw [if_pos h2, if_pos (by omega)]
      · rw [if_neg h2, if_neg (by omega)]
    · rw [List.getElem?_eq_none (by simp; omega)]
      rfl
set_option maxRecDepth 8000 in
set_option maxHeartbeats 16000000 in
theorem first_walk (lh ld lt : List Int) (vh vd vt : Value) (w : World) (hH : U8s w vh lh) (hD : U8s w vd ld) (hT : U8s w vt lt) (uh : ∀ x ∈ lh, 0 ≤ x ∧ x < 256) (ud : ∀ x ∈ ld, 0 ≤ x ∧ x < 256) (ut : ∀ x ∈ lt, 0 ≤ x ∧ x < 256) :
    Calls Try.prog 5 #[vh, vd, vt] w fun e w' => e = .returned (.bool true) ∧ Kp w w' := by
  obtain ⟨Ah, ch, rfl, hhc, hhm⟩ := hH.form
  obtain ⟨Ad, cd, rfl, hdc, hdm⟩ := hD.form
  obtain ⟨At, ct, rfl, htc, htm⟩ := hT.form
  go_enter Try.func5, Try.ntmps5
  go_wp2_with fail
  refine (awake41_any w).mono ?_
  rintro e w1 ⟨rfl, kw⟩
  by_cases q1 : lh.length < 1
  · have f1 : decide ((lh.length : Int) < 1) = true := decide_eq_true (by omega)
    go_wp2
    go_ret
    exact ⟨rfl, kw⟩
  have f1 : decide ((lh.length : Int) < 1) = false := decide_eq_false (by omega)
  by_cases q2 : 5 < lh.length
  · have f2 : decide ((5 : Int) < (lh.length : Int)) = true := decide_eq_true (by omega)
    go_wp2
    go_ret
    exact ⟨rfl, kw⟩
  have f2 : decide ((5 : Int) < (lh.length : Int)) = false := decide_eq_false (by omega)
  by_cases q3 : ld.length = lh.length
  rotate_left
  · have f3 : ((ld.length : Int) != (lh.length : Int)) = true := by simp; omega
    go_wp2
    go_ret
    exact ⟨rfl, kw⟩
  have f3 : ((ld.length : Int) != (lh.length : Int)) = false := by simp; omega
  by_cases q4 : lt.length = lh.length
  rotate_left
  · have f4 : ((lt.length : Int) != (lh.length : Int)) = true := by simp; omega
    replace q3 := hid q3
    go_wp2
    go_ret
    exact ⟨rfl, kw⟩
  have f4 : ((lt.length : Int) != (lh.length : Int)) = false := by simp; omega
  have HOK := hid (okD_data (ld := ld) (show 1 ≤ lh.length ∧ lh.length ≤ 5 by omega) ut)
  replace q3 := hid q3
  replace q4 := hid q4
  go_upto_region 9 with (fail)
  have hlen5 : lh.length ≤ 5 := by omega
  have hlen1 : 1 ≤ lh.length := by omega
  have k2 := kw.alloc (.cells #[] 3)
  have own0 := Own.lit (base := w.heap.size) (e := 3) (size := 1) encInt w1 #[] [] kw.size (by simp) rfl rfl
  have hz2 : w1.heap.size < (w1.alloc (.cells #[] 3)).heap.size := alloc_lt w1 _
  have HG0 : Hid (GC w (dataF lh ld lt) 0 (.slice none 0 0) (.slice none 0 0) (.slice (some ⟨w1.heap.size, 0, none⟩) 0 0) (w1.alloc (.cells #[] 3))) := hid
    ⟨fun q => (w1.alloc (.cells #[] 3)).heap.size ≤ q, [], [], rfl, rfl, ⟨rfl, fun k h1 _ => absurd h1 (by simp), .nil, fun x hx => (by cases hx), fun x hx => (by cases hx), fun x hx => (by cases hx), fun q hq => hq, k2⟩,
      ⟨Own.nil _ _ _ _ _, own0, Own.nil _ _ _ _ _, fun q hq => ⟨fun hs => by
        rcases hq with hq | hq | hq
        · simp [Value.ownBlock] at hq
        · have hq : w1.heap.size = q := by simpa [Value.ownBlock] using hq
          omega
        · simp [Value.ownBlock] at hq, fun x hx => (by cases hx)⟩⟩⟩
  clear k2 own0 hz2 kw f1 f2 f3 f4 q1 q2
  generalize w1.alloc (.cells #[] 3) = w2 at *
  generalize w1.heap.size = z0 at *
  go_wp2_with fail
  go_loopw [8, 9, 10, 11, 53] (fun vb va vh tot i wr => ∃ k : Nat, k ≤ lh.length ∧ tot = .int .i64 (sumI ((List.range k).map (dataF lh ld lt).h)) ∧ i = .int .i64 (k : Int) ∧ Hid (GC w (dataF lh ld lt) k vb va vh wr)) (fun _ _ _ _ i _ => lh.length - (intOf i).toNat)
  case atStart => exact ⟨0, Nat.zero_le _, rfl, rfl, HG0⟩
  case round =>
    clear HG0
    obtain ⟨k, hk, rfl, rfl, HG⟩ := hrel
    obtain ⟨S, Bs, aks, hbl, hal, hF, hR⟩ := HG.out.st
    clear HG
    obtain ⟨wo, hwo⟩ : ∃ wo, wo = wr := ⟨_, rfl⟩
    subst hwo
    have hal2 : aks.length = k := by have := congrArg List.length hal; simpa using this
    obtain ⟨Ab, cb, e1, -, -⟩ := hR.ob.form
    obtain ⟨Ao, co, e2, -, -⟩ := hR.oh.form
    obtain ⟨Aa, ca, e3, -, -⟩ := hR.oa.form
    rw [hbl] at e1
    rw [List.length_map, List.length_range] at e2
    rw [hal2] at e3
    subst e1 e2 e3
    have HBL := hid hbl
    have HAL := hid hal
    have HAL2 := hid hal2
    clear hbl hal hal2
    by_cases hlt : k < lh.length
    · have hkl : (k : Int) < (lh.length : Int) := by omega
      have hbad : badNew (lh.length : Int) (k : Int) = false := by
        unfold badNew
        rw [decide_eq_false (show ¬ (lh.length : Int) < 1 by omega), decide_eq_false (show ¬ 5 < (lh.length : Int) by omega), decide_eq_false (show ¬ (k : Int) < 0 by omega), decide_eq_false (show ¬ (lh.length : Int) ≤ (k : Int) by omega)]
        rfl
      go_wp2_with fail
      refine (bNew_any (lh.length : Int) (k : Int) wo).mono ?_
      rintro e w1 ⟨h1, k1⟩
      rcases h1 with ⟨h1, -⟩ | ⟨-, b, mb, rfl, hbw, hmw, hbr⟩
      · rw [hbad] at h1; cases h1
      have hF1 := hF.more k1 hbw hmw hbr
      have hR1 := hR.fwd (k1.fx fun _ => False) (fun _ _ e => e)
      have hbn : ∀ q, Rw (.slice Ab k cb) (.slice Ao k co) (.slice Aa k ca) q → ∀ x ∈ Bs ++ [(b, mb)], q ≠ x.1 ∧ q ≠ x.2 := fun q hq x hx => by
        rcases List.mem_append.1 hx with hx | hx
        · exact (hR.nr q hq).2 x hx
        · simp only [List.mem_singleton] at hx
          subst hx
          have := (hR.blk hq).2
          dsimp only
          omega
      have hXY : ∀ q, ((Value.slice Ab k cb).ownBlock = some q ∨ (Value.slice Ao k co).ownBlock = some q) → w.heap.size ≤ q ∧ q < w1.heap.size := fun q hq => by
        have h2 := k1.size
        rcases hq with hq | hq
        · have := hR.blk (.inl hq); omega
        · have := hR.blk (.inr (.inl hq)); omega
      have hX1 : ∀ q, (Value.slice Ab k cb).ownBlock = some q → q < w1.heap.size := fun q hq => (hXY q (.inl hq)).2
      have hY1 : ∀ q, (Value.slice Ao k co).ownBlock = some q → q < w1.heap.size := fun q hq => (hXY q (.inr hq)).2
      obtain ⟨bh, oh, rfl, hbh, e0⟩ := hH.u8f hlt
      have hnX : ∀ q, q < w.heap.size → ¬ ((Value.slice Ab k cb).ownBlock = some q ∨ (Value.slice Ao k co).ownBlock = some q) := fun q hq hx => by have := (hXY q hx).1; omega
      have hqr := uh lh[k] (List.getElem_mem hlt)
      have HQ : Hid ((dataF lh ld lt).h k = lh[k] % 16) := hid (by simp only [dataF]; rw [getD_at hlt])
      have e1 := hF1.kp.cellS e0
      clear e0
      generalize lh[k] = q at *
      have hm16 : Int.tmod q 16 = q % 16 := Int.tmod_eq_emod_of_nonneg hqr.1
      have hqb : 0 ≤ q % 16 ∧ q % 16 < 16 := by omega
      have HBR := hid hbr
      have HF1 := hid hF1
      have HR1 := hid hR1
      have hbl2 : Bs.length = k := HBL.out
      have hz1 := k1.size
      have hzw : w.heap.size ≤ w1.heap.size := hF1.kp.size
      clear hbr hF hR hF1 hR1
      go_upto_region 15 with (fail)
      refine wp_region_growD 3 12 (fun q => (Value.slice Ab k cb).ownBlock = some q) (fun q => (Value.slice Ao k co).ownBlock = some q) [] 13 269 [G2.eqv (.slice Ab k cb), G2.eqv (.pointer (some ⟨b, 0, none⟩)), (oneP encB 32 1 w1.heap.size (b, mb)), (appP encB 32 1 w.heap.size w1.heap.size (k + 1) (.slice Ab k cb) (Bs ++ [(b, mb)])), G2.eqv (.slice Ao k co), G2.eqv (.slice (some ⟨bh, oh, none⟩) lh.length ch), G2.eqv (.int .i64 (k : Int)), G2.eqv (.pointer (some ⟨bh, oh + k, none⟩)), G2.eqv (.int .u8 q), G2.eqv (.int .i64 q), G2.eqv (.int .i64 (q % 16)), (oneP encInt 3 1 w1.heap.size (q % 16)), (appP encInt 3 1 w.heap.size w1.heap.size (k + 1) (.slice Ao k co) ((List.range k).map (dataF lh ld lt).h ++ [q % 16]))] (by kernel_rfl) (by kernel_rfl) rfl (by omega) (by omega) (by omega) (fun _ _ _ _ _ h => h) (fun v W1 W2 h3 k3 => appP_fx h3 k3 (fun q hq hy => by obtain ⟨A3, c3, e3, own3, at3⟩ := h3; rcases at3 with h4 | ⟨g, h4, h5⟩; exact own_ne HR1.out.ob HR1.out.oh (by decide) (by rw [← h4]; exact hq) hy; rw [hq] at h4; injection h4 with h4; have := hY1 q hy; omega)) (fun v W1 W2 h3 k3 => appP_fx h3 k3 (fun q hq hy => by obtain ⟨A3, c3, e3, own3, at3⟩ := h3; rcases at3 with h4 | ⟨g, h4, h5⟩; exact own_ne HR1.out.oh HR1.out.ob (by decide) (by rw [← h4]; exact hq) hy; rw [hq] at h4; injection h4 with h4; have := hX1 q hy; omega)) (stabD_list (fun j p hj hc hd => by
          match j, hj, hc, hd with
          | 0, hj, hc, hd => (simp only [List.getElem?_cons_zero, List.getElem?_cons_succ, Option.some.injEq] at hj; subst hj; exact stabG_eq _)
          | 1, hj, hc, hd => (simp only [List.getElem?_cons_zero, List.getElem?_cons_succ, Option.some.injEq] at hj; subst hj; exact stabG_eq _)
          | 2, hj, hc, hd => (simp only [List.getElem?_cons_zero, List.getElem?_cons_succ, Option.some.injEq] at hj; subst hj; exact oneP_fx (fun q hq => by rcases hq with hq | hq; exact hX1 q hq; exact hY1 q hq))
          | 3, hj, hc, hd => exact absurd rfl hc
          | 4, hj, hc, hd => (simp only [List.getElem?_cons_zero, List.getElem?_cons_succ, Option.some.injEq] at hj; subst hj; exact stabG_eq _)
          | 5, hj, hc, hd => (simp only [List.getElem?_cons_zero, List.getElem?_cons_succ, Option.some.injEq] at hj; subst hj; exact stabG_eq _)
          | 6, hj, hc, hd => (simp only [List.getElem?_cons_zero, List.getElem?_cons_succ, Option.some.injEq] at hj; subst hj; exact stabG_eq _)
          | 7, hj, hc, hd => (simp only [List.getElem?_cons_zero, List.getElem?_cons_succ, Option.some.injEq] at hj; subst hj; exact stabG_eq _)
          | 8, hj, hc, hd => (simp only [List.getElem?_cons_zero, List.getElem?_cons_succ, Option.some.injEq] at hj; subst hj; exact stabG_eq _)
          | 9, hj, hc, hd => (simp only [List.getElem?_cons_zero, List.getElem?_cons_succ, Option.some.injEq] at hj; subst hj; exact stabG_eq _)
          | 10, hj, hc, hd => (simp only [List.getElem?_cons_zero, List.getElem?_cons_succ, Option.some.injEq] at hj; subst hj; exact stabG_eq _)
          | 11, hj, hc, hd => (simp only [List.getElem?_cons_zero, List.getElem?_cons_succ, Option.some.injEq] at hj; subst hj; exact oneP_fx (fun q hq => by rcases hq with hq | hq; exact hX1 q hq; exact hY1 q hq))
          | 12, hj, hc, hd => exact absurd rfl hd
          | (j + 13), hj, hc, hd => simp at hj)) ?_ ?_ ?_
      · intro i0 hi0
        have hi' : i0 = 0 ∨ i0 = 1 ∨ i0 = 2 ∨ i0 = 3 ∨ i0 = 4 ∨ i0 = 5 ∨ i0 = 6 ∨ i0 = 7 ∨ i0 = 8 ∨ i0 = 9 ∨ i0 = 10 ∨ i0 = 11 ∨ i0 = 12 := by omega
        rcases hi' with rfl | rfl | rfl | rfl | rfl | rfl | rfl | rfl | rfl | rfl | rfl | rfl | rfl
        · intro a w' hk hF hD K hK
          have hk : Fx (fun i9 => (fun q => (Value.slice Ab k cb).ownBlock = some q) i9 ∨ (fun q => (Value.slice Ao k co).ownBlock = some q) i9) _ w' := hk
          simp only [List.getElem?_toArray, List.getElem?_cons_zero, List.getElem?_cons_succ, Option.map_some, Option.getD_some]
          have h8 : a.tmps[8]?.getD undef = .slice Ab k cb := hF 8 (by kernel_rfl)
          clear hF hD
          go_simp
          exact hK.out _ _ (Kp.refl _) rfl
        · intro a w' hk hF hD K hK
          have hk : Fx (fun i9 => (fun q => (Value.slice Ab k cb).ownBlock = some q) i9 ∨ (fun q => (Value.slice Ao k co).ownBlock = some q) i9) _ w' := hk
          simp only [List.getElem?_toArray, List.getElem?_cons_zero, List.getElem?_cons_succ, Option.map_some, Option.getD_some]
          have h13 : a.tmps[13]?.getD undef = .pointer (some ⟨b, 0, none⟩) := hF 13 (by kernel_rfl)
          clear hF hD
          go_simp
          exact hK.out _ _ (Kp.refl _) rfl
        · intro a w' hk hF hD K hK
          have hk : Fx (fun i9 => (fun q => (Value.slice Ab k cb).ownBlock = some q) i9 ∨ (fun q => (Value.slice Ao k co).ownBlock = some q) i9) _ w' := hk
          simp only [List.getElem?_toArray, List.getElem?_cons_zero, List.getElem?_cons_succ, Option.map_some, Option.getD_some]
          have h69 : a.tmps[69]?.getD undef = .pointer (some ⟨b, 0, none⟩) := hD 1 (by kernel_rfl)
          clear hF hD
          go_simp
          exact hK.out _ _ ((Kp.refl _).alloc _) ⟨_, rfl, Own.lit encB (e := 32) (size := 1) w' #[.pointer (some ⟨b, 0, none⟩)] [(b, mb)] hk.size (by simp) rfl rfl⟩
        · intro a w' hk hF hD K hK
          have hk : Fx (fun q => (Value.slice Ao k co).ownBlock = some q) _ w' := hk
          simp only [List.getElem?_toArray, List.getElem?_cons_zero, List.getElem?_cons_succ, Option.map_some, Option.getD_some]
          have h68 : a.tmps[68]?.getD undef = .slice Ab k cb := hD 0 (by kernel_rfl)
          have h70 : (oneP encB 32 1 w1.heap.size (b, mb)) (a.tmps[70]?.getD undef) w' := hD 2 (by kernel_rfl)
          clear hF hD
          obtain ⟨p, e70, own70⟩ := h70
          rw [if_pos (by simp [Region.wanted])]
          have hown := HR1.out.ob.owS w' hk.size (fun i hi hlt => hk.block i hlt (fun hx => own_ne HR1.out.ob HR1.out.oh (by decide) hi hx))
          refine wp_append_flat (.tmp 68) (.tmp 70) rfl stB encB_len encB_one ((eval_tmpF _ _).trans h68) hown ((eval_tmpF _ _).trans e70) (own70.sl encB_len) (by simp [hbl2]; omega) (by simp [hbl2]; omega) (Nat.le_trans hzw hk.size) ?_
          intro v' w'' hown' hgrow hat
          obtain ⟨A3, c3, e3, -, -⟩ := hown'.form
          have e3 : v' = .slice A3 (k + 1) c3 := by rw [e3]; simp [hbl2]
          exact hK.out v' w'' ⟨hgrow.os, hgrow.tape, hgrow.output, hgrow.size, fun i hi hx => hgrow.block i hi (fun e => hx e.symm)⟩ ⟨A3, c3, e3, hown', hat.imp id fun h4 => ⟨_, h4, hk.size⟩⟩
        · intro a w' hk hF hD K hK
          have hk : Fx (fun i9 => (fun q => (Value.slice Ab k cb).ownBlock = some q) i9 ∨ (fun q => (Value.slice Ao k co).ownBlock = some q) i9) _ w' := hk
          simp only [List.getElem?_toArray, List.getElem?_cons_zero, List.getElem?_cons_succ, Option.map_some, Option.getD_some]
          have h10 : a.tmps[10]?.getD undef = .slice Ao k co := hF 10 (by kernel_rfl)
          clear hF hD
          go_simp
          exact hK.out _ _ (Kp.refl _) rfl
        · intro a w' hk hF hD K hK
          have hk : Fx (fun i9 => (fun q => (Value.slice Ab k cb).ownBlock = some q) i9 ∨ (fun q => (Value.slice Ao k co).ownBlock = some q) i9) _ w' := hk
          simp only [List.getElem?_toArray, List.getElem?_cons_zero, List.getElem?_cons_succ, Option.map_some, Option.getD_some]
          have h0 : a.tmps[0]?.getD undef = .slice (some ⟨bh, oh, none⟩) lh.length ch := hF 0 (by kernel_rfl)
          clear hF hD
          go_simp
          exact hK.out _ _ (Kp.refl _) rfl
        · intro a w' hk hF hD K hK
          have hk : Fx (fun i9 => (fun q => (Value.slice Ab k cb).ownBlock = some q) i9 ∨ (fun q => (Value.slice Ao k co).ownBlock = some q) i9) _ w' := hk
          simp only [List.getElem?_toArray, List.getElem?_cons_zero, List.getElem?_cons_succ, Option.map_some, Option.getD_some]
          have h12 : a.tmps[12]?.getD undef = .int .i64 (k : Int) := hF 12 (by kernel_rfl)
          clear hF hD
          go_simp
          exact hK.out _ _ (Kp.refl _) rfl
        · intro a w' hk hF hD K hK
          have hk : Fx (fun i9 => (fun q => (Value.slice Ab k cb).ownBlock = some q) i9 ∨ (fun q => (Value.slice Ao k co).ownBlock = some q) i9) _ w' := hk
          simp only [List.getElem?_toArray, List.getElem?_cons_zero, List.getElem?_cons_succ, Option.map_some, Option.getD_some]
          have h73 : a.tmps[73]?.getD undef = .slice (some ⟨bh, oh, none⟩) lh.length ch := hD 5 (by kernel_rfl)
          have h74 : a.tmps[74]?.getD undef = .int .i64 (k : Int) := hD 6 (by kernel_rfl)
          clear hF hD
          go_simp
          exact hK.out _ _ (Kp.refl _) rfl
        · intro a w' hk hF hD K hK
          have hk : Fx (fun i9 => (fun q => (Value.slice Ab k cb).ownBlock = some q) i9 ∨ (fun q => (Value.slice Ao k co).ownBlock = some q) i9) _ w' := hk
          simp only [List.getElem?_toArray, List.getElem?_cons_zero, List.getElem?_cons_succ, Option.map_some, Option.getD_some]
          have h75 : a.tmps[75]?.getD undef = .pointer (some ⟨bh, oh + k, none⟩) := hD 7 (by kernel_rfl)
          clear hF hD
          have z0 := hk.cellF e1 (hnX bh hbh)
          go_simp
          exact hK.out _ _ (Kp.refl _) rfl
        · intro a w' hk hF hD K hK
          have hk : Fx (fun i9 => (fun q => (Value.slice Ab k cb).ownBlock = some q) i9 ∨ (fun q => (Value.slice Ao k co).ownBlock = some q) i9) _ w' := hk
          simp only [List.getElem?_toArray, List.getElem?_cons_zero, List.getElem?_cons_succ, Option.map_some, Option.getD_some]
          have h76 : a.tmps[76]?.getD undef = .int .u8 q := hD 8 (by kernel_rfl)
          clear hF hD
          have zc := IntWalk.i64_in q (by omega)
          have zd := IntWalk.wrap64_in q (by omega)
          go_simp
          exact hK.out _ _ (Kp.refl _) rfl
        · intro a w' hk hF hD K hK
          have hk : Fx (fun i9 => (fun q => (Value.slice Ab k cb).ownBlock = some q) i9 ∨ (fun q => (Value.slice Ao k co).ownBlock = some q) i9) _ w' := hk
          simp only [List.getElem?_toArray, List.getElem?_cons_zero, List.getElem?_cons_succ, Option.map_some, Option.getD_some]
          have h77 : a.tmps[77]?.getD undef = .int .i64 q := hD 9 (by kernel_rfl)
          clear hF hD
          go_simp
          exact hK.out _ _ (Kp.refl _) rfl
        · intro a w' hk hF hD K hK
          have hk : Fx (fun i9 => (fun q => (Value.slice Ab k cb).ownBlock = some q) i9 ∨ (fun q => (Value.slice Ao k co).ownBlock = some q) i9) _ w' := hk
          simp only [List.getElem?_toArray, List.getElem?_cons_zero, List.getElem?_cons_succ, Option.map_some, Option.getD_some]
          have h78 : a.tmps[78]?.getD undef = .int .i64 (q % 16) := hD 10 (by kernel_rfl)
          clear hF hD
          go_simp
          exact hK.out _ _ ((Kp.refl _).alloc _) ⟨_, rfl, Own.lit encInt (e := 3) (size := 1) w' #[.int .i64 (q % 16)] [q % 16] hk.size (by simp) rfl rfl⟩
        · intro a w' hk hF hD K hK
          have hk : Fx (fun q => (Value.slice Ab k cb).ownBlock = some q) _ w' := hk
          simp only [List.getElem?_toArray, List.getElem?_cons_zero, List.getElem?_cons_succ, Option.map_some, Option.getD_some]
          have h72 : a.tmps[72]?.getD undef = .slice Ao k co := hD 4 (by kernel_rfl)
          have h79 : (oneP encInt 3 1 w1.heap.size (q % 16)) (a.tmps[79]?.getD undef) w' := hD 11 (by kernel_rfl)
          clear hF hD
          obtain ⟨p, e79, own79⟩ := h79
          rw [if_pos (by simp [Region.wanted])]
          have hown := HR1.out.oh.owS w' hk.size (fun i hi hlt => hk.block i hlt (fun hx => own_ne HR1.out.oh HR1.out.ob (by decide) hi hx))
          refine wp_append_flat (.tmp 72) (.tmp 79) rfl stI encInt_len encInt_one ((eval_tmpF _ _).trans h72) hown ((eval_tmpF _ _).trans e79) (own79.sl encInt_len) (by simp; omega) (by simp; omega) (Nat.le_trans hzw hk.size) ?_
          intro v' w'' hown' hgrow hat
          obtain ⟨A3, c3, e3, -, -⟩ := hown'.form
          have e3 : v' = .slice A3 (k + 1) c3 := by rw [e3]; simp
          exact hK.out v' w'' ⟨hgrow.os, hgrow.tape, hgrow.output, hgrow.size, fun i hi hx => hgrow.block i hi (fun e => hx e.symm)⟩ ⟨A3, c3, e3, hown', hat.imp id fun h4 => ⟨_, h4, hk.size⟩⟩
      · exact fun i0 hi0 => by simp at hi0
      intro v w9 k9 hv
      have v3 : (appP encB 32 1 w.heap.size w1.heap.size (k + 1) (.slice Ab k cb) (Bs ++ [(b, mb)])) (v 3) w9 := hv 3 (by omega)
      have v12 : (appP encInt 3 1 w.heap.size w1.heap.size (k + 1) (.slice Ao k co) ((List.range k).map (dataF lh ld lt).h ++ [q % 16])) (v 12) w9 := hv 12 (by omega)
      clear hv
      obtain ⟨A3, c3, e3, own3, at3⟩ := v3
      obtain ⟨A12, c12, e12, own12, at12⟩ := v12
      simp only [G2.growPut, G2.gSlot, List.getElem?_toArray, List.getElem?_cons_zero, List.getElem?_cons_succ, Option.bind_some, List.setIfInBounds_toArray, List.set_cons_zero, List.set_cons_succ, List.drop_succ_cons, List.drop_zero, e3, e12]
      rw [e3] at own3 at3
      rw [e12] at own12 at12
      obtain ⟨hF9, hR9⟩ := grown_two HF1.out HR1.out hbn own3 at3 own12 at12 k9
      have hkw9 := hF9.kp
      have hs9 : Snext w1 w9 (Snext wo w1 S) = Snext w1 w9 (Snext wo w1 S) := rfl
      clear k9 at3 at12 own3 hbn hXY hX1 hY1 hnX e1
      obtain ⟨g12, rfl, hg1, hg2⟩ := own12.at_ (by simp)
      have ci := Own.intCell own12 (by simp) (k := k) (by simp)
      rw [List.getElem_append_right (by simp)] at ci
      simp only [List.length_map, List.length_range, Nat.sub_self, List.getElem_cons_zero] at ci
      have hsk := sum_range HOK.out k (by omega)
      generalize hsm : sumI ((List.range k).map (dataF lh ld lt).h) = sm at *
      have HSM := hid hsm
      clear hsm
      have HZ := hid (And.intro (IntWalk.i64_in (sm + q % 16) (by omega)) (IntWalk.wrap64_in (sm + q % 16) (by omega)))
      have z1 := HZ.out.1
      have z2 := HZ.out.2
      go_upto_region 18 with (fail)
      clear z1 z2 HZ ci
      have kx := (Kp.refl w9).alloc (.cells #[.int .i64 0, .int .i64 0, .int .i64 0, .int .i64 0, .int .i64 0, .slice none 0 0] 29)
      have hX := Bx.new w9 #[.int .i64 0, .int .i64 0, .int .i64 0, .int .i64 0, .int .i64 0, .slice none 0 0] 29
      have hFa := hF9.fwd (kx.fx fun _ => False) off_none
      have hRa := hR9.fwd (kx.fx fun _ => False) (fun _ _ e => e)
      have owna := own12.kp kx
      have hBx : ∀ x ∈ Bs ++ [(b, mb)], w9.heap.size ≠ x.1 ∧ w9.heap.size ≠ x.2 := fun x hx => by have := hF9.hi x hx; omega
      have hrx : ∀ i, Rw (.slice A3 (k + 1) c3) (.slice (some ⟨g12, 0, none⟩) (k + 1) c12) (.slice Aa k ca) i → ¬ i = w9.heap.size := fun i hi => by have := (hR9.blk hi).2; omega
      have hwx := hkw9.size
      have hxl := hX.lt (by simp)
      generalize w9.alloc (.cells #[.int .i64 0, .int .i64 0, .int .i64 0, .int .i64 0, .int .i64 0, .slice none 0 0] 29) = wa at *
      have hnx : ¬ Snext w9 wa (Snext w1 w9 (Snext wo w1 S)) w9.heap.size := fun e => by rcases e with e | e <;> omega
      generalize Snext w9 wa (Snext w1 w9 (Snext wo w1 S)) = Sa at *
      generalize w9.heap.size = xb at *
      have hltd : k < ld.length := by rw [q3.out]; exact hlt
      have hkd : (k : Int) < (ld.length : Int) := by omega
      obtain ⟨bd, od, rfl, hbd, e0⟩ := hD.u8f hltd
      have hdr := ud ld[k] (List.getElem_mem hltd)
      have HDQ : Hid ((dataF lh ld lt).d k = ld[k] % 32) := hid (by simp only [dataF]; rw [getD_at hltd])
      have e1 := hFa.kp.cellS e0
      clear e0
      obtain ⟨dq, hdv⟩ : ∃ dq, ld[k] = dq := ⟨_, rfl⟩
      rw [hdv] at hdr HDQ e1
      have HDV := hid hdv
      clear hdv
      have hm32 : Int.tmod dq 32 = dq % 32 := Int.tmod_eq_emod_of_nonneg hdr.1
      have hdb : 0 ≤ dq % 32 ∧ dq % 32 < 32 := by omega
      have ci := Own.intCell owna (by simp) (k := k) (by simp)
      rw [List.getElem_append_right (by simp)] at ci
      simp only [List.length_map, List.length_range, Nat.sub_self, List.getElem_cons_zero] at ci
      have hbdw : bd < wa.heap.size := block_lt_of_cell e1
      have hgw : g12 < wa.heap.size := block_lt_of_cell ci
      have HZ := hid (And.intro (IntWalk.i64_in (dq % 32 - q % 16) (by omega)) (IntWalk.wrap64_in (dq % 32 - q % 16) (by omega)))
      have z1 := HZ.out.1
      have z2 := HZ.out.2
      have zc := IntWalk.i64_in dq (by omega)
      have zd := IntWalk.wrap64_in dq (by omega)
      refine wp_region_kw_tail 11 (by kernel_rfl) (by kernel_rfl) ?_
      simp only [List.take_succ_cons, List.take_zero, List.drop_succ_cons, List.drop_zero]
      repeat (go_big_quiet_step ((fail)))
      refine wpQuiet_nil ?_
      intro _ hw'
      obtain ⟨u, hw''⟩ := hw'
      subst hw''
      go_upto_region 19 with (fail)
      clear z1 z2 HZ zc zd
      have ku := kw_kp wa u
      generalize Kw wa u = wb at *
      have hFb := hFa.kp' ku
      have hRb := hRa.kp' ku
      have hXb := hX.keep (ku.block hxl)
      have hlk : lack (dataF lh ld lt) k = dq % 32 - q % 16 := by unfold lack; rw [HDQ.out, HQ.out]
      have HLK := hid hlk
      clear hlk hFa hRa hX e1 ci
      have hxl2 := hXb.lt (by simp)
      have hmem := hFb.hi (b, mb) (by simp)
      have hbx2 := hBx (b, mb) (by simp)
      dsimp only at hmem hbx2
      by_cases hl : 0 < dq % 32 - q % 16
      · have g1 : decide (0 < dq % 32 - q % 16) = true := decide_eq_true hl
        have hl' : 0 < lack (dataF lh ld lt) k := by rw [HLK.out]; exact hl
        have hltt : k < lt.length := by rw [q4.out]; exact hlt
        have hkt : (k : Int) < (lt.length : Int) := by omega
        obtain ⟨bt, ot, rfl, hbt, e0⟩ := hT.u8f hltt
        have htr := ut lt[k] (List.getElem_mem hltt)
        have HTQ : (dataF lh ld lt).t k = lt[k] := by simp only [dataF]; rw [getD_at hltt]
        have hrq := st_ask HOK.out hl'
        rw [HLK.out, HDQ.out, show priF (dataF lh ld lt) k = (0, lt[k], (k : Int), 1) by unfold priF; rw [HTQ]] at hrq
        replace hrq : request (newB (lh.length : Int) (k : Int)) (0, lt[k], (k : Int), 1) (ndr (dq % 32 - q % 16)) (ndr (dq % 32)) = (stF (dataF lh ld lt) 0 k, askF (dataF lh ld lt) k, 0) := hrq
        have e1 := hFb.kp.cellS e0
        obtain ⟨e2⟩ : Nonempty (wb.cell? ⟨bd, od + k, none⟩ = some (.int .u8 dq)) := ⟨by
          obtain ⟨bd', od', h1, -, h3⟩ := hD.u8f hltd
          injection h1 with h1
          injection h1 with h1 h2
          subst h1 h2
          rw [HDV.out] at h3
          exact hFb.kp.cellS h3⟩
        generalize lt[k] = tq at *
        have hbr := hFb.last
        have HFb := hid hFb
        have HRb := hid hRb
        obtain ⟨ak, ha⟩ : ∃ ak, askF (dataF lh ld lt) k = ak := ⟨_, rfl⟩
        rw [ha] at hrq
        have HRQ := hid hrq
        have HA := hid ha
        have hbtw : bt < wb.heap.size := block_lt_of_cell e1
        have hbdw2 : bd < wb.heap.size := block_lt_of_cell e2
        have hwb := hFb.kp.size
        have hnB : ∀ i, i < w.heap.size → ¬ B2 b mb i := fun i hi e => by
          have := hFb.lo (b, mb) (by simp)
          dsimp only at this
          rcases e with e | e <;> omega
        clear hrq ha HTQ e0 hFb hRb
        go_upto_region 20 with (fail)
        refine wp_region_growC 17 (B2 b mb) [20] 21 269 [G2.eqv (.pointer (some ⟨b, 0, none⟩)), G2.eqv (.slice (some ⟨bt, ot, none⟩) lt.length ct), G2.eqv (.int .i64 (k : Int)), G2.eqv (.pointer (some ⟨bt, ot + k, none⟩)), G2.eqv (.int .u8 tq), G2.eqv (.int .i64 tq), G2.eqv (.int .i64 (k : Int)), G2.eqv (.agg #[.int .i64 0, .int .i64 tq, .int .i64 (k : Int), .int .i64 1]), G2.eqv (.int .i64 (dq % 32 - q % 16)), (oneP encNd 41 4 wb.heap.size (r0, dq % 32 - q % 16)), G2.eqv (.slice (some ⟨bd, od, none⟩) ld.length cd), G2.eqv (.int .i64 (k : Int)), G2.eqv (.pointer (some ⟨bd, od + k, none⟩)), G2.eqv (.int .u8 dq), G2.eqv (.int .i64 dq), G2.eqv (.int .i64 (dq % 32)), (oneP encNd 41 4 wb.heap.size (r0, dq % 32)), (rqP Sa wb.heap.size b mb (stF (dataF lh ld lt) 0 k) ak), (tupT wb.heap.size ak), (tupA wb.heap.size ak), G2.eqv (.int .i64 0)] (by kernel_rfl) (by kernel_rfl) rfl (by omega) (fun _ _ _ _ _ h => h) (stabC_cons (stabG_eq _) (stabC_cons (stabG_eq _) (stabC_cons (stabG_eq _) (stabC_cons (stabG_eq _) (stabC_cons (stabG_eq _) (stabC_cons (stabG_eq _) (stabC_cons (stabG_eq _) (stabC_cons (stabG_eq _) (stabC_cons (stabG_eq _) (stabC_cons (oneP_fx (fun i hi => by rcases hi with hi | hi <;> omega)) (stabC_cons (stabG_eq _) (stabC_cons (stabG_eq _) (stabC_cons (stabG_eq _) (stabC_cons (stabG_eq _) (stabC_cons (stabG_eq _) (stabC_cons (stabG_eq _) (stabC_cons (oneP_fx (fun i hi => by rcases hi with hi | hi <;> omega)) (stabC_here (stabG_cons (tupT_fx (fun i hi => by rcases hi with hi | hi <;> omega)) (stabG_cons (tupA_fx (fun i hi => by rcases hi with hi | hi <;> omega)) (stabG_cons (stabG_eq _) (stabG_nil)))))))))))))))))))))) (stab_rqP) ?_ ?_ ?_
        · intro i0 hi0
          have hi' : i0 = 0 ∨ i0 = 1 ∨ i0 = 2 ∨ i0 = 3 ∨ i0 = 4 ∨ i0 = 5 ∨ i0 = 6 ∨ i0 = 7 ∨ i0 = 8 ∨ i0 = 9 ∨ i0 = 10 ∨ i0 = 11 ∨ i0 = 12 ∨ i0 = 13 ∨ i0 = 14 ∨ i0 = 15 ∨ i0 = 16 ∨ i0 = 17 ∨ i0 = 18 ∨ i0 = 19 ∨ i0 = 20 := by omega
          rcases hi' with rfl | rfl | rfl | rfl | rfl | rfl | rfl | rfl | rfl | rfl | rfl | rfl | rfl | rfl | rfl | rfl | rfl | rfl | rfl | rfl | rfl
          · intro a w' hk hF hD K hK
            have hk : Fx (B2 b mb) _ w' := hk
            simp only [List.getElem?_toArray, List.getElem?_cons_zero, List.getElem?_cons_succ, Option.map_some, Option.getD_some]
            have h13 : a.tmps[13]?.getD undef = .pointer (some ⟨b, 0, none⟩) := hF 13 (by kernel_rfl)
            clear hF hD
            go_simp
            exact hK.out _ _ (Kp.refl _) rfl
          · intro a w' hk hF hD K hK
            have hk : Fx (B2 b mb) _ w' := hk
            simp only [List.getElem?_toArray, List.getElem?_cons_zero, List.getElem?_cons_succ, Option.map_some, Option.getD_some]
            have h2 : a.tmps[2]?.getD undef = .slice (some ⟨bt, ot, none⟩) lt.length ct := hF 2 (by kernel_rfl)
            clear hF hD
            go_simp
            exact hK.out _ _ (Kp.refl _) rfl
          · intro a w' hk hF hD K hK
            have hk : Fx (B2 b mb) _ w' := hk
            simp only [List.getElem?_toArray, List.getElem?_cons_zero, List.getElem?_cons_succ, Option.map_some, Option.getD_some]
            have h12 : a.tmps[12]?.getD undef = .int .i64 (k : Int) := hF 12 (by kernel_rfl)
            clear hF hD
            go_simp
            exact hK.out _ _ (Kp.refl _) rfl
          · intro a w' hk hF hD K hK
            have hk : Fx (B2 b mb) _ w' := hk
            simp only [List.getElem?_toArray, List.getElem?_cons_zero, List.getElem?_cons_succ, Option.map_some, Option.getD_some]
            have h103 : a.tmps[103]?.getD undef = .slice (some ⟨bt, ot, none⟩) lt.length ct := hD 1 (by kernel_rfl)
            have h104 : a.tmps[104]?.getD undef = .int .i64 (k : Int) := hD 2 (by kernel_rfl)
            clear hF hD
            go_simp
            exact hK.out _ _ (Kp.refl _) rfl
          · intro a w' hk hF hD K hK
            have hk : Fx (B2 b mb) _ w' := hk
            simp only [List.getElem?_toArray, List.getElem?_cons_zero, List.getElem?_cons_succ, Option.map_some, Option.getD_some]
            have h105 : a.tmps[105]?.getD undef = .pointer (some ⟨bt, ot + k, none⟩) := hD 3 (by kernel_rfl)
            clear hF hD
            have z0 := hk.cellF e1 (hnB bt hbt)
            go_simp
            exact hK.out _ _ (Kp.refl _) rfl
          · intro a w' hk hF hD K hK
            have hk : Fx (B2 b mb) _ w' := hk
            simp only [List.getElem?_toArray, List.getElem?_cons_zero, List.getElem?_cons_succ, Option.map_some, Option.getD_some]
            have h106 : a.tmps[106]?.getD undef = .int .u8 tq := hD 4 (by kernel_rfl)
            clear hF hD
            have zc := IntWalk.i64_in tq (by omega)
            have zd := IntWalk.wrap64_in tq (by omega)
            go_simp
            exact hK.out _ _ (Kp.refl _) rfl
          · intro a w' hk hF hD K hK
            have hk : Fx (B2 b mb) _ w' := hk
            simp only [List.getElem?_toArray, List.getElem?_cons_zero, List.getElem?_cons_succ, Option.map_some, Option.getD_some]
            have h12 : a.tmps[12]?.getD undef = .int .i64 (k : Int) := hF 12 (by kernel_rfl)
            clear hF hD
            go_simp
            exact hK.out _ _ (Kp.refl _) rfl
          · intro a w' hk hF hD K hK
            have hk : Fx (B2 b mb) _ w' := hk
            simp only [List.getElem?_toArray, List.getElem?_cons_zero, List.getElem?_cons_succ, Option.map_some, Option.getD_some]
            have h107 : a.tmps[107]?.getD undef = .int .i64 tq := hD 5 (by kernel_rfl)
            have h108 : a.tmps[108]?.getD undef = .int .i64 (k : Int) := hD 6 (by kernel_rfl)
            clear hF hD
            go_simp
            exact hK.out _ _ (Kp.refl _) rfl
          · intro a w' hk hF hD K hK
            have hk : Fx (B2 b mb) _ w' := hk
            simp only [List.getElem?_toArray, List.getElem?_cons_zero, List.getElem?_cons_succ, Option.map_some, Option.getD_some]
            have h16 : a.tmps[16]?.getD undef = .int .i64 (dq % 32 - q % 16) := hF 16 (by kernel_rfl)
            clear hF hD
            go_simp
            exact hK.out _ _ (Kp.refl _) rfl
          · intro a w' hk hF hD K hK
            have hk : Fx (B2 b mb) _ w' := hk
            simp only [List.getElem?_toArray, List.getElem?_cons_zero, List.getElem?_cons_succ, Option.map_some, Option.getD_some]
            have h110 : a.tmps[110]?.getD undef = .int .i64 (dq % 32 - q % 16) := hD 8 (by kernel_rfl)
            clear hF hD
            go_simp
            refine (lRights_any (dq % 32 - q % 16) _).mono ?_
            rintro e w9 ⟨p, rfl, own9, hk9⟩
            exact hK.out _ _ hk9 ⟨p, rfl, own9.less hk.size⟩
          · intro a w' hk hF hD K hK
            have hk : Fx (B2 b mb) _ w' := hk
            simp only [List.getElem?_toArray, List.getElem?_cons_zero, List.getElem?_cons_succ, Option.map_some, Option.getD_some]
            have h1 : a.tmps[1]?.getD undef = .slice (some ⟨bd, od, none⟩) ld.length cd := hF 1 (by kernel_rfl)
            clear hF hD
            go_simp
            exact hK.out _ _ (Kp.refl _) rfl
          · intro a w' hk hF hD K hK
            have hk : Fx (B2 b mb) _ w' := hk
            simp only [List.getElem?_toArray, List.getElem?_cons_zero, List.getElem?_cons_succ, Option.map_some, Option.getD_some]
            have h12 : a.tmps[12]?.getD undef = .int .i64 (k : Int) := hF 12 (by kernel_rfl)
            clear hF hD
            go_simp
            exact hK.out _ _ (Kp.refl _) rfl
          · intro a w' hk hF hD K hK
            have hk : Fx (B2 b mb) _ w' := hk
            simp only [List.getElem?_toArray, List.getElem?_cons_zero, List.getElem?_cons_succ, Option.map_some, Option.getD_some]
            have h112 : a.tmps[112]?.getD undef = .slice (some ⟨bd, od, none⟩) ld.length cd := hD 10 (by kernel_rfl)
            have h113 : a.tmps[113]?.getD undef = .int .i64 (k : Int) := hD 11 (by kernel_rfl)
            clear hF hD
            go_simp
            exact hK.out _ _ (Kp.refl _) rfl
          · intro a w' hk hF hD K hK
            have hk : Fx (B2 b mb) _ w' := hk
            simp only [List.getElem?_toArray, List.getElem?_cons_zero, List.getElem?_cons_succ, Option.map_some, Option.getD_some]
            have h114 : a.tmps[114]?.getD undef = .pointer (some ⟨bd, od + k, none⟩) := hD 12 (by kernel_rfl)
            clear hF hD
            have z0 := hk.cellF e2 (hnB bd hbd)
            go_simp
            exact hK.out _ _ (Kp.refl _) rfl
          · intro a w' hk hF hD K hK
            have hk : Fx (B2 b mb) _ w' := hk
            simp only [List.getElem?_toArray, List.getElem?_cons_zero, List.getElem?_cons_succ, Option.map_some, Option.getD_some]
            have h115 : a.tmps[115]?.getD undef = .int .u8 dq := hD 13 (by kernel_rfl)
            clear hF hD
            have zc := IntWalk.i64_in dq (by omega)
            have zd := IntWalk.wrap64_in dq (by omega)
            go_simp
            exact hK.out _ _ (Kp.refl _) rfl
          · intro a w' hk hF hD K hK
            have hk : Fx (B2 b mb) _ w' := hk
            simp only [List.getElem?_toArray, List.getElem?_cons_zero, List.getElem?_cons_succ, Option.map_some, Option.getD_some]
            have h116 : a.tmps[116]?.getD undef = .int .i64 dq := hD 14 (by kernel_rfl)
            clear hF hD
            go_simp
            exact hK.out _ _ (Kp.refl _) rfl
          · intro a w' hk hF hD K hK
            have hk : Fx (B2 b mb) _ w' := hk
            simp only [List.getElem?_toArray, List.getElem?_cons_zero, List.getElem?_cons_succ, Option.map_some, Option.getD_some]
            have h117 : a.tmps[117]?.getD undef = .int .i64 (dq % 32) := hD 15 (by kernel_rfl)
            clear hF hD
            go_simp
            refine (lRights_any (dq % 32) _).mono ?_
            rintro e w9 ⟨p, rfl, own9, hk9⟩
            exact hK.out _ _ hk9 ⟨p, rfl, own9.less hk.size⟩
          · intro a w' hk hF hD K hK
            have hk : Kp _ w' := hk
            simp only [List.getElem?_toArray, List.getElem?_cons_zero, List.getElem?_cons_succ, Option.map_some, Option.getD_some]
            have h102 : a.tmps[102]?.getD undef = .pointer (some ⟨b, 0, none⟩) := hD 0 (by kernel_rfl)
            have h109 : a.tmps[109]?.getD undef = .agg #[.int .i64 0, .int .i64 tq, .int .i64 (k : Int), .int .i64 1] := hD 7 (by kernel_rfl)
            have h111 : (oneP encNd 41 4 wb.heap.size (r0, dq % 32 - q % 16)) (a.tmps[111]?.getD undef) w' := hD 9 (by kernel_rfl)
            have h118 : (oneP encNd 41 4 wb.heap.size (r0, dq % 32)) (a.tmps[118]?.getD undef) w' := hD 16 (by kernel_rfl)
            clear hF hD
            obtain ⟨pa, e111, own111⟩ := h111
            obtain ⟨pb, e118, own118⟩ := h118
            have hkz := hk.size
            go_simp
            have hq := bRequest_U (S := Sa) (S2 := fun i => wb.heap.size ≤ i) (b := b) (mb := mb) (s := newB (lh.length : Int) (k : Int)) (0, tq, (k : Int), 1) (.slice (some ⟨pa, 0, none⟩) 1 1) (.slice (some ⟨pb, 0, none⟩) 1 1) (ndr (dq % 32 - q % 16)) (ndr (dq % 32)) (hbr.kp hk) (by omega) (own111.sx fun i hi => hi) (own118.sx fun i hi => hi)
            rw [HRQ.out] at hq
            refine hq.mono ?_
            rintro e w9 ⟨v9, rfl, own9, hT9, fx9⟩
            obtain ⟨A9, c9, rfl, -, -⟩ := own9.form
            exact hK.out _ _ fx9 ⟨A9, c9, rfl, own9.less hkz, hT9 Sa (fun _ _ h => h) (fun i hi _ => HFb.out.new i (Nat.le_trans hkz hi)) hbr.sb hbr.sm⟩
          · intro a w' hk hF hD K hK
            have hk : Fx (B2 b mb) _ w' := hk
            simp only [List.getElem?_toArray, List.getElem?_cons_zero, List.getElem?_cons_succ, Option.map_some, Option.getD_some]
            have h119 : (rqP Sa wb.heap.size b mb (stF (dataF lh ld lt) 0 k) ak) (a.tmps[119]?.getD undef) w' := hD 17 (by kernel_rfl)
            clear hF hD
            obtain ⟨A, c, e119, ho, hbb⟩ := h119
            go_simp
            exact hK.out _ _ (Kp.refl _) ⟨A, c, rfl, ho⟩
          · intro a w' hk hF hD K hK
            have hk : Fx (B2 b mb) _ w' := hk
            simp only [List.getElem?_toArray, List.getElem?_cons_zero, List.getElem?_cons_succ, Option.map_some, Option.getD_some]
            have h101 : (tupT wb.heap.size ak) (a.tmps[101]?.getD undef) w' := hD 18 (by kernel_rfl)
            clear hF hD
            obtain ⟨A, c, e101, ho⟩ := h101
            go_simp
            exact hK.out _ _ (Kp.refl _) ⟨A, c, rfl, ho⟩
          · intro a w' hk hF hD K hK
            have hk : Fx (B2 b mb) _ w' := hk
            simp only [List.getElem?_toArray, List.getElem?_cons_zero, List.getElem?_cons_succ, Option.map_some, Option.getD_some]
            have h101 : (tupT wb.heap.size ak) (a.tmps[101]?.getD undef) w' := hD 18 (by kernel_rfl)
            clear hF hD
            obtain ⟨A, c, e101, ho⟩ := h101
            go_simp
            exact hK.out _ _ (Kp.refl _) rfl
        · intro i0 hi0
          have hi' : i0 = 20 := by simpa using hi0
          rcases hi' with rfl
          · refine ⟨by omega, fun a w' hk hF hD => ?_⟩
            simp only [List.getElem?_toArray, List.getElem?_cons_zero, List.getElem?_cons_succ, Option.map_some, Option.getD_some]
            have h101 : (tupT wb.heap.size ak) (a.tmps[101]?.getD undef) w' := hD 18 (by kernel_rfl)
            clear hF hD
            obtain ⟨A, c, e101, ho⟩ := h101
            exact ⟨.int .i64 0, rfl, Or.inl ⟨by simp [Region.wanted], fun w => by go_simp⟩⟩
        intro v w9 k9 hv
        have v19 : (tupA wb.heap.size ak) (v 19) w9 := hv 19 (by omega)
        have v20 : v 20 = .int .i64 0 := hv 20 (by omega)
        have v17 : (rqP Sa wb.heap.size b mb (stF (dataF lh ld lt) 0 k) ak) (v 17) w9 := hv 17 (by omega)
        clear hv
        obtain ⟨A9, c9, e19, own19⟩ := v19
        obtain ⟨A17, c17, e17, own17, hbrw⟩ := v17
        simp only [G2.growPut, G2.gSlot, List.getElem?_toArray, List.getElem?_cons_zero, List.getElem?_cons_succ, Option.bind_some, List.setIfInBounds_toArray, List.set_cons_zero, List.set_cons_succ, List.drop_succ_cons, List.drop_zero, v20, e19]
        have hFc := HFb.out.updLast k9 hbrw
        have hRc := HRb.out.updLast k9
        have hXc := hXb.keep (k9.block xb hxl2 (fun e => by rcases e with e | e <;> omega))
        have hXd := hXc.all (cs := askL ak (.slice A9 ak.needs.length c9)) rfl
        have kS := Kg.setCells (g := xb) (.inl rfl) (askL ak (.slice A9 ak.needs.length c9)) 0 (Kg.refl w9 xb)
        have fS := kS.fx (X := fun i => i = xb) (.inl rfl)
        have hFd := hFc.one fS hnx hBx hwx
        have hRd := hRc.keep fS (fun i hi => hrx i hi)
        have hsxd : Sx Sa (w9.setCells xb 0 (askL ak (.slice A9 ak.needs.length c9))) (.slice A9 ak.needs.length c9) ak.needs := OwS.step (own19.sx (S := Sa) fun i hi => HFb.out.new i hi) fS.size fun i hi hlt => fS.block i hlt fun e => hnx (by rw [← e]; exact hi)
        refine wpList_store_mid rfl 29 (.tmp 15) (.tmp 120) rfl xb 0 (askL ak (.slice A9 ak.needs.length c9)).toArray rfl rfl hXc.there (by kernel_rfl) (all_oneCell_toArray (by simp [askL, Value.oneCell'])) ?_
        rw [show (askL ak (.slice A9 ak.needs.length c9)).toArray.toList = askL ak (.slice A9 ak.needs.length c9) by simp]
        generalize w9.setCells xb 0 (askL ak (.slice A9 ak.needs.length c9)) = wd at *
        clear hXc hXb kS fS hFc hRc hbrw own17 own19 e1 e2 HFb HRb hbr
        have c0 := (hXd).cell (j := 0) rfl
        have c1 := (hXd).cell (j := 1) rfl
        have c2 := (hXd).cell (j := 2) rfl
        have c3 := (hXd).cell (j := 3) rfl
        have c4 := (hXd).cell (j := 4) rfl
        have c5 := (hXd).cell (j := 5) rfl
        have hsrc : Sl (Pl encAV) 6 (wd.alloc (.cells #[.int .i64 ak.num, .int .i64 ak.pri.1, .int .i64 ak.pri.2.1, .int .i64 ak.pri.2.2.1, .int .i64 ak.pri.2.2.2, .slice A9 ak.needs.length c9] 29)) (.slice (some ⟨wd.heap.size, 0, none⟩) 1 1) [(⟨ak, A9, ak.needs.length, c9⟩ : AV)] := Sl.one (R := Pl encAV) wd [.int .i64 ak.num, .int .i64 ak.pri.1, .int .i64 ak.pri.2.1, .int .i64 ak.pri.2.2.1, .int .i64 ak.pri.2.2.2, .slice A9 ak.needs.length c9] 29 6 _ rfl rfl
        have hka : aks.length = k := HAL2.out
        have hoa := (hRd).oa.alloc (.cells #[.int .i64 ak.num, .int .i64 ak.pri.1, .int .i64 ak.pri.2.1, .int .i64 ak.pri.2.2.1, .int .i64 ak.pri.2.2.2, .slice A9 ak.needs.length c9] 29)
        have hsl1 : aks.length + [(⟨ak, A9, ak.needs.length, c9⟩ : AV)].length ≤ 4611686018427387904 := by simp; omega
        have hsl2 : (aks.length + [(⟨ak, A9, ak.needs.length, c9⟩ : AV)].length) * 64 ≤ 140737488355328 := by simp; omega
        have hsl3 : w.heap.size ≤ (wd.alloc (.cells #[.int .i64 ak.num, .int .i64 ak.pri.1, .int .i64 ak.pri.2.1, .int .i64 ak.pri.2.2.1, .int .i64 ak.pri.2.2.2, .slice A9 ak.needs.length c9] 29)).heap.size := by have := (hFd).kp.size; simp; omega
        go_wp2_with (at_builtin; refine wpl_append_flat rfl (.tmp 124) (.tmp 126) rfl stask encAV_len encAV_one rfl hoa rfl hsrc hsl1 hsl2 hsl3 ?_; intro v9 w9' hown hgrow hat hnil)
        have kall : Fx (fun i => (Value.slice Aa k ca).ownBlock = some i) wd w9' := (((Kp.refl wd).alloc (.cells #[.int .i64 ak.num, .int .i64 ak.pri.1, .int .i64 ak.pri.2.1, .int .i64 ak.pri.2.2.1, .int .i64 ak.pri.2.2.2, .slice A9 ak.needs.length c9] 29)).fx _).trans ⟨hgrow.os, hgrow.tape, hgrow.output, hgrow.size, fun i hi hx => hgrow.block i hi (fun e => hx e.symm)⟩
        have hat' : v9.ownBlock = (Value.slice Aa k ca).ownBlock ∨ ∃ g, v9.ownBlock = some g ∧ wd.heap.size ≤ g := hat.imp id fun h => ⟨_, h, by simp⟩
        obtain ⟨hF9, hR9⟩ := grown_ask hFd hRd (x := ⟨ak, A9, ak.needs.length, c9⟩) hsxd hown hat' kall
        go_roundw
        case rel => exact ⟨k + 1, by omega, by rw [range_snoc, sumI_snoc, HSM.out, HQ.out], by go_num, hid ⟨⟨_, Bs ++ [(b, mb)], aks ++ [(⟨ak, A9, ak.needs.length, c9⟩ : AV)], by simp [HBL.out], by rw [range_snoc, List.map_append, HAL.out, HA.out]; rfl, by rw [range_snoc]; exact hF9, by rw [range_snoc, HQ.out]; exact hR9⟩⟩⟩
        case measure => simp [intOf]; omega
      · have g1 : decide (0 < dq % 32 - q % 16) = false := decide_eq_false hl
        have hnl : ¬ 0 < lack (dataF lh ld lt) k := by rw [HLK.out]; exact hl
        have hst : newB (lh.length : Int) (k : Int) = stF (dataF lh ld lt) 0 k := st_none hnl
        rw [hst] at hFb
        have HZA : Hid (askF (dataF lh ld lt) k = zAk) := hid (if_neg hnl)
        have hsxd : Sx Sa wb (.slice none 0 0) [] := fun w' _ _ => Sl.nil _ _ _
        clear hst hnl
        have c0 := (hXb).cell (j := 0) rfl
        have c1 := (hXb).cell (j := 1) rfl
        have c2 := (hXb).cell (j := 2) rfl
        have c3 := (hXb).cell (j := 3) rfl
        have c4 := (hXb).cell (j := 4) rfl
        have c5 := (hXb).cell (j := 5) rfl
        have hsrc : Sl (Pl encAV) 6 (wb.alloc (.cells #[.int .i64 0, .int .i64 0, .int .i64 0, .int .i64 0, .int .i64 0, .slice none 0 0] 29)) (.slice (some ⟨wb.heap.size, 0, none⟩) 1 1) [(⟨zAk, none, 0, 0⟩ : AV)] := Sl.one (R := Pl encAV) wb [.int .i64 0, .int .i64 0, .int .i64 0, .int .i64 0, .int .i64 0, .slice none 0 0] 29 6 _ rfl rfl
        have hka : aks.length = k := HAL2.out
        have hoa := (hRb).oa.alloc (.cells #[.int .i64 0, .int .i64 0, .int .i64 0, .int .i64 0, .int .i64 0, .slice none 0 0] 29)
        have hsl1 : aks.length + [(⟨zAk, none, 0, 0⟩ : AV)].length ≤ 4611686018427387904 := by simp; omega
        have hsl2 : (aks.length + [(⟨zAk, none, 0, 0⟩ : AV)].length) * 64 ≤ 140737488355328 := by simp; omega
        have hsl3 : w.heap.size ≤ (wb.alloc (.cells #[.int .i64 0, .int .i64 0, .int .i64 0, .int .i64 0, .int .i64 0, .slice none 0 0] 29)).heap.size := by have := (hFb).kp.size; simp; omega
        go_wp2_with (at_builtin; refine wpl_append_flat rfl (.tmp 124) (.tmp 126) rfl stask encAV_len encAV_one rfl hoa rfl hsrc hsl1 hsl2 hsl3 ?_; intro v9 w9' hown hgrow hat hnil)
        have kall : Fx (fun i => (Value.slice Aa k ca).ownBlock = some i) wb w9' := (((Kp.refl wb).alloc (.cells #[.int .i64 0, .int .i64 0, .int .i64 0, .int .i64 0, .int .i64 0, .slice none 0 0] 29)).fx _).trans ⟨hgrow.os, hgrow.tape, hgrow.output, hgrow.size, fun i hi hx => hgrow.block i hi (fun e => hx e.symm)⟩
        have hat' : v9.ownBlock = (Value.slice Aa k ca).ownBlock ∨ ∃ g, v9.ownBlock = some g ∧ wb.heap.size ≤ g := hat.imp id fun h => ⟨_, h, by simp⟩
        obtain ⟨hF9, hR9⟩ := grown_ask hFb hRb (x := ⟨zAk, none, 0, 0⟩) hsxd hown hat' kall
        go_roundw
        case rel => exact ⟨k + 1, by omega, by rw [range_snoc, sumI_snoc, HSM.out, HQ.out], by go_num, hid ⟨⟨_, Bs ++ [(b, mb)], aks ++ [(⟨zAk, none, 0, 0⟩ : AV)], by simp [HBL.out], by rw [range_snoc, List.map_append, HAL.out, HZA.out]; rfl, by rw [range_snoc]; exact hF9, by rw [range_snoc, HQ.out]; exact hR9⟩⟩⟩
        case measure => simp [intOf]; omega
    · have hkl : ¬ (k : Int) < (lh.length : Int) := by omega
      obtain rfl : k = lh.length := by omega
      obtain ⟨gb, rfl, hgb1, hgb2⟩ := hR.ob.at_ (by rw [HBL.out]; exact hlen1)
      obtain ⟨gh, rfl, hgh1, hgh2⟩ := hR.oh.at_ (by simp; omega)
      obtain ⟨ga, rfl, hga1, hga2⟩ := hR.oa.at_ (by rw [HAL2.out]; exact hlen1)
      have HXA : Hid (∀ j (hj : j < aks.length), aks[j].a = askF (dataF lh ld lt) j) := hid fun j hj => by
        have h1 := HAL.out
        have h2 : (aks.map (·.a))[j]? = ((List.range lh.length).map (askF (dataF lh ld lt)))[j]? := by rw [h1]
        rw [List.getElem?_map, List.getElem?_map, List.getElem?_eq_getElem hj, List.getElem?_range (by rw [← HAL2.out]; exact hj)] at h2
        simpa using h2
      have HG1 : Hid (∃ S, FB w wo S Bs ((List.range lh.length).map (stF (dataF lh ld lt) 0)) aks ∧ FR w wo S (.slice (some ⟨gb, 0, none⟩) lh.length cb) (.slice (some ⟨gh, 0, none⟩) lh.length co) (.slice (some ⟨ga, 0, none⟩) lh.length ca) Bs ((List.range lh.length).map (dataF lh ld lt).h) aks) := hid ⟨S, hF, hR⟩
      have HF0 : Hid (FirstOK (dataF lh ld lt) 0 (-1)) := hid (.inl ⟨rfl, fun k hk => by omega⟩)
      clear hF hR
      go_wp2_with fail
      go_loopw [17, 131] (fun f i wr => ∃ (j : Nat) (fv : Int), j ≤ lh.length ∧ f = .int .i64 fv ∧ i = .int .i64 (j : Int) ∧ Hid (FirstOK (dataF lh ld lt) j fv) ∧ Hid (∃ S, FB w wr S Bs ((List.range lh.length).map (stF (dataF lh ld lt) j)) aks ∧ FR w wr S (.slice (some ⟨gb, 0, none⟩) lh.length cb) (.slice (some ⟨gh, 0, none⟩) lh.length co) (.slice (some ⟨ga, 0, none⟩) lh.length ca) Bs ((List.range lh.length).map (dataF lh ld lt).h) aks)) (fun _ i _ => lh.length - (intOf i).toNat)
      case atStart => exact ⟨0, -1, Nat.zero_le _, rfl, rfl, HF0, HG1⟩
      case round =>
        clear HG1 HF0
        obtain ⟨j, fv, hj, rfl, rfl, HFO, HG⟩ := hrel
        obtain ⟨S, hF, hR⟩ := HG.out
        clear HG
        obtain ⟨wj, hwj⟩ : ∃ wj, wj = wr := ⟨_, rfl⟩
        subst hwj
        by_cases hjn : j < lh.length
        · have hji : (j : Int) < (lh.length : Int) := by omega
          have hja : j < aks.length := by rw [HAL2.out]; exact hjn
          obtain ⟨e0, e1, e2, e3, e4, e5⟩ := own_av hR.oa HAL2.out.symm hja
          have hnd := (hF.nds aks[j] (List.getElem_mem hja))
          have hxa := HXA.out j hja
          obtain ⟨⟨xa, xA, xn, xc⟩, hxj⟩ : ∃ x, aks[j] = x := ⟨_, rfl⟩
          rw [hxj] at e0 e1 e2 e3 e4 e5 hnd hxa
          dsimp only [AV.v] at e0 e1 e2 e3 e4 e5 hnd hxa
          obtain ⟨A', c', hfm, -, -⟩ := hnd.here.form
          have hfm2 : xn = xa.needs.length := by injection hfm
          subst hfm2
          clear hfm
          obtain ⟨num, ⟨p1, p2, p3, p4⟩, ns⟩ := xa
          dsimp only at e0 e1 e2 e3 e4 e5 hnd hxa
          replace hxj := hid hxj
          have HXE := hid hxa
          have HND := hid hnd
          clear hxa hnd
          have ky := (Kp.refl wj).alloc (.cells #[.int .i64 num, .int .i64 p1, .int .i64 p2, .int .i64 p3, .int .i64 p4, .slice xA ns.length xc] 29)
          have hY := Bx.new wj #[.int .i64 num, .int .i64 p1, .int .i64 p2, .int .i64 p3, .int .i64 p4, .slice xA ns.length xc] 29
          go_upto_region 29 with (fail)
          generalize wj.alloc (.cells #[.int .i64 num, .int .i64 p1, .int .i64 p2, .int .i64 p3, .int .i64 p4, .slice xA ns.length xc] 29) = wy at *
          have hyl := hY.lt (by simp)
          have hyB : ∀ x ∈ Bs, wj.heap.size ≠ x.1 ∧ wj.heap.size ≠ x.2 := fun x hx => by have := hF.hi x hx; omega
          have hFy := hF.kp' ky
          have hRy := hR.kp' ky
          have HNDy := hid (OwS.kp HND.out ky)
          clear e0 e1 e2 e3 e4 e5 HND
          generalize wj.heap.size = yb at *
          have d1 := hY.cell (j := 1) rfl
          have d2 := hY.cell (j := 2) rfl
          have d3 := hY.cell (j := 3) rfl
          have d4 := hY.cell (j := 4) rfl
          have d5 := hY.cell (j := 5) rfl
          by_cases hl : 0 < lack (dataF lh ld lt) j
          · have hak := HXE.out
            rw [show askF (dataF lh ld lt) j = ⟨1, priF (dataF lh ld lt) j, ndr (lack (dataF lh ld lt) j)⟩ from if_pos hl] at hak
            injection hak with ha1 ha2 ha3
            have hns : ns.length = 1 := by rw [ha3]; rfl
            have HPJ : Hid ((p1, p2, p3, p4) = priF (dataF lh ld lt) j) := hid ha2
            have f1 : ((ns.length : Int) == 0) = false := by rw [hns]; rfl
            clear ha1 ha2 ha3
            replace hns := hid hns
            have hbaw : ga < wy.heap.size := (hRy.blk (.inr (.inr rfl))).2
            go_upto_region 30 with (fail)
            by_cases hf0 : fv < 0
            · have g1 : decide (fv < 0) = true := decide_eq_true hf0
              have HFN := hid (first_new HFO.out hl hf0)
              refine wp_region_kw (by kernel_rfl) (by kernel_rfl) ?_
              repeat (go_big_quiet_step ((fail)))
              refine wpQuiet_nil ?_
              intro _ hw'
              obtain ⟨u, hw''⟩ := hw'
              subst hw''
              have ku := kw_kp wy u
              generalize Kw wy u = wz at *
              have hFz := hFy.kp' ku
              have hRz := hRy.kp' ku
              have hYz := hY.keep (ku.block hyl)
              clear d1 d2 d3 d4 d5 hY hFy hRy HNDy ku hF hR
              have HG2 : Hid (∃ S, FB w wz S Bs ((List.range lh.length).map (fun i => if i < 0 then stF (dataF lh ld lt) (j + 1) i else stF (dataF lh ld lt) j i)) aks ∧ FR w wz S (.slice (some ⟨gb, 0, none⟩) lh.length cb) (.slice (some ⟨gh, 0, none⟩) lh.length co) (.slice (some ⟨ga, 0, none⟩) lh.length ca) Bs ((List.range lh.length).map (dataF lh ld lt).h) aks) := hid ⟨S, by simpa using hFz, hRz⟩
              clear hFz hRz
              go_wp2_with fail
              go_loopw [155] (fun i wr => ∃ m : Nat, m ≤ lh.length ∧ i = .int .i64 (m : Int) ∧ Bx wr yb [.int .i64 num, .int .i64 p1, .int .i64 p2, .int .i64 p3, .int .i64 p4, .slice xA ns.length xc] ∧ Hid (∃ S, FB w wr S Bs ((List.range lh.length).map (fun i => if i < m then stF (dataF lh ld lt) (j + 1) i else stF (dataF lh ld lt) j i)) aks ∧ FR w wr S (.slice (some ⟨gb, 0, none⟩) lh.length cb) (.slice (some ⟨gh, 0, none⟩) lh.length co) (.slice (some ⟨ga, 0, none⟩) lh.length ca) Bs ((List.range lh.length).map (dataF lh ld lt).h) aks)) (fun i _ => lh.length - (intOf i).toNat)
              case atStart => exact ⟨0, Nat.zero_le _, rfl, hYz, HG2⟩
              case round =>
                clear HG2 hYz
                obtain ⟨m, hm, rfl, hYm, HG⟩ := hrel
                obtain ⟨S', hFm, hRm⟩ := HG.out
                clear HG
                obtain ⟨wm, hwm⟩ : ∃ wm, wm = wr := ⟨_, rfl⟩
                subst hwm
                by_cases hmn : m < lh.length
                · have hmi : (m : Int) < (lh.length : Int) := by omega
                  have hmB : m < Bs.length := by rw [HBL.out]; exact hmn
                  obtain ⟨g', hg', -, hcb⟩ := own_bptr hRm.ob hmB
                  injection hg' with hg'
                  injection hg' with hg' _ _
                  subst hg'
                  have hbr : BrW S' wm Bs[m].1 Bs[m].2 (stF (dataF lh ld lt) j m) := by
                    have h1 := hFm.br m hmB (by simp; exact hmn)
                    simpa using h1
                  have hyBm := hyB _ (List.getElem_mem hmB)
                  have hupF := fun w' s' fx hb => hFm.upd (w' := w') hmB (s' := s') fx hb
                  have hupR := fun w' fx => hRm.upd (w' := w') hmB fx
                  generalize Bs[m] = bm at *
                  obtain ⟨bm, mbm⟩ := bm
                  dsimp only at hcb hbr hyBm hupF hupR
                  have d0 := hYm.cell (j := 0) rfl
                  have d1 := hYm.cell (j := 1) rfl
                  have d2 := hYm.cell (j := 2) rfl
                  have d3 := hYm.cell (j := 3) rfl
                  have d4 := hYm.cell (j := 4) rfl
                  have d5 := hYm.cell (j := 5) rfl
                  by_cases hmj : m = j
                  · subst hmj
                    have f2 : ((m : Int) != (m : Int)) = false := by simp
                    have HG3 : Hid (∃ S, FB w wm S Bs ((List.range lh.length).map (fun i => if i < m + 1 then stF (dataF lh ld lt) (m + 1) i else stF (dataF lh ld lt) m i)) aks ∧ FR w wm S (.slice (some ⟨gb, 0, none⟩) lh.length cb) (.slice (some ⟨gh, 0, none⟩) lh.length co) (.slice (some ⟨ga, 0, none⟩) lh.length ca) Bs ((List.range lh.length).map (dataF lh ld lt).h) aks) := hid ⟨S', by
                      refine cast ?_ hFm
                      congr 1
                      refine List.map_congr_left fun i _ => ?_
                      by_cases e : i = m
                      · subst e
                        rw [if_neg (by omega), if_pos (by omega), st_skip (.inr rfl)]
                      · by_cases e2 : i < m
                        · rw [if_pos e2, if_pos (by omega)]
                        · rw [if_neg e2, if_neg (by omega)], hRm⟩
                    clear hupF hupR hbr hFm hRm
                    go_wp2_with fail
                    go_roundw
                    case rel => exact ⟨m + 1, by omega, by go_num, hYm, HG3⟩
                    case measure => simp [intOf]; omega
                  · have f2 : ((m : Int) != (j : Int)) = true := by simp; omega
                    have hsx := hFm.nds aks[j] (List.getElem_mem hja)
                    rw [hxj.out] at hsx
                    dsimp only [AV.v] at hsx
                    have hnew := hFm.new
                    have HUF := hid hupF
                    have HUR := hid hupR
                    have hyl2 := hYm.lt (by simp)
                    clear hupF hupR hFm hRm
                    go_wp2_with fail
                    refine (bHear_any (S := S') (b := bm) (mb := mbm) (s := stF (dataF lh ld lt) j m) (j : Int) ⟨num, (p1, p2, p3, p4), ns⟩ (.slice xA ns.length xc) hbr hnew hsx).mono ?_
                    rw [HXE.out, st_hear HOK.out hl hjn hmj]
                    rintro e w' ⟨rfl, hbr', fx'⟩
                    have hF' := HUF.out w' _ fx' hbr'
                    have hR' := HUR.out w' fx'
                    have hY' := hYm.keep (fx'.block yb hyl2 (fun e => by rcases e with e | e; exact hyBm.1 e; exact hyBm.2 e))
                    have HG3 : Hid (∃ S, FB w w' S Bs ((List.range lh.length).map (fun i => if i < m + 1 then stF (dataF lh ld lt) (j + 1) i else stF (dataF lh ld lt) j i)) aks ∧ FR w w' S (.slice (some ⟨gb, 0, none⟩) lh.length cb) (.slice (some ⟨gh, 0, none⟩) lh.length co) (.slice (some ⟨ga, 0, none⟩) lh.length ca) Bs ((List.range lh.length).map (dataF lh ld lt).h) aks) := hid ⟨S', by
                      refine cast ?_ hF'
                      congr 1
                      exact map_upd _ _ hmn, hR'⟩
                    clear hF' hR' HUF HUR hsx hbr hbr' fx' d0 d1 d2 d3 d4 d5
                    go_wp2_with fail
                    go_roundw
                    case rel => exact ⟨m + 1, by omega, by go_num, hY', HG3⟩
                    case measure => simp [intOf]; omega
                · have hmi : ¬ (m : Int) < (lh.length : Int) := by omega
                  have HG3 : Hid (∃ S, FB w wm S Bs ((List.range lh.length).map (stF (dataF lh ld lt) (j + 1))) aks ∧ FR w wm S (.slice (some ⟨gb, 0, none⟩) lh.length cb) (.slice (some ⟨gh, 0, none⟩) lh.length co) (.slice (some ⟨ga, 0, none⟩) lh.length ca) Bs ((List.range lh.length).map (dataF lh ld lt).h) aks) := hid ⟨S', by
                    refine cast ?_ hFm
                    congr 1
                    refine List.map_congr_left fun i hi => ?_
                    rw [if_pos (by have := List.mem_range.1 hi; omega)], hRm⟩
                  clear hFm hRm hYm
                  go_wp2_with fail
                  go_roundw
                  case rel => exact ⟨j + 1, (j : Int), by omega, rfl, by go_num, HFN, HG3⟩
                  case measure => simp [intOf]; omega
            · have g1 : decide (fv < 0) = false := decide_eq_false hf0
              obtain ⟨f, hfj, hfe⟩ : ∃ f : Nat, f < j ∧ fv = (f : Int) ∧ 0 < lack (dataF lh ld lt) f := by
                rcases HFO.out with ⟨h1, -⟩ | ⟨f, h1, h2, h3, -⟩
                · omega
                · exact ⟨f, h1, h2, h3⟩
              obtain ⟨rfl, hlf⟩ := hfe
              have hfa : f < aks.length := by omega
              have hfn : (f : Int) < (lh.length : Int) := by omega
              obtain ⟨b0, b1, b2, b3, b4, b5⟩ := own_av hRy.oa HAL2.out.symm hfa
              have hxf := HXA.out f hfa
              obtain ⟨⟨⟨num', ⟨r1, r2, r3, r4⟩, ns'⟩, xA', xn', xc'⟩, hxfe⟩ : ∃ x, aks[f] = x := ⟨_, rfl⟩
              rw [hxfe] at b0 b1 b2 b3 b4 b5 hxf
              dsimp only at b0 b1 b2 b3 b4 b5 hxf
              rw [show askF (dataF lh ld lt) f = ⟨1, priF (dataF lh ld lt) f, ndr (lack (dataF lh ld lt) f)⟩ from if_pos hlf] at hxf
              injection hxf with _ hpf _
              replace hpf := hid hpf
              replace hxfe := hid hxfe
              have HLS : Hid (∀ u, Calls Try.prog 9 #[prV (p1, p2, p3, p4), prV (r1, r2, r3, r4)] (Kw wy u) fun e w' => e = .returned (.bool (lessB (p1, p2, p3, p4) (r1, r2, r3, r4))) ∧ Kp (Kw wy u) w') :=
                hid fun u => (bLess_at (p1, p2, p3, p4) (r1, r2, r3, r4) (Kw wy u)).mono fun e w' ⟨h1, h2⟩ => ⟨h1, h2.kp⟩
              cases hls : lessB (p1, p2, p3, p4) (r1, r2, r3, r4) with
              | true =>
                have HFN := hid (first_less HFO.out hl (by rw [← HPJ.out, ← hpf.out]; exact hls))
                rw [hls] at HLS
                refine wp_region_kw (by kernel_rfl) (by kernel_rfl) ?_
                repeat (go_big_quiet_step ((go_at_call 9; exact quiet_kw (HLS.out _))))
                refine wpQuiet_nil ?_
                intro _ hw'
                obtain ⟨u, hw''⟩ := hw'
                subst hw''
                clear b0 b1 b2 b3 b4 b5
                have ku := kw_kp wy u
                generalize Kw wy u = wz at *
                have hFz := hFy.kp' ku
                have hRz := hRy.kp' ku
                have hYz := hY.keep (ku.block hyl)
                clear d1 d2 d3 d4 d5 hY hFy hRy HNDy ku hF hR
                have HG2 : Hid (∃ S, FB w wz S Bs ((List.range lh.length).map (fun i => if i < 0 then stF (dataF lh ld lt) (j + 1) i else stF (dataF lh ld lt) j i)) aks ∧ FR w wz S (.slice (some ⟨gb, 0, none⟩) lh.length cb) (.slice (some ⟨gh, 0, none⟩) lh.length co) (.slice (some ⟨ga, 0, none⟩) lh.length ca) Bs ((List.range lh.length).map (dataF lh ld lt).h) aks) := hid ⟨S, by simpa using hFz, hRz⟩
                clear hFz hRz
                go_wp2_with fail
                go_loopw [155] (fun i wr => ∃ m : Nat, m ≤ lh.length ∧ i = .int .i64 (m : Int) ∧ Bx wr yb [.int .i64 num, .int .i64 p1, .int .i64 p2, .int .i64 p3, .int .i64 p4, .slice xA ns.length xc] ∧ Hid (∃ S, FB w wr S Bs ((List.range lh.length).map (fun i => if i < m then stF (dataF lh ld lt) (j + 1) i else stF (dataF lh ld lt) j i)) aks ∧ FR w wr S (.slice (some ⟨gb, 0, none⟩) lh.length cb) (.slice (some ⟨gh, 0, none⟩) lh.length co) (.slice (some ⟨ga, 0, none⟩) lh.length ca) Bs ((List.range lh.length).map (dataF lh ld lt).h) aks)) (fun i _ => lh.length - (intOf i).toNat)
                case atStart => exact ⟨0, Nat.zero_le _, rfl, hYz, HG2⟩
                case round =>
                  clear HG2 hYz
                  obtain ⟨m, hm, rfl, hYm, HG⟩ := hrel
                  obtain ⟨S', hFm, hRm⟩ := HG.out
                  clear HG
                  obtain ⟨wm, hwm⟩ : ∃ wm, wm = wr := ⟨_, rfl⟩
                  subst hwm
                  by_cases hmn : m < lh.length
                  · have hmi : (m : Int) < (lh.length : Int) := by omega
                    have hmB : m < Bs.length := by rw [HBL.out]; exact hmn
                    obtain ⟨g', hg', -, hcb⟩ := own_bptr hRm.ob hmB
                    injection hg' with hg'
                    injection hg' with hg' _ _
                    subst hg'
                    have hbr : BrW S' wm Bs[m].1 Bs[m].2 (stF (dataF lh ld lt) j m) := by
                      have h1 := hFm.br m hmB (by simp; exact hmn)
                      simpa using h1
                    have hyBm := hyB _ (List.getElem_mem hmB)
                    have hupF := fun w' s' fx hb => hFm.upd (w' := w') hmB (s' := s') fx hb
                    have hupR := fun w' fx => hRm.upd (w' := w') hmB fx
                    generalize Bs[m] = bm at *
                    obtain ⟨bm, mbm⟩ := bm
                    dsimp only at hcb hbr hyBm hupF hupR
                    have d0 := hYm.cell (j := 0) rfl
                    have d1 := hYm.cell (j := 1) rfl
                    have d2 := hYm.cell (j := 2) rfl
                    have d3 := hYm.cell (j := 3) rfl
                    have d4 := hYm.cell (j := 4) rfl
                    have d5 := hYm.cell (j := 5) rfl
                    by_cases hmj : m = j
                    · subst hmj
                      have f2 : ((m : Int) != (m : Int)) = false := by simp
                      have HG3 : Hid (∃ S, FB w wm S Bs ((List.range lh.length).map (fun i => if i < m + 1 then stF (dataF lh ld lt) (m + 1) i else stF (dataF lh ld lt) m i)) aks ∧ FR w wm S (.slice (some ⟨gb, 0, none⟩) lh.length cb) (.slice (some ⟨gh, 0, none⟩) lh.length co) (.slice (some ⟨ga, 0, none⟩) lh.length ca) Bs ((List.range lh.length).map (dataF lh ld lt).h) aks) := hid ⟨S', by
                        refine cast ?_ hFm
                        congr 1
                        refine List.map_congr_left fun i _ => ?_
                        by_cases e : i = m
                        · subst e
                          rw [if_neg (by omega), if_pos (by omega), st_skip (.inr rfl)]
                        · by_cases e2 : i < m
                          · rw [if_pos e2, if_pos (by omega)]
                          · rw [if_neg e2, if_neg (by omega)], hRm⟩
                      clear hupF hupR hbr hFm hRm
                      go_wp2_with fail
                      go_roundw
                      case rel => exact ⟨m + 1, by omega, by go_num, hYm, HG3⟩
                      case measure => simp [intOf]; omega
                    · have f2 : ((m : Int) != (j : Int)) = true := by simp; omega
                      have hsx := hFm.nds aks[j] (List.getElem_mem hja)
                      rw [hxj.out] at hsx
                      dsimp only [AV.v] at hsx
                      have hnew := hFm.new
                      have HUF := hid hupF
                      have HUR := hid hupR
                      have hyl2 := hYm.lt (by simp)
                      clear hupF hupR hFm hRm
                      go_wp2_with fail
                      refine (bHear_any (S := S') (b := bm) (mb := mbm) (s := stF (dataF lh ld lt) j m) (j : Int) ⟨num, (p1, p2, p3, p4), ns⟩ (.slice xA ns.length xc) hbr hnew hsx).mono ?_
                      rw [HXE.out, st_hear HOK.out hl hjn hmj]
                      rintro e w' ⟨rfl, hbr', fx'⟩
                      have hF' := HUF.out w' _ fx' hbr'
                      have hR' := HUR.out w' fx'
                      have hY' := hYm.keep (fx'.block yb hyl2 (fun e => by rcases e with e | e; exact hyBm.1 e; exact hyBm.2 e))
                      have HG3 : Hid (∃ S, FB w w' S Bs ((List.range lh.length).map (fun i => if i < m + 1 then stF (dataF lh ld lt) (j + 1) i else stF (dataF lh ld lt) j i)) aks ∧ FR w w' S (.slice (some ⟨gb, 0, none⟩) lh.length cb) (.slice (some ⟨gh, 0, none⟩) lh.length co) (.slice (some ⟨ga, 0, none⟩) lh.length ca) Bs ((List.range lh.length).map (dataF lh ld lt).h) aks) := hid ⟨S', by
                        refine cast ?_ hF'
                        congr 1
                        exact map_upd _ _ hmn, hR'⟩
                      clear hF' hR' HUF HUR hsx hbr hbr' fx' d0 d1 d2 d3 d4 d5
                      go_wp2_with fail
                      go_roundw
                      case rel => exact ⟨m + 1, by omega, by go_num, hY', HG3⟩
                      case measure => simp [intOf]; omega
                  · have hmi : ¬ (m : Int) < (lh.length : Int) := by omega
                    have HG3 : Hid (∃ S, FB w wm S Bs ((List.range lh.length).map (stF (dataF lh ld lt) (j + 1))) aks ∧ FR w wm S (.slice (some ⟨gb, 0, none⟩) lh.length cb) (.slice (some ⟨gh, 0, none⟩) lh.length co) (.slice (some ⟨ga, 0, none⟩) lh.length ca) Bs ((List.range lh.length).map (dataF lh ld lt).h) aks) := hid ⟨S', by
                      refine cast ?_ hFm
                      congr 1
                      refine List.map_congr_left fun i hi => ?_
                      rw [if_pos (by have := List.mem_range.1 hi; omega)], hRm⟩
                    clear hFm hRm hYm
                    go_wp2_with fail
                    go_roundw
                    case rel => exact ⟨j + 1, (j : Int), by omega, rfl, by go_num, HFN, HG3⟩
                    case measure => simp [intOf]; omega
              | false =>
                have HFN := hid (first_keep HFO.out (by rw [← HPJ.out, ← hpf.out]; exact hls))
                rw [hls] at HLS
                refine wp_region_kw (by kernel_rfl) (by kernel_rfl) ?_
                repeat (go_big_quiet_step ((go_at_call 9; exact quiet_kw (HLS.out _))))
                refine wpQuiet_nil ?_
                intro _ hw'
                obtain ⟨u, hw''⟩ := hw'
                subst hw''
                clear b0 b1 b2 b3 b4 b5
                have ku := kw_kp wy u
                generalize Kw wy u = wz at *
                have hFz := hFy.kp' ku
                have hRz := hRy.kp' ku
                have hYz := hY.keep (ku.block hyl)
                clear d1 d2 d3 d4 d5 hY hFy hRy HNDy ku hF hR
                have HG2 : Hid (∃ S, FB w wz S Bs ((List.range lh.length).map (fun i => if i < 0 then stF (dataF lh ld lt) (j + 1) i else stF (dataF lh ld lt) j i)) aks ∧ FR w wz S (.slice (some ⟨gb, 0, none⟩) lh.length cb) (.slice (some ⟨gh, 0, none⟩) lh.length co) (.slice (some ⟨ga, 0, none⟩) lh.length ca) Bs ((List.range lh.length).map (dataF lh ld lt).h) aks) := hid ⟨S, by simpa using hFz, hRz⟩
                clear hFz hRz
                go_wp2_with fail
                go_loopw [155] (fun i wr => ∃ m : Nat, m ≤ lh.length ∧ i = .int .i64 (m : Int) ∧ Bx wr yb [.int .i64 num, .int .i64 p1, .int .i64 p2, .int .i64 p3, .int .i64 p4, .slice xA ns.length xc] ∧ Hid (∃ S, FB w wr S Bs ((List.range lh.length).map (fun i => if i < m then stF (dataF lh ld lt) (j + 1) i else stF (dataF lh ld lt) j i)) aks ∧ FR w wr S (.slice (some ⟨gb, 0, none⟩) lh.length cb) (.slice (some ⟨gh, 0, none⟩) lh.length co) (.slice (some ⟨ga, 0, none⟩) lh.length ca) Bs ((List.range lh.length).map (dataF lh ld lt).h) aks)) (fun i _ => lh.length - (intOf i).toNat)
                case atStart => exact ⟨0, Nat.zero_le _, rfl, hYz, HG2⟩
                case round =>
                  clear HG2 hYz
                  obtain ⟨m, hm, rfl, hYm, HG⟩ := hrel
                  obtain ⟨S', hFm, hRm⟩ := HG.out
                  clear HG
                  obtain ⟨wm, hwm⟩ : ∃ wm, wm = wr := ⟨_, rfl⟩
                  subst hwm
                  by_cases hmn : m < lh.length
                  · have hmi : (m : Int) < (lh.length : Int) := by omega
                    have hmB : m < Bs.length := by rw [HBL.out]; exact hmn
                    obtain ⟨g', hg', -, hcb⟩ := own_bptr hRm.ob hmB
                    injection hg' with hg'
                    injection hg' with hg' _ _
                    subst hg'
                    have hbr : BrW S' wm Bs[m].1 Bs[m].2 (stF (dataF lh ld lt) j m) := by
                      have h1 := hFm.br m hmB (by simp; exact hmn)
                      simpa using h1
                    have hyBm := hyB _ (List.getElem_mem hmB)
                    have hupF := fun w' s' fx hb => hFm.upd (w' := w') hmB (s' := s') fx hb
                    have hupR := fun w' fx => hRm.upd (w' := w') hmB fx
                    generalize Bs[m] = bm at *
                    obtain ⟨bm, mbm⟩ := bm
                    dsimp only at hcb hbr hyBm hupF hupR
                    have d0 := hYm.cell (j := 0) rfl
                    have d1 := hYm.cell (j := 1) rfl
                    have d2 := hYm.cell (j := 2) rfl
                    have d3 := hYm.cell (j := 3) rfl
                    have d4 := hYm.cell (j := 4) rfl
                    have d5 := hYm.cell (j := 5) rfl
                    by_cases hmj : m = j
                    · subst hmj
                      have f2 : ((m : Int) != (m : Int)) = false := by simp
                      have HG3 : Hid (∃ S, FB w wm S Bs ((List.range lh.length).map (fun i => if i < m + 1 then stF (dataF lh ld lt) (m + 1) i else stF (dataF lh ld lt) m i)) aks ∧ FR w wm S (.slice (some ⟨gb, 0, none⟩) lh.length cb) (.slice (some ⟨gh, 0, none⟩) lh.length co) (.slice (some ⟨ga, 0, none⟩) lh.length ca) Bs ((List.range lh.length).map (dataF lh ld lt).h) aks) := hid ⟨S', by
                        refine cast ?_ hFm
                        congr 1
                        refine List.map_congr_left fun i _ => ?_
                        by_cases e : i = m
                        · subst e
                          rw [if_neg (by omega), if_pos (by omega), st_skip (.inr rfl)]
                        · by_cases e2 : i < m
                          · rw [if_pos e2, if_pos (by omega)]
                          · rw [if_neg e2, if_neg (by omega)], hRm⟩
                      clear hupF hupR hbr hFm hRm
                      go_wp2_with fail
                      go_roundw
                      case rel => exact ⟨m + 1, by omega, by go_num, hYm, HG3⟩
                      case measure => simp [intOf]; omega
                    · have f2 : ((m : Int) != (j : Int)) = true := by simp; omega
                      have hsx := hFm.nds aks[j] (List.getElem_mem hja)
                      rw [hxj.out] at hsx
                      dsimp only [AV.v] at hsx
                      have hnew := hFm.new
                      have HUF := hid hupF
                      have HUR := hid hupR
                      have hyl2 := hYm.lt (by simp)
                      clear hupF hupR hFm hRm
                      go_wp2_with fail
                      refine (bHear_any (S := S') (b := bm) (mb := mbm) (s := stF (dataF lh ld lt) j m) (j : Int) ⟨num, (p1, p2, p3, p4), ns⟩ (.slice xA ns.length xc) hbr hnew hsx).mono ?_
                      rw [HXE.out, st_hear HOK.out hl hjn hmj]
                      rintro e w' ⟨rfl, hbr', fx'⟩
                      have hF' := HUF.out w' _ fx' hbr'
                      have hR' := HUR.out w' fx'
                      have hY' := hYm.keep (fx'.block yb hyl2 (fun e => by rcases e with e | e; exact hyBm.1 e; exact hyBm.2 e))
                      have HG3 : Hid (∃ S, FB w w' S Bs ((List.range lh.length).map (fun i => if i < m + 1 then stF (dataF lh ld lt) (j + 1) i else stF (dataF lh ld lt) j i)) aks ∧ FR w w' S (.slice (some ⟨gb, 0, none⟩) lh.length cb) (.slice (some ⟨gh, 0, none⟩) lh.length co) (.slice (some ⟨ga, 0, none⟩) lh.length ca) Bs ((List.range lh.length).map (dataF lh ld lt).h) aks) := hid ⟨S', by
                        refine cast ?_ hF'
                        congr 1
                        exact map_upd _ _ hmn, hR'⟩
                      clear hF' hR' HUF HUR hsx hbr hbr' fx' d0 d1 d2 d3 d4 d5
                      go_wp2_with fail
                      go_roundw
                      case rel => exact ⟨m + 1, by omega, by go_num, hY', HG3⟩
                      case measure => simp [intOf]; omega
                  · have hmi : ¬ (m : Int) < (lh.length : Int) := by omega
                    have HG3 : Hid (∃ S, FB w wm S Bs ((List.range lh.length).map (stF (dataF lh ld lt) (j + 1))) aks ∧ FR w wm S (.slice (some ⟨gb, 0, none⟩) lh.length cb) (.slice (some ⟨gh, 0, none⟩) lh.length co) (.slice (some ⟨ga, 0, none⟩) lh.length ca) Bs ((List.range lh.length).map (dataF lh ld lt).h) aks) := hid ⟨S', by
                      refine cast ?_ hFm
                      congr 1
                      refine List.map_congr_left fun i hi => ?_
                      rw [if_pos (by have := List.mem_range.1 hi; omega)], hRm⟩
                    clear hFm hRm hYm
                    go_wp2_with fail
                    go_roundw
                    case rel => exact ⟨j + 1, (f : Int), by omega, rfl, by go_num, HFN, HG3⟩
                    case measure => simp [intOf]; omega
          · have hns : ns = [] := by
              have h1 := HXE.out
              unfold askF at h1
              rw [if_neg hl] at h1
              injection h1
            subst hns
            have HFN := hid (first_skip HFO.out hl)
            have HGN : Hid (∃ S, FB w wy S Bs ((List.range lh.length).map (stF (dataF lh ld lt) (j + 1))) aks ∧ FR w wy S (.slice (some ⟨gb, 0, none⟩) lh.length cb) (.slice (some ⟨gh, 0, none⟩) lh.length co) (.slice (some ⟨ga, 0, none⟩) lh.length ca) Bs ((List.range lh.length).map (dataF lh ld lt).h) aks) :=
              hid ⟨S, by rw [show (List.range lh.length).map (stF (dataF lh ld lt) (j + 1)) = (List.range lh.length).map (stF (dataF lh ld lt) j) from List.map_congr_left fun i _ => st_skip (.inl hl)]; exact hFy, hRy⟩
            clear HXE HNDy hFy hRy hF hR hY
            go_wp2_with fail
            go_roundw
            case rel => exact ⟨j + 1, fv, by omega, rfl, by go_num, HFN, HGN⟩
            case measure => simp [intOf]; omega
        · have hji : ¬ (j : Int) < (lh.length : Int) := by omega
          obtain rfl : j = lh.length := by omega
          have HG4 : Hid (∃ S ss, FB w wj S Bs ss aks ∧ FR w wj S (.slice (some ⟨gb, 0, none⟩) lh.length cb) (.slice (some ⟨gh, 0, none⟩) lh.length co) (.slice (some ⟨ga, 0, none⟩) lh.length ca) Bs ((List.range lh.length).map (dataF lh ld lt).h) aks ∧ ∀ k, 0 ≤ k → k < lh.length → ss[k]? = some (stF (dataF lh ld lt) lh.length k)) := hid ⟨S, _, hF, hR, fun k _ hk => by simp [hk]⟩
          have HP0 := hid (pi_start HOK.out fv)
          clear hF hR
          go_wp2_with fail
          go_loopw [174] (fun i wr => ∃ (i' : Nat) (hs : List Int), i' ≤ lh.length ∧ i = .int .i64 (i' : Int) ∧ Hid (PI (dataF lh ld lt) fv i' hs) ∧ Hid (∃ S ss, FB w wr S Bs ss aks ∧ FR w wr S (.slice (some ⟨gb, 0, none⟩) lh.length cb) (.slice (some ⟨gh, 0, none⟩) lh.length co) (.slice (some ⟨ga, 0, none⟩) lh.length ca) Bs hs aks ∧ ∀ k, i' ≤ k → k < lh.length → ss[k]? = some (stF (dataF lh ld lt) lh.length k))) (fun i _ => lh.length - (intOf i).toNat)
          case atStart => exact ⟨0, _, Nat.zero_le _, rfl, HP0, HG4⟩
          case round =>
            clear HP0 HG4
            obtain ⟨i, hs, hi, rfl, HPI, HG⟩ := hrel
            obtain ⟨S, ss, hF, hR, hss⟩ := HG.out
            clear HG
            obtain ⟨wi, hwi⟩ : ∃ wi, wi = wr := ⟨_, rfl⟩
            subst hwi
            have hlen : hs.length = lh.length := HPI.out.len
            have hghi : gh < wi.heap.size := (hR.blk (.inr (.inl rfl))).2
            by_cases hin : i < lh.length
            · have hii : (i : Int) < (lh.length : Int) := by omega
              have hih : i < hs.length := by omega
              have hiB : i < Bs.length := by rw [HBL.out]; exact hin
              have chh := Own.intCell hR.oh hlen.symm hih
              have hxb := HPI.out.bound HOK.out i
              have hxd := getD_at hih
              rw [hxd] at hxb
              obtain ⟨g', hg', -, hcb⟩ := own_bptr hR.ob hiB
              injection hg' with hg'
              injection hg' with hg' _ _
              subst hg'
              have hbr : BrW S wi Bs[i].1 Bs[i].2 (stF (dataF lh ld lt) lh.length i) := by
                have hsi : i < ss.length := by rw [hF.len]; exact hiB
                have h1 := hF.br i hiB hsi
                have h2 := hss i (Nat.le_refl _) hin
                rw [List.getElem?_eq_getElem hsi] at h2
                injection h2 with h2
                rw [h2] at h1
                exact h1
              have HUF := hid (fun w' s' fx hb => hF.upd (w' := w') hiB (s' := s') fx hb)
              have HUR := hid (fun w' fx => hR.upd (w' := w') hiB fx)
              obtain ⟨x, hx⟩ : ∃ x, hs[i] = x := ⟨_, rfl⟩
              rw [hx] at chh hxb hxd
              have HXD := hid hxd
              replace hx := hid hx
              clear hxd
              by_cases hx0 : x = 0
              · have f1 : (x == 0) = true := by simpa using hx0
                have HPN := hid (pi_skip HPI.out (by rw [HXD.out]; exact hx0))
                have HGN : Hid (∃ S ss, FB w wi S Bs ss aks ∧ FR w wi S (.slice (some ⟨gb, 0, none⟩) lh.length cb) (.slice (some ⟨gh, 0, none⟩) lh.length co) (.slice (some ⟨ga, 0, none⟩) lh.length ca) Bs hs aks ∧ ∀ k, i + 1 ≤ k → k < lh.length → ss[k]? = some (stF (dataF lh ld lt) lh.length k)) := hid ⟨S, ss, hF, hR, fun k hk => hss k (by omega)⟩
                replace hx0 := hid hx0
                clear hF hR hss HUF HUR hbr
                go_wp2_with fail
                go_roundw
                case rel => exact ⟨i + 1, hs, by omega, by go_num, HPN, HGN⟩
                case measure => simp [intOf]; omega
              · have f1 : (x == 0) = false := by simpa using hx0
                have hx1 : 1 ≤ x := by omega
                have hgf := give_facts HOK.out (i := i) hin hx1 (by omega)
                have hstep := pi_step HOK.out HFO.out hin HPI.out (by rw [HXD.out]; exact hx0)
                rw [HXD.out] at hstep
                replace hgf := hid hgf
                replace hstep := hid hstep
                have hnew := hF.new
                generalize Bs[i] = bi at *
                obtain ⟨bi, mbi⟩ := bi
                dsimp only at hcb hbr HUF HUR
                have HSS := hid hss
                clear hF hR hss
                go_wp2_with fail
                refine (lRights_any x wi).mono ?_
                rintro e w5 ⟨p5, rfl, own5, k5⟩
                have hz5 := k5.size
                go_wp2_with fail
                refine (bGrants_any (S := S) (b := bi) (mb := mbi) (s := stF (dataF lh ld lt) lh.length i) (ndr x) (.slice (some ⟨p5, 0, none⟩) 1 1) (hbr.kp k5) (fun q hq => hnew q (by omega)) (own5.sx fun q hq => hnew q hq)).mono ?_
                rintro e w6 ⟨gv, rfl, gown, hb6, fx6⟩
                have hgf := hgf.out
                have hstep := hstep.out
                replace hgf : OneR0 (grants (stF (dataF lh ld lt) lh.length i) (ndr x)).2 ∧ ToOk lh.length i (grants (stF (dataF lh ld lt) lh.length i) (ndr x)).2 ∧ tot (grants (stF (dataF lh ld lt) lh.length i) (ndr x)).2 ≤ x := ⟨hgf.2.1, hgf.2.2.1, hgf.2.2.2⟩
                replace hstep : PI (dataF lh ld lt) fv (i + 1) (moveG i hs (grants (stF (dataF lh ld lt) lh.length i) (ndr x)).2) := hstep
                have hF6 := HUF.out w6 _ ((k5.fx _).trans fx6) hb6
                have hR6 := HUR.out w6 ((k5.fx _).trans fx6)
                generalize (grants (stF (dataF lh ld lt) lh.length i) (ndr x)).1 = s6 at *
                generalize (grants (stF (dataF lh ld lt) lh.length i) (ndr x)).2 = gs at *
                obtain ⟨hg1, hg2, hg3⟩ := hgf
                have HMID := hid (fun k => move_mid hin hlen hg2 hg1 HPI.out.pos (by have := sum_bound HOK.out; rw [HPI.out.sum]; exact this) (by rw [HXD.out]; exact hg3) k)
                have HTT := hid (tot_take (fun g hg => (hg2 g hg).2.2.2))
                have HG2 := hid hg2
                replace hstep := hid hstep
                obtain ⟨Ag, cg, rfl, hgc, hgm⟩ := gown.form
                have HSS6 : Hid (∀ k, i + 1 ≤ k → k < lh.length → (ss.set i s6)[k]? = some (stF (dataF lh ld lt) lh.length k)) := hid fun k hk hkn => by
                  rw [List.getElem?_set_ne (by omega)]
                  exact HSS.out k (by omega) hkn
                have HGL : Hid (∃ S, FB w w6 S Bs (ss.set i s6) aks ∧ FR w w6 S (.slice (some ⟨gb, 0, none⟩) lh.length cb) (.slice (some ⟨gh, 0, none⟩) lh.length co) (.slice (some ⟨ga, 0, none⟩) lh.length ca) Bs (moveG i hs (gs.take 0)) aks) := hid ⟨S, hF6, hR6⟩
                have HOW := hid gown
                have hgh5 : gh < w5.heap.size := by omega
                clear hF6 hR6 gown hg1 hg2 fx6 hb6 hbr HUF HUR HSS k5 own5 hnew
                go_wp2_with fail
                go_loopw [192] (fun mi wr => ∃ m : Nat, m ≤ gs.length ∧ mi = .int .i64 (m : Int) ∧ Hid (Own encGr 46 5 w5.heap.size wr (.slice Ag gs.length cg) gs) ∧ Hid (∃ S, FB w wr S Bs (ss.set i s6) aks ∧ FR w wr S (.slice (some ⟨gb, 0, none⟩) lh.length cb) (.slice (some ⟨gh, 0, none⟩) lh.length co) (.slice (some ⟨ga, 0, none⟩) lh.length ca) Bs (moveG i hs (gs.take m)) aks)) (fun mi _ => gs.length - (intOf mi).toNat)
                case atStart => exact ⟨0, Nat.zero_le _, rfl, HOW, HGL⟩
                case round =>
                  clear HOW HGL
                  obtain ⟨m, hm, rfl, HOW, HG⟩ := hrel
                  obtain ⟨S', hFm, hRm⟩ := HG.out
                  clear HG
                  obtain ⟨wm, hwm⟩ : ∃ wm, wm = wr := ⟨_, rfl⟩
                  subst hwm
                  obtain ⟨hml, hmb, hmi⟩ := HMID.out m
                  by_cases hmn : m < gs.length
                  · have hmni : (m : Int) < (gs.length : Int) := by omega
                    obtain ⟨bg, og, rfl, hbg, i0, i1, i2, i3, i4⟩ := (HOW.out.sl encGr_len).gr hmn
                    have hto := HG2.out gs[m] (List.getElem_mem hmn)
                    have htt := HTT.out (m + 1)
                    rw [tot_snoc gs m hmn] at htt
                    have HMS : Hid (moveG i hs (gs.take (m + 1)) = ((moveG i hs (gs.take m)).set i ((moveG i hs (gs.take m)).getD i 0 - gs[m].2.2)).set gs[m].1.toNat ((moveG i hs (gs.take m)).getD gs[m].1.toNat 0 + gs[m].2.2)) := hid (by rw [List.take_succ_eq_append_getElem hmn, moveG_snoc])
                    obtain ⟨⟨tg, ⟨y1, y2, y3⟩, am⟩, hgm⟩ : ∃ g, gs[m] = g := ⟨_, rfl⟩
                    rw [hgm] at i0 i1 i2 i3 i4 hto htt HMS
                    dsimp only at i0 i1 i2 i3 i4 hto htt HMS
                    replace hgm := hid hgm
                    obtain ⟨t, rfl⟩ : ∃ t : Nat, tg = (t : Int) := ⟨tg.toNat, by omega⟩
                    rw [Int.toNat_natCast] at HMS
                    have htn : t < lh.length := by omega
                    have hti : t ≠ i := by omega
                    have hbi := hmb i
                    have hbt := hmb t
                    generalize moveG i hs (gs.take m) = hm' at *
                    have hil : i < hm'.length := by omega
                    have htl : t < hm'.length := by omega
                    have egi := getD_at hil
                    have egt := getD_at htl
                    rw [egi] at hmi hbi HMS
                    rw [egt] at hbt HMS
                    rw [HXD.out] at hmi
                    have hT := Bx.new wm #[.int .i64 (t : Int), .int .i64 y1, .int .i64 y2, .int .i64 y3, .int .i64 am] 46
                    have kt := (Kp.refl wm).alloc (.cells #[.int .i64 (t : Int), .int .i64 y1, .int .i64 y2, .int .i64 y3, .int .i64 am] 46)
                    have hFt := hFm.kp' kt
                    have hRt := hRm.kp' kt
                    have hOt := HOW.out.kp kt
                    have hghm : gh < wm.heap.size := (hRm.blk (.inr (.inl rfl))).2
                    clear hFm hRm HOW egi egt
                    go_upto_region 46 with (fail)
                    generalize wm.alloc (.cells #[.int .i64 (t : Int), .int .i64 y1, .int .i64 y2, .int .i64 y3, .int .i64 am] 46) = wt at *
                    clear i0 i1 i2 i3 i4
                    have htw := hT.lt (by simp)
                    have hwtm : gh < wt.heap.size := (hRt.blk (.inr (.inl rfl))).2
                    generalize wm.heap.size = tb at *
                    have t0 := hT.cell (j := 0) rfl
                    have t4 := hT.cell (j := 4) rfl
                    have u1 : decide ((t : Int) < 0) = false := decide_eq_false (by omega)
                    have u2 : decide ((lh.length : Int) ≤ (t : Int)) = false := decide_eq_false (by omega)
                    have u3 : ((t : Int) == (i : Int)) = false := by simp; omega
                    have hti2 : (t : Int) < (lh.length : Int) := by omega
                    have ci := Own.intCell hRt.oh hml.symm hil
                    generalize hvi : hm'[i] = vi at *
                    generalize hvt : hm'[t] = vt at *
                    have HVT := hid hvt
                    clear hvi hvt
                    have HZ := hid (And.intro (IntWalk.i64_in (vi - am) (by omega)) (IntWalk.wrap64_in (vi - am) (by omega)))
                    have HZ2 := hid (And.intro (IntWalk.i64_in (vt + am) (by omega)) (IntWalk.wrap64_in (vt + am) (by omega)))
                    replace hmi := hid hmi
                    replace htt := hid htt
                    have z1 := HZ.out.1
                    have z2 := HZ.out.2
                    go_upto_region 48 with (fail)
                    refine wp_region_kw_tail 8 (by kernel_rfl) (by kernel_rfl) ?_
                    simp only [List.take_succ_cons, List.take_zero, List.drop_succ_cons, List.drop_zero]
                    repeat (go_big_quiet_step ((fail)))
                    refine wpQuiet_nil ?_
                    intro _ hw'
                    obtain ⟨v1, hw''⟩ := hw'
                    subst hw''
                    clear z1 z2
                    have kf := kw_kp wt v1
                    generalize Kw wt v1 = wf at *
                    have hFf := hFt.kp' kf
                    have hRf := hRt.kp' kf
                    have hOf := hOt.kp kf
                    have hTf := hT.keep (kf.block htw)
                    clear ci t0 t4 hFt hRt hOt hT
                    have ci := Own.intCell hRf.oh hml.symm hil
                    have ff := hRf.oh.frozen hml.symm i
                    obtain ⟨hF1, hR1⟩ := store_has hFf hRf hml.symm hil (vi - am)
                    have fS := ((Kg.refl wf gh).set (p := ⟨gh, i, none⟩) (.inl rfl) (.int .i64 (vi - am))).fx (X := fun q => q = gh) (.inl rfl)
                    have hO1 := hOf.owS _ fS.size fun q hq hlt => fS.block q hlt fun e => by have := hOf.ge q hq; omega
                    have hghf : gh < wf.heap.size := (hRf.blk (.inr (.inl rfl))).2
                    have htbf := hTf.lt (by simp)
                    have hghtb : gh ≠ tb := by omega
                    have hT1 := hTf.keep (fS.block tb htbf (by omega))
                    go_upto_region 49 with (fail)
                    generalize wf.setCell ⟨gh, i, none⟩ (.int .i64 (vi - am)) = w8 at *
                    clear hFf hRf hOf hTf ci ff fS
                    have hl1 : (hm'.set i (vi - am)).length = lh.length := by rw [List.length_set]; exact hml
                    have htl1 : t < (hm'.set i (vi - am)).length := by omega
                    have hvt1 : (hm'.set i (vi - am))[t] = vt := by rw [List.getElem_set_ne (Ne.symm hti)]; exact HVT.out
                    have ct := Own.intCell hR1.oh hl1.symm htl1
                    rw [hvt1] at ct
                    have t0 := hT1.cell (j := 0) rfl
                    have t4 := hT1.cell (j := 4) rfl
                    have hgh8 : gh < w8.heap.size := (hR1.blk (.inr (.inl rfl))).2
                    have htb8 := hT1.lt (by simp)
                    have z1 := HZ2.out.1
                    have z2 := HZ2.out.2
                    refine wp_region_kw_tail 9 (by kernel_rfl) (by kernel_rfl) ?_
                    simp only [List.take_succ_cons, List.take_zero, List.drop_succ_cons, List.drop_zero]
                    repeat (go_big_quiet_step ((fail)))
                    refine wpQuiet_nil ?_
                    intro _ hw'
                    obtain ⟨v2, hw''⟩ := hw'
                    subst hw''
                    clear z1 z2
                    have kf2 := kw_kp w8 v2
                    generalize Kw w8 v2 = w9 at *
                    have hF2 := hF1.kp' kf2
                    have hR2 := hR1.kp' kf2
                    have hO2 := hO1.kp kf2
                    clear ct t0 t4 hF1 hR1 hO1 hT1
                    have ct := Own.intCell hR2.oh hl1.symm htl1
                    rw [hvt1] at ct
                    have ff := hR2.oh.frozen hl1.symm t
                    obtain ⟨hF3, hR3⟩ := store_has hF2 hR2 hl1.symm htl1 (vt + am)
                    have fS := ((Kg.refl w9 gh).set (p := ⟨gh, t, none⟩) (.inl rfl) (.int .i64 (vt + am))).fx (X := fun q => q = gh) (.inl rfl)
                    have hO3 := hO2.owS _ fS.size fun q hq hlt => fS.block q hlt fun e => by have := hO2.ge q hq; omega
                    have hgh9 : gh < w9.heap.size := (hR2.blk (.inr (.inl rfl))).2
                    rw [← HMS.out] at hR3
                    have HGN : Hid (∃ S, FB w (w9.setCell ⟨gh, t, none⟩ (.int .i64 (vt + am))) S Bs (ss.set i s6) aks ∧ FR w (w9.setCell ⟨gh, t, none⟩ (.int .i64 (vt + am))) S (.slice (some ⟨gb, 0, none⟩) lh.length cb) (.slice (some ⟨gh, 0, none⟩) lh.length co) (.slice (some ⟨ga, 0, none⟩) lh.length ca) Bs (moveG i hs (gs.take (m + 1))) aks) := hid ⟨S', hF3, hR3⟩
                    have HON := hid hO3
                    clear hF2 hR2 hO2 hF3 hR3 hO3 fS
                    go_wp2_with fail
                    go_roundw
                    case rel => exact ⟨m + 1, by omega, by go_num, HON, HGN⟩
                    case measure => simp [intOf]; omega
                  · have hmni : ¬ (m : Int) < (gs.length : Int) := by omega
                    obtain rfl : m = gs.length := by omega
                    rw [List.take_length] at hRm hml hmb hmi
                    have cii := Own.intCell hRm.oh hml.symm (k := i) (by omega)
                    have hci := hmb i
                    rw [getD_at (by omega)] at hci
                    generalize (moveG i hs gs)[i] = y at *
                    have f3 : decide (y < 0) = false := decide_eq_false (by omega)
                    have HGN : Hid (∃ S ss, FB w wm S Bs ss aks ∧ FR w wm S (.slice (some ⟨gb, 0, none⟩) lh.length cb) (.slice (some ⟨gh, 0, none⟩) lh.length co) (.slice (some ⟨ga, 0, none⟩) lh.length ca) Bs (moveG i hs gs) aks ∧ ∀ k, i + 1 ≤ k → k < lh.length → ss[k]? = some (stF (dataF lh ld lt) lh.length k)) := hid ⟨S', _, hFm, hRm, HSS6.out⟩
                    clear hFm hRm hmi hmb
                    go_wp2_with fail
                    go_roundw
                    case rel => exact ⟨i + 1, moveG i hs gs, by omega, by go_num, hstep, HGN⟩
                    case measure => simp [intOf]; omega
            · have hii : ¬ (i : Int) < (lh.length : Int) := by omega
              obtain rfl : i = lh.length := by omega
              have hend : sumI hs = sumI ((List.range lh.length).map (dataF lh ld lt).h) ∧ ∀ k : Nat, fv = k → k < lh.length ∧ min (sumI ((List.range lh.length).map (dataF lh ld lt).h)) ((dataF lh ld lt).d k) ≤ hs.getD k 0 := pi_end HOK.out HFO.out HPI.out
              have HEND := hid hend
              have hts := sumI_take HPI.out.pos
              have hsb : sumI ((List.range lh.length).map (dataF lh ld lt).h) ≤ 75 := sum_bound HOK.out
              have hsum := hend.1
              clear hend
              go_wp2_with fail
              go_loopw [26, 239] (fun sv ki wr => ∃ k : Nat, k ≤ lh.length ∧ sv = .int .i64 (sumI (hs.take k)) ∧ ki = .int .i64 (k : Int) ∧ Kp wi wr) (fun _ ki _ => lh.length - (intOf ki).toNat)
              case atStart => exact ⟨0, Nat.zero_le _, rfl, rfl, Kp.refl _⟩
              case round =>
                obtain ⟨k, hk, rfl, rfl, kr⟩ := hrel
                obtain ⟨wk, hwk⟩ : ∃ wk, wk = wr := ⟨_, rfl⟩
                subst hwk
                have hRk := hR.kp' kr
                by_cases hkn : k < lh.length
                · have hki : (k : Int) < (lh.length : Int) := by omega
                  have hkh : k < hs.length := by omega
                  have ck := Own.intCell hRk.oh hlen.symm hkh
                  have hb1 := hts k
                  have hb2 := hts (k + 1)
                  have hsn : sumI (hs.take (k + 1)) = sumI (hs.take k) + hs[k] := by rw [List.take_succ_eq_append_getElem hkh, sumI_snoc]
                  rw [hsn] at hb2
                  have HSN := hid hsn
                  clear hsn
                  generalize sumI (hs.take k) = sk at *
                  generalize hs[k] = y at *
                  have HZ := hid (And.intro (IntWalk.i64_in (sk + y) (by omega)) (IntWalk.wrap64_in (sk + y) (by omega)))
                  have z1 := HZ.out.1
                  have z2 := HZ.out.2
                  go_wp2_with fail
                  go_roundw
                  case rel =>
                    clear z1 z2 HZ
                    exact ⟨k + 1, by omega, by rw [HSN.out], by go_num, kr⟩
                  case measure =>
                    clear z1 z2 HZ
                    simp [intOf]
                    omega
                · have hki : ¬ (k : Int) < (lh.length : Int) := by omega
                  obtain rfl : k = lh.length := by omega
                  rw [List.take_of_length_le (by omega), hsum]
                  have hkp := hF.kp.trans kr
                  have hts0 := (hts 0).1
                  generalize sumI ((List.range lh.length).map (dataF lh ld lt).h) = tl at *
                  have e1 : (tl == tl) = true := by simp
                  clear hts
                  by_cases hf0 : fv < 0
                  · have f1 : decide (fv < 0) = true := decide_eq_true hf0
                    clear hsum
                    go_upto_region 60 with (fail)
                    refine wp_region_kw_tail 22 (by kernel_rfl) (by kernel_rfl) ?_
                    simp only [List.take_succ_cons, List.take_zero, List.drop_succ_cons, List.drop_zero]
                    repeat (go_big_quiet_step ((fail)))
                    refine wpQuiet_nil ?_
                    intro _ hw'
                    obtain ⟨u, hw''⟩ := hw'
                    subst hw''
                    go_wp2
                    go_ret
                    exact ⟨rfl, hkp.trans (kw_kp wk u)⟩
                  · have f1 : decide (fv < 0) = false := decide_eq_false hf0
                    obtain ⟨f, rfl⟩ : ∃ f : Nat, fv = (f : Int) := ⟨fv.toNat, by omega⟩
                    obtain ⟨hfn, hfm⟩ := HEND.out.2 f rfl
                    replace hfn : f < lh.length := hfn
                    have hfi : (f : Int) < (lh.length : Int) := by omega
                    have hfh : f < hs.length := by omega
                    have cf := Own.intCell hRk.oh hlen.symm hfh
                    have hfd : f < ld.length := by rw [q3.out]; exact hfn
                    have hfdi : (f : Int) < (ld.length : Int) := by omega
                    obtain ⟨bd, od, rfl, hbd, e0⟩ := hD.u8f hfd
                    have hdr := ud ld[f] (List.getElem_mem hfd)
                    have hdd : (dataF lh ld lt).d f = ld[f] % 32 := by simp only [dataF]; rw [getD_at hfd]
                    rw [hdd, getD_at hfh] at hfm
                    have e2 := hkp.cellS e0
                    generalize ld[f] = dq at *
                    generalize hs[f] = y at *
                    have hm32 : Int.tmod dq 32 = dq % 32 := Int.tmod_eq_emod_of_nonneg hdr.1
                    obtain ⟨mn, hmn⟩ : ∃ mn, min tl (dq % 32) = mn := ⟨_, rfl⟩
                    rw [hmn] at hfm
                    have f2 : decide (mn ≤ y) = true := decide_eq_true hfm
                    have zc := IntWalk.i64_in dq (by omega)
                    have zd := IntWalk.wrap64_in dq (by omega)
                    have hbdw : bd < wk.heap.size := block_lt_of_cell e2
                    have hghw : gh < wk.heap.size := block_lt_of_cell cf
                    clear hsum e0 hdd
                    go_upto_region 60 with (fail)
                    refine wp_region_kw_tail 22 (by kernel_rfl) (by kernel_rfl) ?_
                    simp only [List.take_succ_cons, List.take_zero, List.drop_succ_cons, List.drop_zero]
                    repeat (go_big_quiet_step ((fail)))
                    refine wpQuiet_nil ?_
                    intro _ hw'
                    obtain ⟨u, hw''⟩ := hw'
                    subst hw''
                    go_wp2
                    go_ret
                    exact ⟨rfl, hkp.trans (kw_kp wk u)⟩
end Go.Proofs.Ytbcekihjcgnhkaa
