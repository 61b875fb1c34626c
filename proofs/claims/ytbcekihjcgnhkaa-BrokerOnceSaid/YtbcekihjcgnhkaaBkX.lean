
/-
BrokerOnce: a request is answered up to its amounts only: the walk.
-/
import Derived.Test.YtbcekihjcgnhkaaBkU
import Derived.Test.YtbcekihjcgnhkaaBkV
import Derived.Test.YtbcekihjcgnhkaaBkQ
namespace Go.Proofs.Ytbcekihjcgnhkaa
set_option linter.unusedSimpArgs false
set_option linter.unusedVariables false
open Go.RowKit

def encU8 (k : Int) : List Value := [.int .u8 k]
/-- the cells of bytes -/
theorem Sl.u8s {w : World} {A : Option Addr} {n c : Nat} {l : List Int} (h : Sl (Pl encU8) 1 w (.slice A n c) l) {k : Nat} (hk : k < l.length) :
    ∃ b o, A = some ⟨b, o, none⟩ ∧ b < w.heap.size ∧ w.cell? ⟨b, o + k, none⟩ = some (.int .u8 l[k]) := by
  obtain ⟨b, o, cs, hA, had, hcs, hc, hr⟩ := h.at_ hk
  unfold Pl encU8 at hr
  subst hr
  exact ⟨b, o, hA, had, by simpa using hc 0 _ rfl⟩
/-- needs in blocks that were there before, in a set of blocks -/
theorem nds_sx {S : Nat → Prop} {w w4 : World} {v : Value} {l : List Nd} (h : Nds w v l) (k : Kp w w4) (hs : ∀ q, q < w.heap.size → S q) : Sx S w4 v l := fun w' h1 h2 => by
  have h3 : Nds { w with heap := w'.heap } v l := h.keep (pl_stable _) ⟨rfl, rfl, rfl, Nat.le_trans k.size h1, fun q hq => (h2 q (hs q hq) (Nat.lt_of_lt_of_le hq k.size)).trans (k.block hq)⟩
  exact h3
def numJ (num : Int) (j : Nat) : Int := if j = 0 then num else num + 1
def S0 (b mb k0 : Nat) (k : Nat) : Prop := ¬ B2 b mb k ∧ k ≠ k0
/-- one round of the law: what is there -/
structure OI (w : World) (k0 b mb : Nat) (nn num p1 p2 p3 p4 : Int) (A : Option Addr) (l : List Nd) (c : Nat) (j : Nat) (lj : List Nd) (wr : World) : Prop where
  fresh : j < 2 → lj = l
  box : Bx wr k0 [.int .i64 (numJ num j), .int .i64 p1, .int .i64 p2, .int .i64 p3, .int .i64 p4, .slice A l.length c]
  br : BrW (S0 b mb k0) wr b mb (oneB nn p3 (numJ num j) (p1, p2, p3, p4) lj)
  kp : Kp w wr
structure LI (w : World) (k0 b mb g base : Nat) (nn num p1 p2 p3 p4 : Int) (A : Option Addr) (l : List Nd) (c c5 : Nat) (j : Nat) (left : List Nd) (wr : World) : Prop where
  len : left.length = l.length
  rts : left.map (·.1) = l.map (·.1)
  bnd : ∀ z ∈ left, 0 ≤ z.2 ∧ z.2 ≤ 1000000
  row : Own encNd 41 4 base wr (.slice (some ⟨g, 0, none⟩) l.length c5) left
  box : Bx wr k0 [.int .i64 (numJ num j), .int .i64 p1, .int .i64 p2, .int .i64 p3, .int .i64 p4, .slice A l.length c]
  br : BrW (fun k => S0 b mb k0 k ∧ k ≠ g) wr b mb (oneB nn p3 (numJ num j) (p1, p2, p3, p4) (noZ left))
  kp : Kp w wr
theorem validA_next {r num : Int} {p : Pr} {l : List Nd} (h : validA r ⟨num, p, l⟩ = true) (hn : ¬ 1000 < num) : 1 ≤ num ∧ validA r ⟨num + 1, p, l⟩ = true := by
  unfold validA at h ⊢
  dsimp only at h ⊢
  have h1 : btw num 1 1048576 = true := by
    cases hb : btw num 1 1048576 with
    | true => rfl
    | false => rw [hb] at h; simp at h
  rw [h1] at h
  unfold btw at h1
  simp only [Bool.and_eq_true, decide_eq_true_eq] at h1
  have h2 : btw (num + 1) 1 1048576 = true := by
    unfold btw
    rw [decide_eq_true (show 1 ≤ num + 1 by omega), decide_eq_true (show num + 1 ≤ 1048576 by omega)]
    rfl
  rw [h2]
  exact ⟨h1.1, h⟩
theorem validA_nds {r num : Int} {p : Pr} {l : List Nd} (h : validA r ⟨num, p, l⟩ = true) : validL l = true := by
  unfold validA at h
  dsimp only at h
  cases hb : validL l with
  | true => rfl
  | false => rw [hb] at h; simp at h
theorem left_at {l left : List Nd} {i : Nat} (hl : left.length = l.length) (hm : left.map (·.1) = l.map (·.1)) (hi : i < l.length) {x : Rt} {x4 : Int} (hx : l[i] = (x, x4)) : ∃ y, left[i]'(by omega) = (x, y) ∧ left[i]? = some (x, y) := by
  have h1 : (left.map (·.1))[i]? = (l.map (·.1))[i]? := by rw [hm]
  have hi' : i < left.length := by omega
  simp only [List.getElem?_map, List.getElem?_eq_getElem hi', List.getElem?_eq_getElem hi, Option.map_some, Option.some.injEq] at h1
  rw [hx] at h1
  dsimp only at h1
  refine ⟨left[i].2, ?_, ?_⟩
  · rw [← h1]
  · rw [List.getElem?_eq_getElem hi', ← h1]
theorem rts_nodup {l left : List Nd} (hv : validL l = true) (hm : left.map (·.1) = l.map (·.1)) : (left.map (·.1)).Nodup := by
  rw [hm]
  exact ((validL_iff l).1 hv).2.1
theorem map_set_fst {left : List Nd} {i : Nat} {x : Rt} {y v : Int} (h : left[i]? = some (x, y)) : (left.set i (x, v)).map (·.1) = left.map (·.1) := by
  rw [List.map_set]
  apply List.ext_getElem?
  intro j
  rw [List.getElem?_set]
  split
  · rename_i e
    subst e
    obtain ⟨hlt, he⟩ := List.getElem?_eq_some_iff.1 h
    simp [hlt, he]
  · rfl
theorem validL_at {l : List Nd} {i : Nat} (hv : validL l = true) (hi : i < l.length) : okNd l[i] = true := ((validL_iff l).1 hv).1 _ (List.getElem_mem hi)
theorem validL_bnd {l : List Nd} (hv : validL l = true) : ∀ z ∈ l, 1 ≤ z.2 ∧ z.2 ≤ 1000000 := fun z hz => by
  have := ((validL_iff l).1 hv).1 z hz
  unfold okNd btw at this
  simp only [Bool.and_eq_true, decide_eq_true_eq] at this
  exact this.2
set_option maxRecDepth 8000 in
set_option maxHeartbeats 16000000 in
theorem once_walk (rp : Int) (hr0 : 0 ≤ rp) (hr1 : rp < 256) (a : Ak) (v : Value) (hs : List Int) (vh : Value) (w : World) (hS : Nds w v a.needs) (hH : Sl (Pl encU8) 1 w vh hs) (hu : ∀ k ∈ hs, 0 ≤ k ∧ k < 256) :
    Calls Try.prog 4 #[.int .u8 rp, askV a v, vh] w fun e w' => e = .returned (.bool true) ∧ Kp w w' := by
  obtain ⟨num, ⟨p1, p2, p3, p4⟩, l⟩ := a
  dsimp only at hS ⊢
  obtain ⟨A, c, rfl, hc, hm⟩ := hS.form
  obtain ⟨Ah, ch, rfl, hch, hmh⟩ := hH.form
  have hB := Bx.new w #[.int .i64 num, .int .i64 p1, .int .i64 p2, .int .i64 p3, .int .i64 p4, .slice A l.length c] 29
  have kw := (Kp.refl w).alloc (.cells #[.int .i64 num, .int .i64 p1, .int .i64 p2, .int .i64 p3, .int .i64 p4, .slice A l.length c] 29)
  have hrp : Int.tmod rp 4 = rp % 4 := Int.tmod_eq_emod_of_nonneg hr0
  go_enter Try.func4, Try.ntmps4
  go_upto_region 1 with (fail)
  generalize w.alloc (.cells #[.int .i64 num, .int .i64 p1, .int .i64 p2, .int .i64 p3, .int .i64 p4, .slice A l.length c] 29) = w1 at *
  have hk0 : w.heap.size ≤ w.heap.size := Nat.le_refl _
  generalize hk0e : w.heap.size = k0 at *
  replace hk0e := hid hk0e
  go_wp2_with fail
  refine (awake41_any w1).mono ?_
  rintro e w2 ⟨rfl, k2⟩
  have A0 := hB.cell (j := 0) rfl
  have A3 := hB.cell (j := 3) rfl
  have A5 := hB.cell (j := 5) rfl
  replace kw := kw.trans k2
  replace hB := hB.keep ((k2).block (hB.lt (by simp)))
  clear A0 A3 A5
  have A0 := hB.cell (j := 0) rfl
  have A1 := hB.cell (j := 1) rfl
  have A2 := hB.cell (j := 2) rfl
  have A3 := hB.cell (j := 3) rfl
  have A4 := hB.cell (j := 4) rfl
  have A5 := hB.cell (j := 5) rfl
  go_upto_region 4 with (fail)
  have hn2 : 2 ≤ 2 + rp % 4 := by omega
  have hn5 : 2 + rp % 4 ≤ 5 := by omega
  generalize 2 + rp % 4 = nn at *
  by_cases q1 : 20 < hs.length
  · have f1 : decide ((20 : Int) < (hs.length : Int)) = true := decide_eq_true (by omega)
    go_wp2
    go_ret
    exact ⟨rfl, kw⟩
  have f1 : decide ((20 : Int) < (hs.length : Int)) = false := decide_eq_false (by omega)
  by_cases q2 : 12 < l.length
  · have f2 : decide ((12 : Int) < (l.length : Int)) = true := decide_eq_true (by omega)
    go_wp2
    go_ret
    exact ⟨rfl, kw⟩
  have f2 : decide ((12 : Int) < (l.length : Int)) = false := decide_eq_false (by omega)
  by_cases q3 : p3 < 1
  · have f3 : decide (p3 < 1) = true := decide_eq_true q3
    go_wp2
    go_ret
    exact ⟨rfl, kw⟩
  have f3 : decide (p3 < 1) = false := decide_eq_false q3
  by_cases q4 : nn ≤ p3
  · have f4 : decide (nn ≤ p3) = true := decide_eq_true q4
    go_wp2
    go_ret
    exact ⟨rfl, kw⟩
  have f4 : decide (nn ≤ p3) = false := decide_eq_false q4
  go_wp2_with fail
  refine (rValidAsk_any p3 ⟨num, (p1, p2, p3, p4), l⟩ (.slice A l.length c) w2 (hS.keep (pl_stable _) kw)).mono ?_
  rintro e w3 ⟨rfl, k3⟩
  replace kw := kw.trans k3
  replace hB := hB.keep ((k3).block (hB.lt (by simp)))
  clear A0 A3 A5
  have A0 := hB.cell (j := 0) rfl
  have A1 := hB.cell (j := 1) rfl
  have A2 := hB.cell (j := 2) rfl
  have A3 := hB.cell (j := 3) rfl
  have A4 := hB.cell (j := 4) rfl
  have A5 := hB.cell (j := 5) rfl
  cases hval : validA p3 ⟨num, (p1, p2, p3, p4), l⟩ with
  | false =>
    go_wp2
    go_ret
    exact ⟨rfl, kw⟩
  | true =>
    by_cases q6 : 1000 < num
    · have f6 : decide (1000 < num) = true := decide_eq_true q6
      go_wp2
      go_ret
      exact ⟨rfl, kw⟩
    have f6 : decide (1000 < num) = false := decide_eq_false q6
    go_wp2_with fail
    refine (bNew_any nn 0 w3).mono ?_
    have hbad : badNew nn 0 = false := by
      unfold badNew
      rw [decide_eq_false (show ¬ nn < 1 by omega), decide_eq_false (show ¬ 5 < nn by omega), decide_eq_false (show ¬ nn ≤ 0 by omega)]
      rfl
    rintro e w4 ⟨h4, k4⟩
    rcases h4 with ⟨h4, -⟩ | ⟨-, b, mb, rfl, hbw, hmw, hbr⟩
    · rw [hbad] at h4; cases h4
    have hw3 := kw.size
    have hk03 := hB.lt (by simp)
    have hk0w := hk0e.out
    have hb4 := hbr (S0 b mb k0) (fun h => h.1 (.inl rfl)) (fun h => h.1 (.inr rfl))
    clear hbr
    have n2 : ∀ q, w4.heap.size ≤ q → S0 b mb k0 q := fun q hq => ⟨fun e => by have := hb4.lt; have := hb4.mlt; rcases e with e | e <;> omega, by have := k4.size; omega⟩
    have nW : ∀ q, q < w.heap.size → S0 b mb k0 q := fun q hq => ⟨fun e => by rcases e with e | e <;> omega, by omega⟩
    replace kw := kw.trans k4
    replace hB := hB.keep ((k4).block (hB.lt (by simp)))
    clear A0 A3 A5
    have A0 := hB.cell (j := 0) rfl
    have A1 := hB.cell (j := 1) rfl
    have A2 := hB.cell (j := 2) rfl
    have A3 := hB.cell (j := 3) rfl
    have A4 := hB.cell (j := 4) rfl
    have A5 := hB.cell (j := 5) rfl
    have hk0b : ¬ B2 b mb k0 := fun e => by rcases e with e | e <;> omega
    have n2' : ∀ W : World, w4.heap.size ≤ W.heap.size → ∀ q, W.heap.size ≤ q → S0 b mb k0 q := fun W hW q hq => n2 q (by omega)
    have hSX : ∀ W : World, Kp w W → Sx (S0 b mb k0) W (.slice A l.length c) l := fun W hW => nds_sx hS hW nW
    go_wp2_with fail
    refine (bHear_any (S := S0 b mb k0) (b := b) (mb := mb) (s := newB nn 0) p3 ⟨num, (p1, p2, p3, p4), l⟩ (.slice A l.length c) hb4 (n2' w4 (Nat.le_refl _)) (hSX w4 kw)).mono ?_
    rintro e w5 ⟨he, hb5, fx5⟩
    rw [one_new hbad (by omega) (by omega) hval] at he hb5
    dsimp only at he hb5
    subst he
    replace kw := ((kw.fx (B2 b mb)).trans fx5).kp fun q hq => (nW q hq).1
    replace hB := hB.keep (fx5.block k0 (hB.lt (by simp)) hk0b)
    have hs5 : w4.heap.size ≤ w5.heap.size := fx5.size
    clear A0 A1 A2 A3 A4 A5 fx5 hb4
    have A0 := hB.cell (j := 0) rfl
    have A1 := hB.cell (j := 1) rfl
    have A2 := hB.cell (j := 2) rfl
    have A3 := hB.cell (j := 3) rfl
    have A4 := hB.cell (j := 4) rfl
    have A5 := hB.cell (j := 5) rfl
    go_wp2_with fail
    refine (bHear_any (S := S0 b mb k0) (b := b) (mb := mb) (s := oneB nn p3 num (p1, p2, p3, p4) l) p3 ⟨num, (p1, p2, p3, p4), l⟩ (.slice A l.length c) hb5 (n2' w5 hs5) (hSX w5 kw)).mono ?_
    rintro e w6 ⟨he, hb6, fx6⟩
    rw [one_again (a := ⟨num, (p1, p2, p3, p4), l⟩) (by omega) (by omega) hval] at he hb6
    dsimp only at he hb6
    subst he
    replace kw := ((kw.fx (B2 b mb)).trans fx6).kp fun q hq => (nW q hq).1
    replace hB := hB.keep (fx6.block k0 (hB.lt (by simp)) hk0b)
    have hs6 : w4.heap.size ≤ w6.heap.size := Nat.le_trans hs5 fx6.size
    clear A0 A1 A2 A3 A4 A5 fx6 hb5
    obtain ⟨hnum1, hval2⟩ := validA_next hval (by omega)
    have hvl := validA_nds hval
    go_wp2_with fail
    go_loopw [89] (fun i wr => ∃ j : Nat, j ≤ 2 ∧ i = .int .i64 (j : Int) ∧ w4.heap.size ≤ wr.heap.size ∧ Hid (∃ lj, OI w k0 b mb nn num p1 p2 p3 p4 A l c j lj wr)) (fun i _ => 2 - (intOf i).toNat)
    case atStart => exact ⟨0, by omega, rfl, hs6, hid ⟨l, fun _ => rfl, hB, hb6, kw⟩⟩
    case round =>
      obtain ⟨j, hj2, rfl, hsr, HO⟩ := hrel
      obtain ⟨lj, hO⟩ := HO.out
      clear HO hB hb6 kw hs6 hs5
      obtain ⟨w7, hw7⟩ : ∃ w7, w7 = wr := ⟨_, rfl⟩
      subst hw7
      have hB := hO.box
      have kw := hO.kp
      have hb7 := hO.br
      have HFR := hid hO.fresh
      clear hO
      have A0 := hB.cell (j := 0) rfl
      have A1 := hB.cell (j := 1) rfl
      have A2 := hB.cell (j := 2) rfl
      have A3 := hB.cell (j := 3) rfl
      have A4 := hB.cell (j := 4) rfl
      have A5 := hB.cell (j := 5) rfl
      by_cases hj : j < 2
      · have hji : (j : Int) < 2 := by omega
        obtain rfl : lj = l := HFR.out hj
        go_wp2_with fail
        refine (CloneNd_any (.slice A lj.length c) lj w7 (hS.keep (pl_stable _) kw) (by omega)).mono ?_
        rintro e w8 ⟨vl, rfl, own8, k8⟩
        replace kw := kw.trans k8
        replace hB := hB.keep (k8.block (hB.lt (by simp)))
        have hs8 : w4.heap.size ≤ w8.heap.size := Nat.le_trans hsr k8.size
        clear A0 A1 A2 A3 A4 A5
        have A0 := hB.cell (j := 0) rfl
        have A1 := hB.cell (j := 1) rfl
        have A2 := hB.cell (j := 2) rfl
        have A3 := hB.cell (j := 3) rfl
        have A4 := hB.cell (j := 4) rfl
        have A5 := hB.cell (j := 5) rfl
        by_cases hl0 : lj.length = 0
        · have f8 : ((lj.length : Int) == 0) = true := by simpa using hl0
          replace hl0 := hid hl0
          replace hb7 := hb7.kp k8
          obtain ⟨A5', c5', rfl, -, -⟩ := own8.form
          clear own8
          go_wp2_with fail
          go_loopw [97] (fun i wr => i = .int .i64 0 ∧ wr = w8) (fun _ _ => 0)
          case atStart => exact ⟨rfl, rfl⟩
          case round =>
            obtain ⟨rfl, rfl⟩ := hrel
            obtain ⟨w9, hw9⟩ : ∃ w9, w9 = wr := ⟨_, rfl⟩
            subst hw9
            by_cases hh0 : 0 < hs.length
            · have hki : (0 : Int) < (hs.length : Int) := by omega
              obtain ⟨bh, oh, rfl, hbh, e0⟩ := (hH.keep (pl_stable _) kw).u8s hh0
              simp only [Nat.add_zero] at e0
              generalize hs[0] = q at *
              by_cases hj0 : j = 0
              · have fj : ((j : Int) == 0) = true := by simpa using hj0
                have hnj : numJ num j = num := by rw [hj0]; rfl
                rw [hnj] at A0 hB hb7
                have HZ3 := hid (And.intro (IntWalk.i64_in (num + 1) (by omega)) (IntWalk.wrap64_in (num + 1) (by omega)))
                have z1 := HZ3.out.1
                have z2 := HZ3.out.2
                have f0 := hB.free (j := 0) (by simp)
                have hB10 := hB.set (j := 0) (by simp) (.int .i64 (num + 1))
                simp only [List.set_cons_zero] at hB10
                have kg10 := (Kg.refl w9 k0).set (p := ⟨k0, 0, none⟩) (.inl rfl) (.int .i64 (num + 1))
                have hz10 := set_size w9 ⟨k0, 0, none⟩ (.int .i64 (num + 1))
                have kw10 := ((kw.fx (fun q => q = k0)).trans (kg10.fx (.inl rfl))).kp (fun q hq e => by have := hk0e.out; omega)
                have hb10 := BrW.fx (X := fun q => q = k0) hb7 (kg10.fx (.inl rfl)) (fun q hq => hq.2) (fun e => hk0b (.inl e.symm)) (fun e => hk0b (.inr e.symm))
                have hs10 : w4.heap.size ≤ (w9.setCell ⟨k0, 0, none⟩ (.int .i64 (num + 1))).heap.size := by omega
                have HZ10 := hid hz10
                clear hz10
                go_upto_region 28 with (fail)
                generalize w9.setCell ⟨k0, 0, none⟩ (.int .i64 (num + 1)) = w10 at *
                clear A0 A1 A2 A3 A4 A5
                have A0 := hB10.cell (j := 0) rfl
                have A1 := hB10.cell (j := 1) rfl
                have A2 := hB10.cell (j := 2) rfl
                have A3 := hB10.cell (j := 3) rfl
                have A4 := hB10.cell (j := 4) rfl
                have A5 := hB10.cell (j := 5) rfl
                go_wp2_with fail
                refine (bHear_any (S := S0 b mb k0) (b := b) (mb := mb) (s := oneB nn p3 num (p1, p2, p3, p4) lj) p3 ⟨num + 1, (p1, p2, p3, p4), lj⟩ _ hb10 (n2' w10 hs10) (hSX w10 kw10)).mono ?_
                rintro e w11 ⟨he, hb11, fx11⟩
                rw [one_next (a := ⟨num + 1, (p1, p2, p3, p4), lj⟩) (by omega) (by omega) hval2 (by dsimp only; omega)] at he hb11
                dsimp only at he hb11
                subst he
                go_wp2_with fail
                go_roundw
                case rel => exact ⟨j + 1, by omega, by go_num, Nat.le_trans hs10 fx11.size, hid ⟨lj, fun _ => rfl, by rw [hj0]; exact hB10.keep (fx11.block k0 (hB10.lt (by simp)) hk0b), by rw [hj0]; exact hb11, ((kw10.fx (B2 b mb)).trans fx11).kp fun q hq => (nW q hq).1⟩⟩
                case measure => simp [intOf]; omega
              · have fj : ((j : Int) == 0) = false := by simpa using hj0
                have hnj : numJ num j = num + 1 := if_neg hj0
                have hnj' : numJ num (j + 1) = num + 1 := if_neg (by omega)
                go_wp2_with fail
                go_roundw
                case rel => exact ⟨j + 1, by omega, by go_num, hs8, hid ⟨lj, fun h => by omega, by rw [hnj', ← hnj]; exact hB, by rw [hnj', ← hnj]; exact hb7, kw⟩⟩
                case measure => simp [intOf]; omega
            · have hki : ¬ (0 : Int) < (hs.length : Int) := by omega
              by_cases hj0 : j = 0
              · have fj : ((j : Int) == 0) = true := by simpa using hj0
                have hnj : numJ num j = num := by rw [hj0]; rfl
                rw [hnj] at A0 hB hb7
                have HZ3 := hid (And.intro (IntWalk.i64_in (num + 1) (by omega)) (IntWalk.wrap64_in (num + 1) (by omega)))
                have z1 := HZ3.out.1
                have z2 := HZ3.out.2
                have f0 := hB.free (j := 0) (by simp)
                have hB10 := hB.set (j := 0) (by simp) (.int .i64 (num + 1))
                simp only [List.set_cons_zero] at hB10
                have kg10 := (Kg.refl w9 k0).set (p := ⟨k0, 0, none⟩) (.inl rfl) (.int .i64 (num + 1))
                have hz10 := set_size w9 ⟨k0, 0, none⟩ (.int .i64 (num + 1))
                have kw10 := ((kw.fx (fun q => q = k0)).trans (kg10.fx (.inl rfl))).kp (fun q hq e => by have := hk0e.out; omega)
                have hb10 := BrW.fx (X := fun q => q = k0) hb7 (kg10.fx (.inl rfl)) (fun q hq => hq.2) (fun e => hk0b (.inl e.symm)) (fun e => hk0b (.inr e.symm))
                have hs10 : w4.heap.size ≤ (w9.setCell ⟨k0, 0, none⟩ (.int .i64 (num + 1))).heap.size := by omega
                have HZ10 := hid hz10
                clear hz10
                go_upto_region 28 with (fail)
                generalize w9.setCell ⟨k0, 0, none⟩ (.int .i64 (num + 1)) = w10 at *
                clear A0 A1 A2 A3 A4 A5
                have A0 := hB10.cell (j := 0) rfl
                have A1 := hB10.cell (j := 1) rfl
                have A2 := hB10.cell (j := 2) rfl
                have A3 := hB10.cell (j := 3) rfl
                have A4 := hB10.cell (j := 4) rfl
                have A5 := hB10.cell (j := 5) rfl
                go_wp2_with fail
                refine (bHear_any (S := S0 b mb k0) (b := b) (mb := mb) (s := oneB nn p3 num (p1, p2, p3, p4) lj) p3 ⟨num + 1, (p1, p2, p3, p4), lj⟩ _ hb10 (n2' w10 hs10) (hSX w10 kw10)).mono ?_
                rintro e w11 ⟨he, hb11, fx11⟩
                rw [one_next (a := ⟨num + 1, (p1, p2, p3, p4), lj⟩) (by omega) (by omega) hval2 (by dsimp only; omega)] at he hb11
                dsimp only at he hb11
                subst he
                go_wp2_with fail
                go_roundw
                case rel => exact ⟨j + 1, by omega, by go_num, Nat.le_trans hs10 fx11.size, hid ⟨lj, fun _ => rfl, by rw [hj0]; exact hB10.keep (fx11.block k0 (hB10.lt (by simp)) hk0b), by rw [hj0]; exact hb11, ((kw10.fx (B2 b mb)).trans fx11).kp fun q hq => (nW q hq).1⟩⟩
                case measure => simp [intOf]; omega
              · have fj : ((j : Int) == 0) = false := by simpa using hj0
                have hnj : numJ num j = num + 1 := if_neg hj0
                have hnj' : numJ num (j + 1) = num + 1 := if_neg (by omega)
                go_wp2_with fail
                go_roundw
                case rel => exact ⟨j + 1, by omega, by go_num, hs8, hid ⟨lj, fun h => by omega, by rw [hnj', ← hnj]; exact hB, by rw [hnj', ← hnj]; exact hb7, kw⟩⟩
                case measure => simp [intOf]; omega
        · have hl1 : 0 < lj.length := by omega
          have f8 : ((lj.length : Int) == 0) = false := by simpa using hl0
          replace hl0 := hid hl0
          obtain ⟨g, c5, rfl, hc5, hm5, hg5, hgl⟩ := own8.row hl1
          have hbg := (hb7.to (T := fun k => S0 b mb k0 k ∧ k ≠ g) (fun q hq hs => ⟨hs, by omega⟩) (fun h => h.1.1 (.inl rfl)) (fun h => h.1.1 (.inr rfl))).kp k8
          have hgW : w.heap.size ≤ g := by have := k4.size; omega
          have hnz : noZ lj = lj := noZ_all fun z hz => by have := validL_bnd hvl z hz; omega
          have hbg' : BrW (fun k => S0 b mb k0 k ∧ k ≠ g) w8 b mb (oneB nn p3 (numJ num j) (p1, p2, p3, p4) (noZ lj)) := by rw [hnz]; exact hbg
          have hgb : g ≠ b ∧ g ≠ mb ∧ g ≠ k0 := by
            have h1 := hb7.lt
            have h2 := hb7.mlt
            have h3 := kw.size
            refine ⟨by omega, by omega, by omega⟩
          clear hbg hb7
          replace hnz := hid hnz
          have HL0 : Hid (∃ left, LI w k0 b mb g w7.heap.size nn num p1 p2 p3 p4 A lj c c5 j left w8) := hid ⟨lj, rfl, rfl, fun z hz => by have := validL_bnd hvl z hz; omega, own8, hB, hbg', kw⟩
          clear own8 hbg'
          go_wp2_with fail
          go_loopw [97] (fun i wr => ∃ k : Nat, k ≤ hs.length ∧ i = .int .i64 (k : Int) ∧ w8.heap.size ≤ wr.heap.size ∧ Hid (∃ left, LI w k0 b mb g w7.heap.size nn num p1 p2 p3 p4 A lj c c5 j left wr)) (fun i _ => hs.length - (intOf i).toNat)
          case atStart => exact ⟨0, Nat.zero_le _, rfl, Nat.le_refl _, HL0⟩
          case round =>
            obtain ⟨k, hk, rfl, hsi, HL⟩ := hrel
            obtain ⟨left, hL⟩ := HL.out
            clear HL HL0 hB kw A0 A1 A2 A3 A4 A5
            obtain ⟨w9, hw9⟩ : ∃ w9, w9 = wr := ⟨_, rfl⟩
            subst hw9
            have hB := hL.box
            have kw := hL.kp
            have hb9 := hL.br
            have row := hL.row
            have HLEN := hid hL.len
            have HRT := hid hL.rts
            have HBN := hid hL.bnd
            clear hL
            have A0 := hB.cell (j := 0) rfl
            have A1 := hB.cell (j := 1) rfl
            have A2 := hB.cell (j := 2) rfl
            have A3 := hB.cell (j := 3) rfl
            have A4 := hB.cell (j := 4) rfl
            have A5 := hB.cell (j := 5) rfl
            have hs9 : w4.heap.size ≤ w9.heap.size := Nat.le_trans hs8 hsi
            by_cases hkl : k < hs.length
            · have hki : (k : Int) < (hs.length : Int) := by omega
              obtain ⟨bh, oh, rfl, hbh, e0⟩ := (hH.keep (pl_stable _) kw).u8s hkl
              have hq := hu hs[k] (List.getElem_mem hkl)
              generalize hs[k] = q at *
              have hi0 : 0 ≤ q % (lj.length : Int) := Int.emod_nonneg _ (by omega)
              have hi1 : q % (lj.length : Int) < lj.length := Int.emod_lt_of_pos _ (by omega)
              obtain ⟨i, hi⟩ : ∃ i : Nat, q % (lj.length : Int) = (i : Int) := ⟨_, (Int.toNat_of_nonneg hi0).symm⟩
              rw [hi] at hi0 hi1
              have hil : i < lj.length := by omega
              have hmod : Int.tmod q (lj.length : Int) = (i : Int) := by rw [Int.tmod_eq_emod_of_nonneg hq.1]; exact hi
              have hdiv : Int.tdiv q 8 = q / 8 := Int.tdiv_eq_ediv_of_nonneg hq.1
              have hd0 : 0 ≤ q / 8 := by omega
              have hd1 : q / 8 < 32 := by omega
              obtain ⟨bn, on, rfl, hbn, m0, m1, m2, m3⟩ := (hS.keep (pl_stable _) kw).nd hil
              obtain ⟨⟨⟨x1, x2, x3⟩, x4⟩, hxe⟩ : ∃ x, lj[i] = x := ⟨_, rfl⟩
              rw [hxe] at m0 m1 m2 m3
              dsimp only at m0 m1 m2 m3
              have hok := validL_at hvl hil
              rw [hxe] at hok
              obtain ⟨y, hy1, hy2⟩ := left_at HLEN.out HRT.out hil hxe
              have hyb := HBN.out _ (List.mem_of_getElem? hy2)
              dsimp only at hyb
              replace hi := hid hi
              replace hxe := hid hxe
              replace hy1 := hid hy1
              replace hy2 := hid hy2
              replace hok := hid hok
              have kb := (Kp.refl w9).alloc (.cells #[.int .i64 x1, .int .i64 x2, .int .i64 x3] 39)
              have hX := Bx.new w9 #[.int .i64 x1, .int .i64 x2, .int .i64 x3] 39
              have hx9 : w9.heap.size ≤ w9.heap.size := Nat.le_refl _
              go_upto_region 19 with (fail)
              generalize w9.alloc (.cells #[.int .i64 x1, .int .i64 x2, .int .i64 x3] 39) = w10 at *
              generalize hxb : w9.heap.size = xb at *
              replace hxb := hid hxb
              have X0 := hX.cell (j := 0) rfl
              have X1 := hX.cell (j := 1) rfl
              have X2 := hX.cell (j := 2) rfl
              go_wp2_with fail
              have hxb9 := hxb.out
              have hgw9 : g < w9.heap.size := by omega
              have hx10 := hX.lt (by simp)
              obtain ⟨m, hm9⟩ : ∃ m : Int, 1 + q / 8 = m := ⟨_, rfl⟩
              rw [hm9]
              have hm1 : 1 ≤ m := by omega
              have hm2 : m ≤ 1000000 := by omega
              replace hm9 := hid hm9
              have kz := (Kp.refl w10).alloc (.cells #[.int .i64 x1, .int .i64 x2, .int .i64 x3, .int .i64 m] 41)
              have own11 := Own.lit (base := w10.heap.size) (e := 41) (size := 4) encNd w10 #[.int .i64 x1, .int .i64 x2, .int .i64 x3, .int .i64 m] [((x1, x2, x3), m)] (Nat.le_refl _) (by simp) rfl rfl
              have hz10 : w4.heap.size ≤ w10.heap.size := by have := kb.size; omega
              have hg10 : g < w10.heap.size := by have := kb.size; omega
              have hbx9 : b < xb ∧ mb < xb := by have := hb9.lt; have := hb9.mlt; omega
              have hb11 := (hb9.kp kb).kp kz
              have row11 := (row.kp kb).kp kz
              have hB11 := (hB.keep (kb.block (hB.lt (by simp)))).keep (kz.block (Nat.lt_of_lt_of_le (hB.lt (by simp)) kb.size))
              have hX11 := hX.keep (kz.block (hX.lt (by simp)))
              have kw11 := (kw.trans kb).trans kz
              have hz11 := kz.size
              clear hb9 row hB hX kw kb kz A0 A1 A2 A3 A4 A5 X0 X1 X2 m0 m1 m2 m3 e0
              generalize w10.alloc (.cells #[.int .i64 x1, .int .i64 x2, .int .i64 x3, .int .i64 m] 41) = w11 at *
              generalize w10.heap.size = gb at *
              have hg11 := hb11.lt
              have hn11 : ∀ q, w11.heap.size ≤ q → S0 b mb k0 q ∧ q ≠ g := fun q hq => ⟨n2' w11 (by omega) q hq, by omega⟩
              have hgr := one_grants (n := nn) (num := numJ num j) (p := (p1, p2, p3, p4)) (l := left) (x := (x1, x2, x3)) (m := m) (y := y) (i := i) (by dsimp only; omega) (by dsimp only; omega) (validL_one hok.out hm1 hm2) hm1 (fun z hz => (HBN.out z hz).1) (rts_nodup hvl HRT.out) hy2.out
              dsimp only at hgr
              obtain ⟨want, hwant⟩ : ∃ want, min m y = want := ⟨_, rfl⟩
              rw [hwant] at hgr
              have hw0 : 0 ≤ want := by omega
              have hw1 : want ≤ y := by omega
              have hwz : want ≤ 1000000 := by omega
              have hwt := hwant
              replace hwant := hid hwant
              refine (bGrants_any (S := fun k => S0 b mb k0 k ∧ k ≠ g) (b := b) (mb := mb) (s := oneB nn p3 (numJ num j) (p1, p2, p3, p4) (noZ left)) [((x1, x2, x3), m)] (.slice (some ⟨gb, 0, none⟩) 1 1) hb11 hn11 (own11.sx fun q hq => ⟨n2 q (by omega), by omega⟩)).mono ?_
              rintro e w12 ⟨gv, rfl, gown, hb12, fx12⟩
              rw [hgr] at gown hb12
              dsimp only at gown hb12
              have kw12 := ((kw11.fx (B2 b mb)).trans fx12).kp fun q hq => (nW q hq).1
              have hB12 := hB11.keep (fx12.block k0 (hB11.lt (by simp)) hk0b)
              have nxb : ¬ B2 b mb xb := fun e => by rcases e with e | e <;> omega
              have hX12 := hX11.keep (fx12.block xb (hX11.lt (by simp)) nxb)
              have row12 := row11.owS w12 fx12.size (fun q hq hlt => fx12.block q hlt (fun e => by
                have hq : g = q := by simpa [Value.ownBlock] using hq
                rcases e with e | e <;> omega))
              have hz12 := fx12.size
              clear fx12 hb11 row11 hB11 hX11 kw11 own11 hgr
              have hB := hB12
              have A0 := hB.cell (j := 0) rfl
              have A1 := hB.cell (j := 1) rfl
              have A2 := hB.cell (j := 2) rfl
              have A3 := hB.cell (j := 3) rfl
              have A4 := hB.cell (j := 4) rfl
              have A5 := hB.cell (j := 5) rfl
              have X0 := hX12.cell (j := 0) rfl
              have X1 := hX12.cell (j := 1) rfl
              have X2 := hX12.cell (j := 2) rfl
              obtain ⟨m0, m1, m2, m3⟩ := own_nd row12 HLEN.out.symm (k := i) (by rw [HLEN.out]; exact hil) hy1.out
              have HZ9 := hid (And.intro (IntWalk.i64_in (y - want) (by omega)) (IntWalk.wrap64_in (y - want) (by omega)))
              go_upto_region 22 with (fail)
              by_cases hw00 : want = 0
              · have g0 : (want == 0) = true := by simpa using hw00
                have g1 : decide (0 < want) = false := decide_eq_false (by omega)
                have go0 : Own encGr 46 5 w11.heap.size w12 gv [] := by rw [if_pos hw00] at gown; exact gown
                obtain ⟨A12, c12, he12, -, -⟩ := go0.form
                have he12 : gv = .slice A12 0 c12 := he12
                subst he12
                replace hw00 := hid hw00
                clear gown go0
                have hzE := hz12
                have ff := (row12).frozen HLEN.out.symm (i * 4 + 3)
                have hlen4 : left.length = lj.length := HLEN.out
                have hrow5 : Own encNd 41 4 w7.heap.size (w12.setCell ⟨g, i * 4 + 3, none⟩ (.int .i64 (y - want))) (.slice (some ⟨g, 0, none⟩) lj.length c5) (left.set i ((x1, x2, x3), y - want)) := by
                  have h1 := row12
                  rw [← hlen4] at h1
                  have h2 := Own.set (k := i) (j := 3) (u := .int .i64 (y - want)) (x := ((x1, x2, x3), y - want)) encNd_len h1 (by omega) (by omega) (fun hk => by rw [hy1.out]; rfl)
                  rw [hlen4] at h2
                  exact h2
                have kg5 := (Kg.refl w12 g).set (p := ⟨g, i * 4 + 3, none⟩) (.inl rfl) (.int .i64 (y - want))
                have fx5 := kg5.fx (X := fun q => q = g) (.inl rfl)
                have HLI : Hid (LI w k0 b mb g w7.heap.size nn num p1 p2 p3 p4 (some ⟨bn, on, none⟩) lj c c5 j (left.set i ((x1, x2, x3), y - want)) (w12.setCell ⟨g, i * 4 + 3, none⟩ (.int .i64 (y - want)))) := hid
                  ⟨by rw [List.length_set]; exact hlen4, by rw [map_set_fst hy2.out]; exact HRT.out, fun z hz => by
                    rcases List.mem_or_eq_of_mem_set hz with hz | rfl
                    · exact HBN.out z hz
                    · dsimp only; omega, hrow5, (hB12).keep (fx5.block k0 ((hB12).lt (by simp)) (by omega)), (hb12).fx fx5 (fun q hq => hq.2) (by omega) (by omega), (((kw12).fx (fun q => q = g)).trans fx5).kp fun q hq => by omega⟩
                have hz5 := set_size w12 ⟨g, i * 4 + 3, none⟩ (.int .i64 (y - want))
                have HZ5 := hid hz5
                clear hrow5 kg5 fx5 hlen4 hz5
                have z1 := HZ9.out.1
                have z2 := HZ9.out.2
                go_wp2_with fail
                go_roundw
                case rel =>
                  clear z1 z2 HZ9
                  exact ⟨k + 1, by omega, by go_num, by rw [HZ5.out]; omega, hid ⟨_, HLI.out⟩⟩
                case measure =>
                  clear z1 z2 HZ9
                  simp [intOf]
                  omega
              · have g0 : (want == 0) = false := by simpa using hw00
                have g1 : decide (0 < want) = true := decide_eq_true (by omega)
                have go0 : Own encGr 46 5 w11.heap.size w12 gv [(p3, (x1, x2, x3), want)] := by rw [if_neg hw00] at gown; exact gown
                obtain ⟨A12, c12, he12, -, -⟩ := go0.form
                have he12 : gv = .slice A12 1 c12 := he12
                subst he12
                replace hw00 := hid hw00
                clear gown
                have k13 := (Kp.refl w12).alloc (.cells #[.int .i64 p3, .int .i64 x1, .int .i64 x2, .int .i64 x3, .int .i64 want] 46)
                have hl13 : Grs (w12.alloc (.cells #[.int .i64 p3, .int .i64 x1, .int .i64 x2, .int .i64 x3, .int .i64 want] 46)) (.slice (some ⟨w12.heap.size, 0, none⟩) 1 1) [(p3, (x1, x2, x3), want)] :=
                  Sl.one (R := Pl encGr) w12 [.int .i64 p3, .int .i64 x1, .int .i64 x2, .int .i64 x3, .int .i64 want] 46 5 _ rfl rfl
                go_wp2_with fail
                refine (EqualGr_same _ _ _ _ ((go0.sl encGr_len).keep (pl_stable _) k13) hl13).mono ?_
                rintro e w14 ⟨rfl, k14⟩
                have k15 := k13.trans k14
                have row14 := row12.kp k15
                have hB14 := hB12.keep (k15.block (hB12.lt (by simp)))
                have hb14 := hb12.kp k15
                have kw14 := kw12.trans k15
                have hzE : w11.heap.size ≤ w14.heap.size := Nat.le_trans hz12 k15.size
                clear A0 A1 A2 A3 A4 A5 X0 X1 X2 m0 m1 m2 m3 k13 k14 k15 go0 hl13
                obtain ⟨m0, m1, m2, m3⟩ := own_nd row14 HLEN.out.symm (k := i) (by rw [HLEN.out]; exact hil) hy1.out
                have ff := (row14).frozen HLEN.out.symm (i * 4 + 3)
                have hlen4 : left.length = lj.length := HLEN.out
                have hrow5 : Own encNd 41 4 w7.heap.size (w14.setCell ⟨g, i * 4 + 3, none⟩ (.int .i64 (y - want))) (.slice (some ⟨g, 0, none⟩) lj.length c5) (left.set i ((x1, x2, x3), y - want)) := by
                  have h1 := row14
                  rw [← hlen4] at h1
                  have h2 := Own.set (k := i) (j := 3) (u := .int .i64 (y - want)) (x := ((x1, x2, x3), y - want)) encNd_len h1 (by omega) (by omega) (fun hk => by rw [hy1.out]; rfl)
                  rw [hlen4] at h2
                  exact h2
                have kg5 := (Kg.refl w14 g).set (p := ⟨g, i * 4 + 3, none⟩) (.inl rfl) (.int .i64 (y - want))
                have fx5 := kg5.fx (X := fun q => q = g) (.inl rfl)
                have HLI : Hid (LI w k0 b mb g w7.heap.size nn num p1 p2 p3 p4 (some ⟨bn, on, none⟩) lj c c5 j (left.set i ((x1, x2, x3), y - want)) (w14.setCell ⟨g, i * 4 + 3, none⟩ (.int .i64 (y - want)))) := hid
                  ⟨by rw [List.length_set]; exact hlen4, by rw [map_set_fst hy2.out]; exact HRT.out, fun z hz => by
                    rcases List.mem_or_eq_of_mem_set hz with hz | rfl
                    · exact HBN.out z hz
                    · dsimp only; omega, hrow5, (hB14).keep (fx5.block k0 ((hB14).lt (by simp)) (by omega)), (hb14).fx fx5 (fun q hq => hq.2) (by omega) (by omega), (((kw14).fx (fun q => q = g)).trans fx5).kp fun q hq => by omega⟩
                have hz5 := set_size w14 ⟨g, i * 4 + 3, none⟩ (.int .i64 (y - want))
                have HZ5 := hid hz5
                clear hrow5 kg5 fx5 hlen4 hz5
                have z1 := HZ9.out.1
                have z2 := HZ9.out.2
                go_wp2_with fail
                go_roundw
                case rel =>
                  clear z1 z2 HZ9
                  exact ⟨k + 1, by omega, by go_num, by rw [HZ5.out]; omega, hid ⟨_, HLI.out⟩⟩
                case measure =>
                  clear z1 z2 HZ9
                  simp [intOf]
                  omega
            · have hki : ¬ (k : Int) < (hs.length : Int) := by omega
              have hb0 := hb9.to (T := S0 b mb k0) (fun q hq h => h.1) (fun h => h.1 (.inl rfl)) (fun h => h.1 (.inr rfl))
              clear hb9 row
              by_cases hj0 : j = 0
              · have fj : ((j : Int) == 0) = true := by simpa using hj0
                have hnj : numJ num j = num := by rw [hj0]; rfl
                rw [hnj] at A0 hB hb0
                have HZ3 := hid (And.intro (IntWalk.i64_in (num + 1) (by omega)) (IntWalk.wrap64_in (num + 1) (by omega)))
                have z1 := HZ3.out.1
                have z2 := HZ3.out.2
                have f0 := hB.free (j := 0) (by simp)
                have hB10 := hB.set (j := 0) (by simp) (.int .i64 (num + 1))
                simp only [List.set_cons_zero] at hB10
                have kg10 := (Kg.refl w9 k0).set (p := ⟨k0, 0, none⟩) (.inl rfl) (.int .i64 (num + 1))
                have hz10 := set_size w9 ⟨k0, 0, none⟩ (.int .i64 (num + 1))
                have kw10 := ((kw.fx (fun q => q = k0)).trans (kg10.fx (.inl rfl))).kp (fun q hq e => by have := hk0e.out; omega)
                have hb10 := BrW.fx (X := fun q => q = k0) hb0 (kg10.fx (.inl rfl)) (fun q hq => hq.2) (fun e => hk0b (.inl e.symm)) (fun e => hk0b (.inr e.symm))
                have hs10 : w4.heap.size ≤ (w9.setCell ⟨k0, 0, none⟩ (.int .i64 (num + 1))).heap.size := by omega
                have HZ10 := hid hz10
                clear hz10
                go_upto_region 28 with (fail)
                generalize w9.setCell ⟨k0, 0, none⟩ (.int .i64 (num + 1)) = w10 at *
                clear A0 A1 A2 A3 A4 A5
                have A0 := hB10.cell (j := 0) rfl
                have A1 := hB10.cell (j := 1) rfl
                have A2 := hB10.cell (j := 2) rfl
                have A3 := hB10.cell (j := 3) rfl
                have A4 := hB10.cell (j := 4) rfl
                have A5 := hB10.cell (j := 5) rfl
                go_wp2_with fail
                refine (bHear_any (S := S0 b mb k0) (b := b) (mb := mb) (s := oneB nn p3 num (p1, p2, p3, p4) (noZ left)) p3 ⟨num + 1, (p1, p2, p3, p4), lj⟩ _ hb10 (n2' w10 hs10) (hSX w10 kw10)).mono ?_
                rintro e w11 ⟨he, hb11, fx11⟩
                rw [one_next (a := ⟨num + 1, (p1, p2, p3, p4), lj⟩) (by omega) (by omega) hval2 (by dsimp only; omega)] at he hb11
                dsimp only at he hb11
                subst he
                go_wp2_with fail
                go_roundw
                case rel => exact ⟨j + 1, by omega, by go_num, Nat.le_trans hs10 fx11.size, hid ⟨lj, fun _ => rfl, by rw [hj0]; exact hB10.keep (fx11.block k0 (hB10.lt (by simp)) hk0b), by rw [hj0]; exact hb11, ((kw10.fx (B2 b mb)).trans fx11).kp fun q hq => (nW q hq).1⟩⟩
                case measure => simp [intOf]; omega
              · have fj : ((j : Int) == 0) = false := by simpa using hj0
                have hnj : numJ num j = num + 1 := if_neg hj0
                have hnj' : numJ num (j + 1) = num + 1 := if_neg (by omega)
                go_wp2_with fail
                go_roundw
                case rel => exact ⟨j + 1, by omega, by go_num, hs9, hid ⟨(noZ left), fun h => by omega, by rw [hnj', ← hnj]; exact hB, by rw [hnj', ← hnj]; exact hb0, kw⟩⟩
                case measure => simp [intOf]; omega
      · have hji : ¬ (j : Int) < 2 := by omega
        obtain rfl : j = 2 := by omega
        go_wp2_with fail
        refine (bHear_any (S := S0 b mb k0) (b := b) (mb := mb) (s := oneB nn p3 (num + 1) (p1, p2, p3, p4) lj) p3 ⟨num + 1, (p1, p2, p3, p4), l⟩ (.slice A l.length c) hb7 (n2' w7 hsr) (hSX w7 kw)).mono ?_
        rintro e w9 ⟨he, -, fx9⟩
        rw [one_again (a := ⟨num + 1, (p1, p2, p3, p4), l⟩) (by omega) (by omega) hval2] at he
        dsimp only at he
        subst he
        go_wp2
        go_ret
        exact ⟨rfl, ((kw.fx (B2 b mb)).trans fx9).kp fun q hq => (nW q hq).1⟩
end Go.Proofs.Ytbcekihjcgnhkaa
