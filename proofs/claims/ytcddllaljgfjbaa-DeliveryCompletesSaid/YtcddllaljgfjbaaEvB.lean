
/-
The forms of events by kinds: the three closures.
-/
import Derived.Test.YtcddllaljgfjbaaEvA
namespace Go.Proofs.Ytcddllaljgfjbaa
set_option linter.unusedSimpArgs false
set_option linter.unusedVariables false
open Go.RowKit

theorem Fx.set1 {X : Nat → Prop} {a w : World} (h : Fx X a w) (p : Addr) (v : Value) (hp : X p.block) (hb : p.block < a.heap.size) : Fx X a (w.setCell p v) :=
  h.trans ⟨rfl, rfl, rfl, Nat.le_of_eq (set_size w p v).symm, fun i _ hx => set_block w p v i (fun e => hx (e ▸ hp))⟩
def actB (e : Ev) : Bool := btw e.act 0 255 && btw e.place 0 1024 && btw e.ser 1 1048576
def noteB (e : Ev) : Bool := btw e.place 1 1024 && btw e.ser 1 1048576
set_option maxRecDepth 8000 in
set_option maxHeartbeats 1600000 in
theorem frAct_at (e x : Ev) (v vx : Value) (be bx : Nat) (w : World) (hE : Bx w be (evL e v)) (hX : Bx w bx (evL x vx)) (hne : be ≠ bx) :
    Calls Try.prog 86 #[.pointer (some ⟨bx, 0, none⟩), .pointer (some ⟨be, 0, none⟩)] w fun y w' => y = .returned (.bool (actB e)) ∧ Bx w' be (evL e v) ∧ Bx w' bx (evL { x with act := 0, place := 0, ser := 0 } vx) ∧ Fx (fun k => k = bx) w w' := by
  obtain ⟨r, n, t, pa, kd, ac, ⟨⟨g1, g2, g3⟩, g4⟩, ds, pl, se⟩ := e
  obtain ⟨xr, xn, xt, xpa, xkd, xac, ⟨⟨x1, x2, x3⟩, x4⟩, xds, xpl, xse⟩ := x
  have HR : Hid (actB ⟨r, n, t, pa, kd, ac, ((g1, g2, g3), g4), ds, pl, se⟩ = (btw ac 0 255 && btw pl 0 1024 && btw se 1 1048576)) := hid rfl
  generalize actB ⟨r, n, t, pa, kd, ac, ((g1, g2, g3), g4), ds, pl, se⟩ = ab at *
  dsimp only [evL] at hE hX ⊢
  have hxl := hX.lt (by simp)
  have f5 := hX.free (j := 5) (by simp)
  have c5 := hX.cell (j := 5) rfl
  have hX1 := hX.set (j := 5) (by simp) (.int .i64 0)
  have hE1 := hE.keep (set_block w ⟨bx, 5, none⟩ (.int .i64 0) be hne)
  have k1 := (Fx.refl (fun k => k = bx) w).set1 ⟨bx, 5, none⟩ (.int .i64 0) rfl hxl
  have f8 := hX1.free (j := 11) (by simp)
  have c8 := hX1.cell (j := 11) rfl
  have hX2 := hX1.set (j := 11) (by simp) (.int .i64 0)
  have hE2 := hE1.keep (set_block _ ⟨bx, 11, none⟩ (.int .i64 0) be hne)
  have k2 := k1.set1 ⟨bx, 11, none⟩ (.int .i64 0) rfl hxl
  have f9 := hX2.free (j := 12) (by simp)
  have c9 := hX2.cell (j := 12) rfl
  have hX3 := hX2.set (j := 12) (by simp) (.int .i64 0)
  have hE3 := hE2.keep (set_block _ ⟨bx, 12, none⟩ (.int .i64 0) be hne)
  have k3 := k2.set1 ⟨bx, 12, none⟩ (.int .i64 0) rfl hxl
  simp only [List.set_cons_zero, List.set_cons_succ] at hX3
  go_enter Try.func86, Try.ntmps86
  go_upto_region 2 with (fail)
  generalize ((w.setCell ⟨bx, 5, none⟩ (.int .i64 0)).setCell ⟨bx, 11, none⟩ (.int .i64 0)).setCell ⟨bx, 12, none⟩ (.int .i64 0) = w3 at *
  clear c5 f5 c8 f8 c9 f9 hX hX1 hX2 hE hE1 hE2 k1 k2
  have e5 := hE3.cell (j := 5) rfl
  have e8 := hE3.cell (j := 11) rfl
  have e9 := hE3.cell (j := 12) rfl
  go_wp2_with fail
  refine (eBetween_at ac 0 255 w3).mono ?_
  rintro y w4 ⟨rfl, rfl⟩
  cases h1 : btw ac 0 255
  · have HQ : Hid (ab = false) := hid (by rw [HR.out, h1]; rfl)
    skip
    go_wp2
    go_ret
    exact ⟨ret_bool HQ.out.symm, hE3, hX3, k3⟩
  · skip
    go_wp2_with fail
    refine (eBetween_at pl 0 1024 w4).mono ?_
    rintro y w5 ⟨rfl, rfl⟩
    cases h2 : btw pl 0 1024
    · have HQ : Hid (ab = false) := hid (by rw [HR.out, h1, h2]; rfl)
      skip
      go_wp2
      go_ret
      exact ⟨ret_bool HQ.out.symm, hE3, hX3, k3⟩
    · skip
      go_wp2_with fail
      refine (eBetween_at se 1 1048576 w5).mono ?_
      rintro y w6 ⟨rfl, rfl⟩
      have HQ : Hid (btw se 1 1048576 = ab) := hid (by rw [HR.out, h1, h2]; simp)
      skip
      go_wp2
      go_ret
      exact ⟨ret_bool HQ.out, hE3, hX3, k3⟩
set_option maxRecDepth 8000 in
set_option maxHeartbeats 1600000 in
theorem frNote_at (e x : Ev) (v vx : Value) (be bx : Nat) (w : World) (hE : Bx w be (evL e v)) (hX : Bx w bx (evL x vx)) (hne : be ≠ bx) :
    Calls Try.prog 88 #[.pointer (some ⟨bx, 0, none⟩), .pointer (some ⟨be, 0, none⟩)] w fun y w' => y = .returned (.bool (noteB e)) ∧ Bx w' be (evL e v) ∧ Bx w' bx (evL { x with place := 0, ser := 0 } vx) ∧ Fx (fun k => k = bx) w w' := by
  obtain ⟨r, n, t, pa, kd, ac, ⟨⟨g1, g2, g3⟩, g4⟩, ds, pl, se⟩ := e
  obtain ⟨xr, xn, xt, xpa, xkd, xac, ⟨⟨x1, x2, x3⟩, x4⟩, xds, xpl, xse⟩ := x
  have HR : Hid (noteB ⟨r, n, t, pa, kd, ac, ((g1, g2, g3), g4), ds, pl, se⟩ = (btw pl 1 1024 && btw se 1 1048576)) := hid rfl
  generalize noteB ⟨r, n, t, pa, kd, ac, ((g1, g2, g3), g4), ds, pl, se⟩ = ab at *
  dsimp only [evL] at hE hX ⊢
  have hxl := hX.lt (by simp)
  have f8 := hX.free (j := 11) (by simp)
  have c8 := hX.cell (j := 11) rfl
  have hX2 := hX.set (j := 11) (by simp) (.int .i64 0)
  have hE2 := hE.keep (set_block w ⟨bx, 11, none⟩ (.int .i64 0) be hne)
  have k2 := (Fx.refl (fun k => k = bx) w).set1 ⟨bx, 11, none⟩ (.int .i64 0) rfl hxl
  have f9 := hX2.free (j := 12) (by simp)
  have c9 := hX2.cell (j := 12) rfl
  have hX3 := hX2.set (j := 12) (by simp) (.int .i64 0)
  have hE3 := hE2.keep (set_block _ ⟨bx, 12, none⟩ (.int .i64 0) be hne)
  have k3 := k2.set1 ⟨bx, 12, none⟩ (.int .i64 0) rfl hxl
  simp only [List.set_cons_zero, List.set_cons_succ] at hX3
  go_enter Try.func88, Try.ntmps88
  go_upto_region 2 with (fail)
  generalize (w.setCell ⟨bx, 11, none⟩ (.int .i64 0)).setCell ⟨bx, 12, none⟩ (.int .i64 0) = w3 at *
  clear c8 f8 c9 f9 hX hX2 hE hE2 k2
  have e8 := hE3.cell (j := 11) rfl
  have e9 := hE3.cell (j := 12) rfl
  go_wp2_with fail
  refine (eBetween_at pl 1 1024 w3).mono ?_
  rintro y w4 ⟨rfl, rfl⟩
  cases h1 : btw pl 1 1024
  · have HQ : Hid (ab = false) := hid (by rw [HR.out, h1]; rfl)
    go_wp2
    go_ret
    exact ⟨ret_bool HQ.out.symm, hE3, hX3, k3⟩
  · go_wp2_with fail
    refine (eBetween_at se 1 1048576 w4).mono ?_
    rintro y w6 ⟨rfl, rfl⟩
    have HQ : Hid (btw se 1 1048576 = ab) := hid (by rw [HR.out, h1]; simp)
    go_wp2
    go_ret
    exact ⟨ret_bool HQ.out, hE3, hX3, k3⟩
def mostG (k : Int) : Int := if k = 1 then 5 else 0
def giveB (e : Ev) : Bool := btw e.give.1.1 0 1 && btw e.give.1.2.2 0 (mostG e.give.1.1) && btw e.give.1.2.1 0 1023 && btw e.give.2 1 1000000 && btw e.dst 0 ((e.past.length : Int) - 1) && decide (¬ e.dst = e.r)
theorem setsFx {X : Nat → Prop} {a : World} (b o : Nat) (cs : List Value) (w : World) (h : Fx X a w) (hb : X b ∨ a.heap.size ≤ b) : Fx X a (w.setCells b o cs) := by
  induction cs generalizing o w with
  | nil => exact h
  | cons u us ih =>
    simp only [World.setCells]
    refine ih (o + 1) _ ?_
    refine ⟨h.os, h.tape, h.output, Nat.le_trans h.size (Nat.le_of_eq (set_size _ _ _).symm), fun i hi hx => ?_⟩
    rw [set_block _ _ _ _ (fun e => ?_)]
    · exact h.block i hi hx
    · have e : i = b := e
      rcases hb with hb | hb
      · exact hx (e ▸ hb)
      · omega
set_option maxRecDepth 8000 in
set_option maxHeartbeats 1600000 in
theorem frGive_at (e x : Ev) (A : Option Addr) (c : Nat) (vx : Value) (be bx : Nat) (w : World) (hE : Bx w be (evL e (.slice A e.past.length c))) (hX : Bx w bx (evL x vx)) (hne : be ≠ bx) (hlen : e.past.length ≤ 1000000) :
    Calls Try.prog 87 #[.pointer (some ⟨bx, 0, none⟩), .pointer (some ⟨be, 0, none⟩)] w fun y w' => y = .returned (.bool (giveB e)) ∧ Bx w' be (evL e (.slice A e.past.length c)) ∧ Bx w' bx (evL { x with give := ((0, 0, 0), 0), dst := 0 } vx) ∧ Fx (fun k => k = bx) w w' := by
  obtain ⟨r, n, t, pa, kd, ac, ⟨⟨g1, g2, g3⟩, g4⟩, ds, pl, se⟩ := e
  obtain ⟨xr, xn, xt, xpa, xkd, xac, ⟨⟨x1, x2, x3⟩, x4⟩, xds, xpl, xse⟩ := x
  have HR : Hid (giveB ⟨r, n, t, pa, kd, ac, ((g1, g2, g3), g4), ds, pl, se⟩ = (btw g1 0 1 && btw g3 0 (mostG g1) && btw g2 0 1023 && btw g4 1 1000000 && btw ds 0 ((pa.length : Int) - 1) && decide (¬ ds = r))) := hid rfl
  generalize giveB ⟨r, n, t, pa, kd, ac, ((g1, g2, g3), g4), ds, pl, se⟩ = ab at *
  dsimp only [evL] at hE hX hlen ⊢
  generalize pa.length = m at *
  have hxl := hX.lt (by simp)
  have hel := hE.lt (by simp)
  have hX1 := hX.setCells [.int .i64 0, .int .i64 0, .int .i64 0, .int .i64 0] 6 w _ (by simp)
  simp only [putV, List.take_succ_cons, List.take_zero, List.drop_succ_cons, List.drop_zero, List.length_cons, List.length_nil, List.cons_append, List.nil_append] at hX1
  have hE1 := hE.keep (setCells_block bx be hne [.int .i64 0, .int .i64 0, .int .i64 0, .int .i64 0] 6 w)
  have k1 := setsFx bx 6 [.int .i64 0, .int .i64 0, .int .i64 0, .int .i64 0] w (Fx.refl (fun k => k = bx) w) (.inl rfl)
  have hth := hX.thereAt 6 4 (by simp)
  have f10 := hX1.free (j := 10) (by simp)
  have c10 := hX1.cell (j := 10) rfl
  have hX3 := hX1.set (j := 10) (by simp) (.int .i64 0)
  have hE3 := hE1.keep (set_block _ ⟨bx, 10, none⟩ (.int .i64 0) be hne)
  have k3 := k1.set1 ⟨bx, 10, none⟩ (.int .i64 0) rfl hxl
  simp only [List.set_cons_zero, List.set_cons_succ] at hX3
  go_enter Try.func87, Try.ntmps87
  generalize hw1 : w.setCells bx 6 [.int .i64 0, .int .i64 0, .int .i64 0, .int .i64 0] = w1 at *
  go_upto_region 2 with (refine wpList_store_mid rfl 31 (.tmp 10) (.tmp 8) rfl bx 6 #[.int .i64 0, .int .i64 0, .int .i64 0, .int .i64 0] rfl rfl hth (by kernel_rfl) (all_oneCell_toArray (by simp [Value.oneCell'])) ?_; rw [hw1])
  generalize hw3 : w1.setCell ⟨bx, 10, none⟩ (.int .i64 0) = w3 at *
  have hs1 : w1.heap.size = w.heap.size := by rw [← hw1]; exact setCells_size _ _ _ _
  have hs3 : w3.heap.size = w.heap.size := by rw [← hw3, set_size, hs1]
  have hb3 : bx < w3.heap.size := by omega
  have hc3 : be < w3.heap.size := by omega
  clear hs1 hs3 f10 c10 hw1 hw3 hX1 hE1 k1 hth hX hE
  have e6 := hE3.cell (j := 6) rfl
  have e7 := hE3.cell (j := 7) rfl
  have e8 := hE3.cell (j := 8) rfl
  have e9 := hE3.cell (j := 9) rfl
  have hG2 := Bx.new w3 #[.int .i64 g1, .int .i64 g2, .int .i64 g3, .int .i64 g4] 31
  have hX4 := hX3.keep (heap_alloc_old _ (.cells #[.int .i64 g1, .int .i64 g2, .int .i64 g3, .int .i64 g4] 31) (by omega))
  have hE4 := hE3.keep (heap_alloc_old _ (.cells #[.int .i64 g1, .int .i64 g2, .int .i64 g3, .int .i64 g4] 31) (by omega))
  have k4 := k3.trans (((Kp.refl w3).alloc (.cells #[.int .i64 g1, .int .i64 g2, .int .i64 g3, .int .i64 g4] 31)).fx _)
  go_upto_region 3 with (fail)
  generalize w3.heap.size = gb at *
  generalize (w3.alloc (.cells #[.int .i64 g1, .int .i64 g2, .int .i64 g3, .int .i64 g4] 31)) = w5 at *
  clear e6 e7 e8 e9 k3 hE3 hX3
  have c0 := hG2.cell (j := 0) rfl
  have c1 := hG2.cell (j := 1) rfl
  have c2 := hG2.cell (j := 2) rfl
  have c3 := hG2.cell (j := 3) rfl
  have d0 := hE4.cell (j := 0) rfl
  have d3 := hE4.cell (j := 3) rfl
  have d10 := hE4.cell (j := 10) rfl
  by_cases hk : g1 = 1
  · have hk2 : decide (g1 = 1) = true := decide_eq_true hk
    have hk3 : (g1 == 1) = true := by simpa using hk
    have HM : Hid (mostG g1 = 5) := hid (by unfold mostG; rw [if_pos hk])
    clear hk
    go_upto_region 6 with (fail)
    rw [HM.out] at HR
    go_wp2_with fail
    refine (eBetween_at g1 0 1 w5).mono ?_
    rintro y w6 ⟨rfl, rfl⟩
    cases h1 : btw g1 0 1 with
    | false =>
      have h2 := True.intro
      have h3 := True.intro
      have h4 := True.intro
      have h5 := True.intro
      have HQ : Hid (ab = false) := hid (by rw [HR.out]; simp [h1, h2, h3, h4, h5])
      go_wp2
      go_ret
      exact ⟨ret_bool HQ.out.symm, hE4, hX4, k4⟩
    | true =>
      go_wp2_with fail
      refine (eBetween_at g3 0 5 w6).mono ?_
      rintro y w7 ⟨rfl, rfl⟩
      cases h2 : btw g3 0 5 with
      | false =>
        have h3 := True.intro
        have h4 := True.intro
        have h5 := True.intro
        have HQ : Hid (ab = false) := hid (by rw [HR.out]; simp [h1, h2, h3, h4, h5])
        go_wp2
        go_ret
        exact ⟨ret_bool HQ.out.symm, hE4, hX4, k4⟩
      | true =>
        go_wp2_with fail
        refine (eBetween_at g2 0 1023 w7).mono ?_
        rintro y w8 ⟨rfl, rfl⟩
        cases h3 : btw g2 0 1023 with
        | false =>
          have h4 := True.intro
          have h5 := True.intro
          have HQ : Hid (ab = false) := hid (by rw [HR.out]; simp [h1, h2, h3, h4, h5])
          go_wp2
          go_ret
          exact ⟨ret_bool HQ.out.symm, hE4, hX4, k4⟩
        | true =>
          go_wp2_with fail
          refine (eBetween_at g4 1 1000000 w8).mono ?_
          rintro y w9 ⟨rfl, rfl⟩
          cases h4 : btw g4 1 1000000 with
          | false =>
            have h5 := True.intro
            have HQ : Hid (ab = false) := hid (by rw [HR.out]; simp [h1, h2, h3, h4, h5])
            go_wp2
            go_ret
            exact ⟨ret_bool HQ.out.symm, hE4, hX4, k4⟩
          | true =>
            go_wp2_with fail
            refine (eBetween_at ds 0 ((m : Int) - 1) w9).mono ?_
            rintro y w10 ⟨rfl, rfl⟩
            cases h5 : btw ds 0 ((m : Int) - 1) with
            | false =>
              have HQ : Hid (ab = false) := hid (by rw [HR.out]; simp [h1, h2, h3, h4, h5])
              go_wp2
              go_ret
              exact ⟨ret_bool HQ.out.symm, hE4, hX4, k4⟩
            | true =>
              have HQ : Hid ((ds != r) = ab) := hid (by rw [HR.out, h1, h2, h3, h4, h5]; by_cases h6 : ds = r <;> simp [h6])
              go_wp2
              go_ret
              exact ⟨ret_bool HQ.out, hE4, hX4, k4⟩
  · have hk2 : decide (g1 = 1) = false := decide_eq_false hk
    have hk3 : (g1 == 1) = false := by simpa using hk
    have HM : Hid (mostG g1 = 0) := hid (by unfold mostG; rw [if_neg hk])
    clear hk
    go_upto_region 6 with (fail)
    rw [HM.out] at HR
    go_wp2_with fail
    refine (eBetween_at g1 0 1 w5).mono ?_
    rintro y w6 ⟨rfl, rfl⟩
    cases h1 : btw g1 0 1 with
    | false =>
      have h2 := True.intro
      have h3 := True.intro
      have h4 := True.intro
      have h5 := True.intro
      have HQ : Hid (ab = false) := hid (by rw [HR.out]; simp [h1, h2, h3, h4, h5])
      go_wp2
      go_ret
      exact ⟨ret_bool HQ.out.symm, hE4, hX4, k4⟩
    | true =>
      go_wp2_with fail
      refine (eBetween_at g3 0 0 w6).mono ?_
      rintro y w7 ⟨rfl, rfl⟩
      cases h2 : btw g3 0 0 with
      | false =>
        have h3 := True.intro
        have h4 := True.intro
        have h5 := True.intro
        have HQ : Hid (ab = false) := hid (by rw [HR.out]; simp [h1, h2, h3, h4, h5])
        go_wp2
        go_ret
        exact ⟨ret_bool HQ.out.symm, hE4, hX4, k4⟩
      | true =>
        go_wp2_with fail
        refine (eBetween_at g2 0 1023 w7).mono ?_
        rintro y w8 ⟨rfl, rfl⟩
        cases h3 : btw g2 0 1023 with
        | false =>
          have h4 := True.intro
          have h5 := True.intro
          have HQ : Hid (ab = false) := hid (by rw [HR.out]; simp [h1, h2, h3, h4, h5])
          go_wp2
          go_ret
          exact ⟨ret_bool HQ.out.symm, hE4, hX4, k4⟩
        | true =>
          go_wp2_with fail
          refine (eBetween_at g4 1 1000000 w8).mono ?_
          rintro y w9 ⟨rfl, rfl⟩
          cases h4 : btw g4 1 1000000 with
          | false =>
            have h5 := True.intro
            have HQ : Hid (ab = false) := hid (by rw [HR.out]; simp [h1, h2, h3, h4, h5])
            go_wp2
            go_ret
            exact ⟨ret_bool HQ.out.symm, hE4, hX4, k4⟩
          | true =>
            go_wp2_with fail
            refine (eBetween_at ds 0 ((m : Int) - 1) w9).mono ?_
            rintro y w10 ⟨rfl, rfl⟩
            cases h5 : btw ds 0 ((m : Int) - 1) with
            | false =>
              have HQ : Hid (ab = false) := hid (by rw [HR.out]; simp [h1, h2, h3, h4, h5])
              go_wp2
              go_ret
              exact ⟨ret_bool HQ.out.symm, hE4, hX4, k4⟩
            | true =>
              have HQ : Hid ((ds != r) = ab) := hid (by rw [HR.out, h1, h2, h3, h4, h5]; by_cases h6 : ds = r <;> simp [h6])
              go_wp2
              go_ret
              exact ⟨ret_bool HQ.out, hE4, hX4, k4⟩
end Go.Proofs.Ytcddllaljgfjbaa
