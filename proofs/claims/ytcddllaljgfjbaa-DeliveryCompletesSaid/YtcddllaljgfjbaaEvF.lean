
/-
The form of an event: the walk.
-/
import Derived.Test.YtcddllaljgfjbaaEvE
import Derived.Test.YtcddllaljgfjbaaHand
namespace Go.Proofs.Ytcddllaljgfjbaa
set_option linter.unusedSimpArgs false
set_option linter.unusedVariables false
open Go.RowKit

def headB (e : Ev) : Bool := validC e.past && (btw e.r 0 ((e.past.length : Int) - 1) && (decide (e.n = e.past.getD e.r.toNat 0 + 1) && (decide (e.n ≤ 1024) && btw e.t 1 1073741824)))
def formE (e : Ev) : Bool := if e.kind = 0 then actB e && restZ { e with act := 0, place := 0, ser := 0 } else if e.kind = 1 then giveB e && restZ { e with give := ((0, 0, 0), 0), dst := 0 } else if e.kind = 2 then noteB e && restZ { e with place := 0, ser := 0 } else false
def formedE (e : Ev) : Bool := headB e && formE e
set_option maxRecDepth 8000 in
set_option maxHeartbeats 4000000 in
theorem eFormed_any (e : Ev) (v : Value) (w : World) (hp : Ints w v e.past) : Calls Try.prog 40 #[evV e v] w fun y w' => y = .returned (.bool (formedE e)) ∧ Kp w w' := by
  obtain ⟨A, c, rfl, hc, hm⟩ := hp.form
  obtain ⟨r, n, t, pa, kd, ac, ⟨⟨g1, g2, g3⟩, g4⟩, ds, pl, se⟩ := e
  have HF : Hid (formedE ⟨r, n, t, pa, kd, ac, ((g1, g2, g3), g4), ds, pl, se⟩ = ((validC pa && (btw r 0 ((pa.length : Int) - 1) && (decide (n = pa.getD r.toNat 0 + 1) && (decide (n ≤ 1024) && btw t 1 1073741824)))) && formE ⟨r, n, t, pa, kd, ac, ((g1, g2, g3), g4), ds, pl, se⟩)) := hid rfl
  generalize formedE ⟨r, n, t, pa, kd, ac, ((g1, g2, g3), g4), ds, pl, se⟩ = fe at *
  dsimp only at hp hc hm ⊢
  dsimp only [evV, evL]
  obtain ⟨m, hml⟩ : ∃ m, pa.length = m := ⟨_, rfl⟩
  rw [hml] at hp hc HF ⊢
  have hE := Bx.new w #[.int .i64 r, .int .i64 n, .int .i64 t, .slice A m c, .int .i64 kd, .int .i64 ac, .int .i64 g1, .int .i64 g2, .int .i64 g3, .int .i64 g4, .int .i64 ds, .int .i64 pl, .int .i64 se] 33
  have k0 := (Kp.refl w).alloc (.cells #[.int .i64 r, .int .i64 n, .int .i64 t, .slice A m c, .int .i64 kd, .int .i64 ac, .int .i64 g1, .int .i64 g2, .int .i64 g3, .int .i64 g4, .int .i64 ds, .int .i64 pl, .int .i64 se] 33)
  go_enter Try.func40, Try.ntmps40
  go_upto_region 1 with (fail)
  generalize w.alloc (.cells #[.int .i64 r, .int .i64 n, .int .i64 t, .slice A m c, .int .i64 kd, .int .i64 ac, .int .i64 g1, .int .i64 g2, .int .i64 g3, .int .i64 g4, .int .i64 ds, .int .i64 pl, .int .i64 se] 33) = w1 at *
  have hel := hE.lt (by simp)
  obtain ⟨be, hbe⟩ : ∃ be, w.heap.size = be := ⟨_, rfl⟩
  rw [hbe] at hE hel ⊢
  have HBE := hid hbe
  clear hbe
  have e0 := hE.cell (j := 0) rfl
  have e1 := hE.cell (j := 1) rfl
  have e2 := hE.cell (j := 2) rfl
  have e3 := hE.cell (j := 3) rfl
  have hS1 := hp.keep (pl_stable _) k0
  have HS1 := hid hS1
  have HV := hid (fun W (h : Kp w1 W) => cValid_any pa (.slice A m c) W (hS1.keep (pl_stable _) h))
  have HP := hid hp
  clear hp hS1
  cases hv : validC pa with
  | false =>
    rw [hv] at HV
    have HX : Hid (fe = false) := hid (by rw [HF.out, hv]; rfl)
    clear HF hv
    refine G2.wp_region_growT Kp [] 36 71 (G2.pvL [G2.eqv (.pointer (some ⟨be, 3, none⟩)), G2.eqv (.slice A m c), G2.eqv (.bool false), G2.eqv (.bool true), G2.eqv (.bool true), G2.eqv (undef), G2.eqv (undef), G2.eqv (undef), G2.eqv (undef), G2.eqv (undef), G2.eqv (undef), G2.eqv (undef), G2.eqv (undef), G2.eqv (.bool true), G2.eqv (.bool true), G2.eqv (undef), G2.eqv (undef), G2.eqv (undef), G2.eqv (undef), G2.eqv (undef), G2.eqv (undef), G2.eqv (undef), G2.eqv (undef), G2.eqv (undef), G2.eqv (undef), G2.eqv (.bool true), G2.eqv (.bool true), G2.eqv (undef), G2.eqv (undef), G2.eqv (undef), G2.eqv (.bool true), G2.eqv (.bool true), G2.eqv (undef), G2.eqv (undef), G2.eqv (undef), G2.eqv (undef)]) (by kernel_rfl) (by kernel_rfl) rfl (fun x => Kp.refl x) (fun _ _ _ h k => h.trans k) (Kp.refl _).drew (by intro _ _ _ _ _ h; exact h) (G2.pvL_keep (G2.stabL_cons (G2.stab_eq _) (G2.stabL_cons (G2.stab_eq _) (G2.stabL_cons (G2.stab_eq _) (G2.stabL_cons (G2.stab_eq _) (G2.stabL_cons (G2.stab_eq _) (G2.stabL_cons (G2.stab_eq _) (G2.stabL_cons (G2.stab_eq _) (G2.stabL_cons (G2.stab_eq _) (G2.stabL_cons (G2.stab_eq _) (G2.stabL_cons (G2.stab_eq _) (G2.stabL_cons (G2.stab_eq _) (G2.stabL_cons (G2.stab_eq _) (G2.stabL_cons (G2.stab_eq _) (G2.stabL_cons (G2.stab_eq _) (G2.stabL_cons (G2.stab_eq _) (G2.stabL_cons (G2.stab_eq _) (G2.stabL_cons (G2.stab_eq _) (G2.stabL_cons (G2.stab_eq _) (G2.stabL_cons (G2.stab_eq _) (G2.stabL_cons (G2.stab_eq _) (G2.stabL_cons (G2.stab_eq _) (G2.stabL_cons (G2.stab_eq _) (G2.stabL_cons (G2.stab_eq _) (G2.stabL_cons (G2.stab_eq _) (G2.stabL_cons (G2.stab_eq _) (G2.stabL_cons (G2.stab_eq _) (G2.stabL_cons (G2.stab_eq _) (G2.stabL_cons (G2.stab_eq _) (G2.stabL_cons (G2.stab_eq _) (G2.stabL_cons (G2.stab_eq _) (G2.stabL_cons (G2.stab_eq _) (G2.stabL_cons (G2.stab_eq _) (G2.stabL_cons (G2.stab_eq _) (G2.stabL_cons (G2.stab_eq _) (G2.stabL_cons (G2.stab_eq _) (G2.stabL_cons (G2.stab_eq _) (G2.stabL_nil)))))))))))))))))))))))))))))))))))))) (G2.stepsT_cons 0 ?_ (G2.stepsT_cons 1 ?_ (G2.stepsT_cons 2 ?_ (G2.stepsT_cons 3 ?_ (G2.stepsT_cons 4 ?_ (G2.stepsT_cons 5 ?_ (G2.stepsT_cons 6 ?_ (G2.stepsT_cons 7 ?_ (G2.stepsT_cons 8 ?_ (G2.stepsT_cons 9 ?_ (G2.stepsT_cons 10 ?_ (G2.stepsT_cons 11 ?_ (G2.stepsT_cons 12 ?_ (G2.stepsT_cons 13 ?_ (G2.stepsT_cons 14 ?_ (G2.stepsT_cons 15 ?_ (G2.stepsT_cons 16 ?_ (G2.stepsT_cons 17 ?_ (G2.stepsT_cons 18 ?_ (G2.stepsT_cons 19 ?_ (G2.stepsT_cons 20 ?_ (G2.stepsT_cons 21 ?_ (G2.stepsT_cons 22 ?_ (G2.stepsT_cons 23 ?_ (G2.stepsT_cons 24 ?_ (G2.stepsT_cons 25 ?_ (G2.stepsT_cons 26 ?_ (G2.stepsT_cons 27 ?_ (G2.stepsT_cons 28 ?_ (G2.stepsT_cons 29 ?_ (G2.stepsT_cons 30 ?_ (G2.stepsT_cons 31 ?_ (G2.stepsT_cons 32 ?_ (G2.stepsT_cons 33 ?_ (G2.stepsT_cons 34 ?_ (G2.stepsT_cons 35 ?_ (G2.stepsT_nil _ _ _))))))))))))))))))))))))))))))))))))) ?_ ?_
    · intro a w' hk hF hD K hK
      have h1 : a.tmps[1]?.getD undef = .pointer (some ⟨be, 0, none⟩) := hF 1 (by kernel_rfl)
      clear hF hD
      go_simp
      exact hK.out _ _ (Kp.refl _) rfl
    · intro a w' hk hF hD K hK
      have h6 : a.tmps[6]?.getD undef = .pointer (some ⟨be, 3, none⟩) := hD 0 (by kernel_rfl)
      clear hF hD
      have z0 := hk.cellS e3
      go_simp
      exact hK.out _ _ (Kp.refl _) rfl
    · intro a w' hk hF hD K hK
      have h7 : a.tmps[7]?.getD undef = .slice A m c := hD 1 (by kernel_rfl)
      clear hF hD
      go_simp
      refine (HV.out _ hk).mono ?_
      rintro e w9 ⟨rfl, hk9⟩
      exact hK.out _ _ hk9 rfl
    · intro a w' hk hF hD K hK
      have h8 : a.tmps[8]?.getD undef = .bool false := hD 2 (by kernel_rfl)
      clear hF hD
      go_simp
      exact hK.out _ _ (Kp.refl _) rfl
    · intro a w' hk hF hD K hK
      have h9 : a.tmps[9]?.getD undef = .bool true := hD 3 (by kernel_rfl)
      clear hF hD
      go_simp
      exact hK.out _ _ (Kp.refl _) rfl
    · intro a w' hk hF hD K hK
      have h1 : a.tmps[1]?.getD undef = .pointer (some ⟨be, 0, none⟩) := hF 1 (by kernel_rfl)
      have h10 : a.tmps[10]?.getD undef = .bool true := hD 4 (by kernel_rfl)
      have g10 := guard_get h10
      clear hF hD
      go_simp
      exact hK.out _ _ (Kp.refl _) rfl
    · intro a w' hk hF hD K hK
      have h11 : a.tmps[11]?.getD undef = undef := hD 5 (by kernel_rfl)
      have h10 : a.tmps[10]?.getD undef = .bool true := hD 4 (by kernel_rfl)
      have g10 := guard_get h10
      clear hF hD
      go_simp
      exact hK.out _ _ (Kp.refl _) rfl
    · intro a w' hk hF hD K hK
      have h1 : a.tmps[1]?.getD undef = .pointer (some ⟨be, 0, none⟩) := hF 1 (by kernel_rfl)
      have h10 : a.tmps[10]?.getD undef = .bool true := hD 4 (by kernel_rfl)
      have g10 := guard_get h10
      clear hF hD
      go_simp
      exact hK.out _ _ (Kp.refl _) rfl
    · intro a w' hk hF hD K hK
      have h13 : a.tmps[13]?.getD undef = undef := hD 7 (by kernel_rfl)
      have h10 : a.tmps[10]?.getD undef = .bool true := hD 4 (by kernel_rfl)
      have g10 := guard_get h10
      clear hF hD
      go_simp
      exact hK.out _ _ (Kp.refl _) rfl
    · intro a w' hk hF hD K hK
      have h14 : a.tmps[14]?.getD undef = undef := hD 8 (by kernel_rfl)
      have h10 : a.tmps[10]?.getD undef = .bool true := hD 4 (by kernel_rfl)
      have g10 := guard_get h10
      clear hF hD
      go_simp
      exact hK.out _ _ (Kp.refl _) rfl
    · intro a w' hk hF hD K hK
      have h15 : a.tmps[15]?.getD undef = undef := hD 9 (by kernel_rfl)
      have h10 : a.tmps[10]?.getD undef = .bool true := hD 4 (by kernel_rfl)
      have g10 := guard_get h10
      clear hF hD
      go_simp
      exact hK.out _ _ (Kp.refl _) rfl
    · intro a w' hk hF hD K hK
      have h12 : a.tmps[12]?.getD undef = undef := hD 6 (by kernel_rfl)
      have h16 : a.tmps[16]?.getD undef = undef := hD 10 (by kernel_rfl)
      have h10 : a.tmps[10]?.getD undef = .bool true := hD 4 (by kernel_rfl)
      have g10 := guard_get h10
      clear hF hD
      go_simp
      exact hK.out _ _ (Kp.refl _) rfl
    · intro a w' hk hF hD K hK
      have h17 : a.tmps[17]?.getD undef = undef := hD 11 (by kernel_rfl)
      have h10 : a.tmps[10]?.getD undef = .bool true := hD 4 (by kernel_rfl)
      have g10 := guard_get h10
      clear hF hD
      go_simp
      exact hK.out _ _ (Kp.refl _) rfl
    · intro a w' hk hF hD K hK
      have h10 : a.tmps[10]?.getD undef = .bool true := hD 4 (by kernel_rfl)
      have h18 : a.tmps[18]?.getD undef = undef := hD 12 (by kernel_rfl)
      clear hF hD
      go_simp
      exact hK.out _ _ (Kp.refl _) rfl
    · intro a w' hk hF hD K hK
      have h19 : a.tmps[19]?.getD undef = .bool true := hD 13 (by kernel_rfl)
      clear hF hD
      go_simp
      exact hK.out _ _ (Kp.refl _) rfl
    · intro a w' hk hF hD K hK
      have h1 : a.tmps[1]?.getD undef = .pointer (some ⟨be, 0, none⟩) := hF 1 (by kernel_rfl)
      have h20 : a.tmps[20]?.getD undef = .bool true := hD 14 (by kernel_rfl)
      have g20 := guard_get h20
      clear hF hD
      go_simp
      exact hK.out _ _ (Kp.refl _) rfl
    · intro a w' hk hF hD K hK
      have h21 : a.tmps[21]?.getD undef = undef := hD 15 (by kernel_rfl)
      have h20 : a.tmps[20]?.getD undef = .bool true := hD 14 (by kernel_rfl)
      have g20 := guard_get h20
      clear hF hD
      go_simp
      exact hK.out _ _ (Kp.refl _) rfl
    · intro a w' hk hF hD K hK
      have h1 : a.tmps[1]?.getD undef = .pointer (some ⟨be, 0, none⟩) := hF 1 (by kernel_rfl)
      have h20 : a.tmps[20]?.getD undef = .bool true := hD 14 (by kernel_rfl)
      have g20 := guard_get h20
      clear hF hD
      go_simp
      exact hK.out _ _ (Kp.refl _) rfl
    · intro a w' hk hF hD K hK
      have h23 : a.tmps[23]?.getD undef = undef := hD 17 (by kernel_rfl)
      have h20 : a.tmps[20]?.getD undef = .bool true := hD 14 (by kernel_rfl)
      have g20 := guard_get h20
      clear hF hD
      go_simp
      exact hK.out _ _ (Kp.refl _) rfl
    · intro a w' hk hF hD K hK
      have h1 : a.tmps[1]?.getD undef = .pointer (some ⟨be, 0, none⟩) := hF 1 (by kernel_rfl)
      have h20 : a.tmps[20]?.getD undef = .bool true := hD 14 (by kernel_rfl)
      have g20 := guard_get h20
      clear hF hD
      go_simp
      exact hK.out _ _ (Kp.refl _) rfl
    · intro a w' hk hF hD K hK
      have h25 : a.tmps[25]?.getD undef = undef := hD 19 (by kernel_rfl)
      have h20 : a.tmps[20]?.getD undef = .bool true := hD 14 (by kernel_rfl)
      have g20 := guard_get h20
      clear hF hD
      go_simp
      exact hK.out _ _ (Kp.refl _) rfl
    · intro a w' hk hF hD K hK
      have h24 : a.tmps[24]?.getD undef = undef := hD 18 (by kernel_rfl)
      have h26 : a.tmps[26]?.getD undef = undef := hD 20 (by kernel_rfl)
      have h20 : a.tmps[20]?.getD undef = .bool true := hD 14 (by kernel_rfl)
      have g20 := guard_get h20
      clear hF hD
      go_simp
      exact hK.out _ _ (Kp.refl _) rfl
    · intro a w' hk hF hD K hK
      have h27 : a.tmps[27]?.getD undef = undef := hD 21 (by kernel_rfl)
      have h20 : a.tmps[20]?.getD undef = .bool true := hD 14 (by kernel_rfl)
      have g20 := guard_get h20
      clear hF hD
      go_simp
      exact hK.out _ _ (Kp.refl _) rfl
    · intro a w' hk hF hD K hK
      have h28 : a.tmps[28]?.getD undef = undef := hD 22 (by kernel_rfl)
      have h20 : a.tmps[20]?.getD undef = .bool true := hD 14 (by kernel_rfl)
      have g20 := guard_get h20
      clear hF hD
      go_simp
      exact hK.out _ _ (Kp.refl _) rfl
    · intro a w' hk hF hD K hK
      have h22 : a.tmps[22]?.getD undef = undef := hD 16 (by kernel_rfl)
      have h29 : a.tmps[29]?.getD undef = undef := hD 23 (by kernel_rfl)
      have h20 : a.tmps[20]?.getD undef = .bool true := hD 14 (by kernel_rfl)
      have g20 := guard_get h20
      clear hF hD
      go_simp
      exact hK.out _ _ (Kp.refl _) rfl
    · intro a w' hk hF hD K hK
      have h20 : a.tmps[20]?.getD undef = .bool true := hD 14 (by kernel_rfl)
      have h30 : a.tmps[30]?.getD undef = undef := hD 24 (by kernel_rfl)
      clear hF hD
      go_simp
      exact hK.out _ _ (Kp.refl _) rfl
    · intro a w' hk hF hD K hK
      have h31 : a.tmps[31]?.getD undef = .bool true := hD 25 (by kernel_rfl)
      clear hF hD
      go_simp
      exact hK.out _ _ (Kp.refl _) rfl
    · intro a w' hk hF hD K hK
      have h1 : a.tmps[1]?.getD undef = .pointer (some ⟨be, 0, none⟩) := hF 1 (by kernel_rfl)
      have h32 : a.tmps[32]?.getD undef = .bool true := hD 26 (by kernel_rfl)
      have g32 := guard_get h32
      clear hF hD
      go_simp
      exact hK.out _ _ (Kp.refl _) rfl
    · intro a w' hk hF hD K hK
      have h33 : a.tmps[33]?.getD undef = undef := hD 27 (by kernel_rfl)
      have h32 : a.tmps[32]?.getD undef = .bool true := hD 26 (by kernel_rfl)
      have g32 := guard_get h32
      clear hF hD
      go_simp
      exact hK.out _ _ (Kp.refl _) rfl
    · intro a w' hk hF hD K hK
      have h34 : a.tmps[34]?.getD undef = undef := hD 28 (by kernel_rfl)
      have h32 : a.tmps[32]?.getD undef = .bool true := hD 26 (by kernel_rfl)
      have g32 := guard_get h32
      clear hF hD
      go_simp
      exact hK.out _ _ (Kp.refl _) rfl
    · intro a w' hk hF hD K hK
      have h32 : a.tmps[32]?.getD undef = .bool true := hD 26 (by kernel_rfl)
      have h35 : a.tmps[35]?.getD undef = undef := hD 29 (by kernel_rfl)
      clear hF hD
      go_simp
      exact hK.out _ _ (Kp.refl _) rfl
    · intro a w' hk hF hD K hK
      have h36 : a.tmps[36]?.getD undef = .bool true := hD 30 (by kernel_rfl)
      clear hF hD
      go_simp
      exact hK.out _ _ (Kp.refl _) rfl
    · intro a w' hk hF hD K hK
      have h1 : a.tmps[1]?.getD undef = .pointer (some ⟨be, 0, none⟩) := hF 1 (by kernel_rfl)
      have h37 : a.tmps[37]?.getD undef = .bool true := hD 31 (by kernel_rfl)
      have g37 := guard_get h37
      clear hF hD
      go_simp
      exact hK.out _ _ (Kp.refl _) rfl
    · intro a w' hk hF hD K hK
      have h38 : a.tmps[38]?.getD undef = undef := hD 32 (by kernel_rfl)
      have h37 : a.tmps[37]?.getD undef = .bool true := hD 31 (by kernel_rfl)
      have g37 := guard_get h37
      clear hF hD
      go_simp
      exact hK.out _ _ (Kp.refl _) rfl
    · intro a w' hk hF hD K hK
      have h39 : a.tmps[39]?.getD undef = undef := hD 33 (by kernel_rfl)
      have h37 : a.tmps[37]?.getD undef = .bool true := hD 31 (by kernel_rfl)
      have g37 := guard_get h37
      clear hF hD
      go_simp
      exact hK.out _ _ (Kp.refl _) rfl
    · intro a w' hk hF hD K hK
      have h40 : a.tmps[40]?.getD undef = undef := hD 34 (by kernel_rfl)
      have h37 : a.tmps[37]?.getD undef = .bool true := hD 31 (by kernel_rfl)
      have g37 := guard_get h37
      clear hF hD
      go_simp
      exact hK.out _ _ (Kp.refl _) rfl
    · exact fun i0 hi0 => by simp at hi0
    intro v w9 k9 hv
    have v31 : v 31 = .bool true := hv 31 (by omega)
    have v35 : v 35 = undef := hv 35 (by omega)
    clear hv
    simp only [G2.growPut, G2.gSlot, List.getElem?_toArray, List.getElem?_cons_zero, List.getElem?_cons_succ, Option.bind_some, List.setIfInBounds_toArray, List.set_cons_zero, List.set_cons_succ, List.drop_succ_cons, List.drop_zero, v31, v35]
    have kf := k0.trans k9
    clear e0 e1 e2 e3
    go_wp2
    go_ret
    exact ⟨ret_bool HX.out.symm, kf⟩
  | true =>
    rw [hv] at HV
    have hcl := (validC_iff.1 hv).2
    have hall := (validC_iff.1 hv).1
    rw [hml] at hcl
    rw [hv] at HF
    replace hv := hid hv
    have HM1 := hid (show IntKind.i64.wrap ((m : Int) - 1) = (m : Int) - 1 from IntWalk.i64_in _ (by omega))
    have HM2 := hid (show wrap64 ((m : Int) - 1) = (m : Int) - 1 from IntWalk.wrap64_in _ (by omega))
    cases hb1 : btw r 0 ((m : Int) - 1) with
    | false =>
      have HB1 := hid (fun W => eBetween_any r 0 ((m : Int) - 1) W)
      rw [hb1] at HB1
      have HX : Hid (fe = false) := hid (by rw [HF.out, hb1]; rfl)
      replace hb1 := hid hb1
      replace hml := hid hml
      clear HF
      refine G2.wp_region_growT Kp [] 36 71 (G2.pvL [G2.eqv (.pointer (some ⟨be, 3, none⟩)), G2.eqv (.slice A m c), G2.eqv (.bool true), G2.eqv (.bool false), G2.eqv (.bool false), G2.eqv (.pointer (some ⟨be, 0, none⟩)), G2.eqv (.int .i64 r), G2.eqv (.pointer (some ⟨be, 3, none⟩)), G2.eqv (.slice A m c), G2.eqv (.int .i64 (m : Int)), G2.eqv (.int .i64 ((m : Int) - 1)), G2.eqv (.bool false), G2.eqv (.bool true), G2.eqv (.bool true), G2.eqv (.bool true), G2.eqv (undef), G2.eqv (undef), G2.eqv (undef), G2.eqv (undef), G2.eqv (undef), G2.eqv (undef), G2.eqv (undef), G2.eqv (undef), G2.eqv (undef), G2.eqv (undef), G2.eqv (.bool true), G2.eqv (.bool true), G2.eqv (undef), G2.eqv (undef), G2.eqv (undef), G2.eqv (.bool true), G2.eqv (.bool true), G2.eqv (undef), G2.eqv (undef), G2.eqv (undef), G2.eqv (undef)]) (by kernel_rfl) (by kernel_rfl) rfl (fun x => Kp.refl x) (fun _ _ _ h k => h.trans k) (Kp.refl _).drew (by intro _ _ _ _ _ h; exact h) (G2.pvL_keep (G2.stabL_cons (G2.stab_eq _) (G2.stabL_cons (G2.stab_eq _) (G2.stabL_cons (G2.stab_eq _) (G2.stabL_cons (G2.stab_eq _) (G2.stabL_cons (G2.stab_eq _) (G2.stabL_cons (G2.stab_eq _) (G2.stabL_cons (G2.stab_eq _) (G2.stabL_cons (G2.stab_eq _) (G2.stabL_cons (G2.stab_eq _) (G2.stabL_cons (G2.stab_eq _) (G2.stabL_cons (G2.stab_eq _) (G2.stabL_cons (G2.stab_eq _) (G2.stabL_cons (G2.stab_eq _) (G2.stabL_cons (G2.stab_eq _) (G2.stabL_cons (G2.stab_eq _) (G2.stabL_cons (G2.stab_eq _) (G2.stabL_cons (G2.stab_eq _) (G2.stabL_cons (G2.stab_eq _) (G2.stabL_cons (G2.stab_eq _) (G2.stabL_cons (G2.stab_eq _) (G2.stabL_cons (G2.stab_eq _) (G2.stabL_cons (G2.stab_eq _) (G2.stabL_cons (G2.stab_eq _) (G2.stabL_cons (G2.stab_eq _) (G2.stabL_cons (G2.stab_eq _) (G2.stabL_cons (G2.stab_eq _) (G2.stabL_cons (G2.stab_eq _) (G2.stabL_cons (G2.stab_eq _) (G2.stabL_cons (G2.stab_eq _) (G2.stabL_cons (G2.stab_eq _) (G2.stabL_cons (G2.stab_eq _) (G2.stabL_cons (G2.stab_eq _) (G2.stabL_cons (G2.stab_eq _) (G2.stabL_cons (G2.stab_eq _) (G2.stabL_cons (G2.stab_eq _) (G2.stabL_cons (G2.stab_eq _) (G2.stabL_nil)))))))))))))))))))))))))))))))))))))) (G2.stepsT_cons 0 ?_ (G2.stepsT_cons 1 ?_ (G2.stepsT_cons 2 ?_ (G2.stepsT_cons 3 ?_ (G2.stepsT_cons 4 ?_ (G2.stepsT_cons 5 ?_ (G2.stepsT_cons 6 ?_ (G2.stepsT_cons 7 ?_ (G2.stepsT_cons 8 ?_ (G2.stepsT_cons 9 ?_ (G2.stepsT_cons 10 ?_ (G2.stepsT_cons 11 ?_ (G2.stepsT_cons 12 ?_ (G2.stepsT_cons 13 ?_ (G2.stepsT_cons 14 ?_ (G2.stepsT_cons 15 ?_ (G2.stepsT_cons 16 ?_ (G2.stepsT_cons 17 ?_ (G2.stepsT_cons 18 ?_ (G2.stepsT_cons 19 ?_ (G2.stepsT_cons 20 ?_ (G2.stepsT_cons 21 ?_ (G2.stepsT_cons 22 ?_ (G2.stepsT_cons 23 ?_ (G2.stepsT_cons 24 ?_ (G2.stepsT_cons 25 ?_ (G2.stepsT_cons 26 ?_ (G2.stepsT_cons 27 ?_ (G2.stepsT_cons 28 ?_ (G2.stepsT_cons 29 ?_ (G2.stepsT_cons 30 ?_ (G2.stepsT_cons 31 ?_ (G2.stepsT_cons 32 ?_ (G2.stepsT_cons 33 ?_ (G2.stepsT_cons 34 ?_ (G2.stepsT_cons 35 ?_ (G2.stepsT_nil _ _ _))))))))))))))))))))))))))))))))))))) ?_ ?_
      · intro a w' hk hF hD K hK
        have h1 : a.tmps[1]?.getD undef = .pointer (some ⟨be, 0, none⟩) := hF 1 (by kernel_rfl)
        clear hF hD
        go_simp
        exact hK.out _ _ (Kp.refl _) rfl
      · intro a w' hk hF hD K hK
        have h6 : a.tmps[6]?.getD undef = .pointer (some ⟨be, 3, none⟩) := hD 0 (by kernel_rfl)
        clear hF hD
        have z0 := hk.cellS e3
        go_simp
        exact hK.out _ _ (Kp.refl _) rfl
      · intro a w' hk hF hD K hK
        have h7 : a.tmps[7]?.getD undef = .slice A m c := hD 1 (by kernel_rfl)
        clear hF hD
        go_simp
        refine (HV.out _ hk).mono ?_
        rintro e w9 ⟨rfl, hk9⟩
        exact hK.out _ _ hk9 rfl
      · intro a w' hk hF hD K hK
        have h8 : a.tmps[8]?.getD undef = .bool true := hD 2 (by kernel_rfl)
        clear hF hD
        go_simp
        exact hK.out _ _ (Kp.refl _) rfl
      · intro a w' hk hF hD K hK
        have h9 : a.tmps[9]?.getD undef = .bool false := hD 3 (by kernel_rfl)
        clear hF hD
        go_simp
        exact hK.out _ _ (Kp.refl _) rfl
      · intro a w' hk hF hD K hK
        have h1 : a.tmps[1]?.getD undef = .pointer (some ⟨be, 0, none⟩) := hF 1 (by kernel_rfl)
        have h10 : a.tmps[10]?.getD undef = .bool false := hD 4 (by kernel_rfl)
        have g10 := guard_get h10
        clear hF hD
        go_simp
        exact hK.out _ _ (Kp.refl _) rfl
      · intro a w' hk hF hD K hK
        have h11 : a.tmps[11]?.getD undef = .pointer (some ⟨be, 0, none⟩) := hD 5 (by kernel_rfl)
        have h10 : a.tmps[10]?.getD undef = .bool false := hD 4 (by kernel_rfl)
        have g10 := guard_get h10
        clear hF hD
        have z0 := hk.cellS e0
        go_simp
        exact hK.out _ _ (Kp.refl _) rfl
      · intro a w' hk hF hD K hK
        have h1 : a.tmps[1]?.getD undef = .pointer (some ⟨be, 0, none⟩) := hF 1 (by kernel_rfl)
        have h10 : a.tmps[10]?.getD undef = .bool false := hD 4 (by kernel_rfl)
        have g10 := guard_get h10
        clear hF hD
        go_simp
        exact hK.out _ _ (Kp.refl _) rfl
      · intro a w' hk hF hD K hK
        have h13 : a.tmps[13]?.getD undef = .pointer (some ⟨be, 3, none⟩) := hD 7 (by kernel_rfl)
        have h10 : a.tmps[10]?.getD undef = .bool false := hD 4 (by kernel_rfl)
        have g10 := guard_get h10
        clear hF hD
        have z0 := hk.cellS e3
        go_simp
        exact hK.out _ _ (Kp.refl _) rfl
      · intro a w' hk hF hD K hK
        have h14 : a.tmps[14]?.getD undef = .slice A m c := hD 8 (by kernel_rfl)
        have h10 : a.tmps[10]?.getD undef = .bool false := hD 4 (by kernel_rfl)
        have g10 := guard_get h10
        clear hF hD
        go_simp
        exact hK.out _ _ (Kp.refl _) rfl
      · intro a w' hk hF hD K hK
        have h15 : a.tmps[15]?.getD undef = .int .i64 (m : Int) := hD 9 (by kernel_rfl)
        have h10 : a.tmps[10]?.getD undef = .bool false := hD 4 (by kernel_rfl)
        have g10 := guard_get h10
        clear hF hD
        have q1 := HM1.out
        go_simp
        exact hK.out _ _ (Kp.refl _) rfl
      · intro a w' hk hF hD K hK
        have h12 : a.tmps[12]?.getD undef = .int .i64 r := hD 6 (by kernel_rfl)
        have h16 : a.tmps[16]?.getD undef = .int .i64 ((m : Int) - 1) := hD 10 (by kernel_rfl)
        have h10 : a.tmps[10]?.getD undef = .bool false := hD 4 (by kernel_rfl)
        have g10 := guard_get h10
        clear hF hD
        go_simp
        refine (HB1.out _).mono ?_
        rintro e w9 ⟨rfl, hk9⟩
        exact hK.out _ _ hk9 rfl
      · intro a w' hk hF hD K hK
        have h17 : a.tmps[17]?.getD undef = .bool false := hD 11 (by kernel_rfl)
        have h10 : a.tmps[10]?.getD undef = .bool false := hD 4 (by kernel_rfl)
        have g10 := guard_get h10
        clear hF hD
        go_simp
        exact hK.out _ _ (Kp.refl _) rfl
      · intro a w' hk hF hD K hK
        have h10 : a.tmps[10]?.getD undef = .bool false := hD 4 (by kernel_rfl)
        have h18 : a.tmps[18]?.getD undef = .bool true := hD 12 (by kernel_rfl)
        clear hF hD
        go_simp
        exact hK.out _ _ (Kp.refl _) rfl
      · intro a w' hk hF hD K hK
        have h19 : a.tmps[19]?.getD undef = .bool true := hD 13 (by kernel_rfl)
        clear hF hD
        go_simp
        exact hK.out _ _ (Kp.refl _) rfl
      · intro a w' hk hF hD K hK
        have h1 : a.tmps[1]?.getD undef = .pointer (some ⟨be, 0, none⟩) := hF 1 (by kernel_rfl)
        have h20 : a.tmps[20]?.getD undef = .bool true := hD 14 (by kernel_rfl)
        have g20 := guard_get h20
        clear hF hD
        go_simp
        exact hK.out _ _ (Kp.refl _) rfl
      · intro a w' hk hF hD K hK
        have h21 : a.tmps[21]?.getD undef = undef := hD 15 (by kernel_rfl)
        have h20 : a.tmps[20]?.getD undef = .bool true := hD 14 (by kernel_rfl)
        have g20 := guard_get h20
        clear hF hD
        go_simp
        exact hK.out _ _ (Kp.refl _) rfl
      · intro a w' hk hF hD K hK
        have h1 : a.tmps[1]?.getD undef = .pointer (some ⟨be, 0, none⟩) := hF 1 (by kernel_rfl)
        have h20 : a.tmps[20]?.getD undef = .bool true := hD 14 (by kernel_rfl)
        have g20 := guard_get h20
        clear hF hD
        go_simp
        exact hK.out _ _ (Kp.refl _) rfl
      · intro a w' hk hF hD K hK
        have h23 : a.tmps[23]?.getD undef = undef := hD 17 (by kernel_rfl)
        have h20 : a.tmps[20]?.getD undef = .bool true := hD 14 (by kernel_rfl)
        have g20 := guard_get h20
        clear hF hD
        go_simp
        exact hK.out _ _ (Kp.refl _) rfl
      · intro a w' hk hF hD K hK
        have h1 : a.tmps[1]?.getD undef = .pointer (some ⟨be, 0, none⟩) := hF 1 (by kernel_rfl)
        have h20 : a.tmps[20]?.getD undef = .bool true := hD 14 (by kernel_rfl)
        have g20 := guard_get h20
        clear hF hD
        go_simp
        exact hK.out _ _ (Kp.refl _) rfl
      · intro a w' hk hF hD K hK
        have h25 : a.tmps[25]?.getD undef = undef := hD 19 (by kernel_rfl)
        have h20 : a.tmps[20]?.getD undef = .bool true := hD 14 (by kernel_rfl)
        have g20 := guard_get h20
        clear hF hD
        go_simp
        exact hK.out _ _ (Kp.refl _) rfl
      · intro a w' hk hF hD K hK
        have h24 : a.tmps[24]?.getD undef = undef := hD 18 (by kernel_rfl)
        have h26 : a.tmps[26]?.getD undef = undef := hD 20 (by kernel_rfl)
        have h20 : a.tmps[20]?.getD undef = .bool true := hD 14 (by kernel_rfl)
        have g20 := guard_get h20
        clear hF hD
        go_simp
        exact hK.out _ _ (Kp.refl _) rfl
      · intro a w' hk hF hD K hK
        have h27 : a.tmps[27]?.getD undef = undef := hD 21 (by kernel_rfl)
        have h20 : a.tmps[20]?.getD undef = .bool true := hD 14 (by kernel_rfl)
        have g20 := guard_get h20
        clear hF hD
        go_simp
        exact hK.out _ _ (Kp.refl _) rfl
      · intro a w' hk hF hD K hK
        have h28 : a.tmps[28]?.getD undef = undef := hD 22 (by kernel_rfl)
        have h20 : a.tmps[20]?.getD undef = .bool true := hD 14 (by kernel_rfl)
        have g20 := guard_get h20
        clear hF hD
        go_simp
        exact hK.out _ _ (Kp.refl _) rfl
      · intro a w' hk hF hD K hK
        have h22 : a.tmps[22]?.getD undef = undef := hD 16 (by kernel_rfl)
        have h29 : a.tmps[29]?.getD undef = undef := hD 23 (by kernel_rfl)
        have h20 : a.tmps[20]?.getD undef = .bool true := hD 14 (by kernel_rfl)
        have g20 := guard_get h20
        clear hF hD
        go_simp
        exact hK.out _ _ (Kp.refl _) rfl
      · intro a w' hk hF hD K hK
        have h20 : a.tmps[20]?.getD undef = .bool true := hD 14 (by kernel_rfl)
        have h30 : a.tmps[30]?.getD undef = undef := hD 24 (by kernel_rfl)
        clear hF hD
        go_simp
        exact hK.out _ _ (Kp.refl _) rfl
      · intro a w' hk hF hD K hK
        have h31 : a.tmps[31]?.getD undef = .bool true := hD 25 (by kernel_rfl)
        clear hF hD
        go_simp
        exact hK.out _ _ (Kp.refl _) rfl
      · intro a w' hk hF hD K hK
        have h1 : a.tmps[1]?.getD undef = .pointer (some ⟨be, 0, none⟩) := hF 1 (by kernel_rfl)
        have h32 : a.tmps[32]?.getD undef = .bool true := hD 26 (by kernel_rfl)
        have g32 := guard_get h32
        clear hF hD
        go_simp
        exact hK.out _ _ (Kp.refl _) rfl
      · intro a w' hk hF hD K hK
        have h33 : a.tmps[33]?.getD undef = undef := hD 27 (by kernel_rfl)
        have h32 : a.tmps[32]?.getD undef = .bool true := hD 26 (by kernel_rfl)
        have g32 := guard_get h32
        clear hF hD
        go_simp
        exact hK.out _ _ (Kp.refl _) rfl
      · intro a w' hk hF hD K hK
        have h34 : a.tmps[34]?.getD undef = undef := hD 28 (by kernel_rfl)
        have h32 : a.tmps[32]?.getD undef = .bool true := hD 26 (by kernel_rfl)
        have g32 := guard_get h32
        clear hF hD
        go_simp
        exact hK.out _ _ (Kp.refl _) rfl
      · intro a w' hk hF hD K hK
        have h32 : a.tmps[32]?.getD undef = .bool true := hD 26 (by kernel_rfl)
        have h35 : a.tmps[35]?.getD undef = undef := hD 29 (by kernel_rfl)
        clear hF hD
        go_simp
        exact hK.out _ _ (Kp.refl _) rfl
      · intro a w' hk hF hD K hK
        have h36 : a.tmps[36]?.getD undef = .bool true := hD 30 (by kernel_rfl)
        clear hF hD
        go_simp
        exact hK.out _ _ (Kp.refl _) rfl
      · intro a w' hk hF hD K hK
        have h1 : a.tmps[1]?.getD undef = .pointer (some ⟨be, 0, none⟩) := hF 1 (by kernel_rfl)
        have h37 : a.tmps[37]?.getD undef = .bool true := hD 31 (by kernel_rfl)
        have g37 := guard_get h37
        clear hF hD
        go_simp
        exact hK.out _ _ (Kp.refl _) rfl
      · intro a w' hk hF hD K hK
        have h38 : a.tmps[38]?.getD undef = undef := hD 32 (by kernel_rfl)
        have h37 : a.tmps[37]?.getD undef = .bool true := hD 31 (by kernel_rfl)
        have g37 := guard_get h37
        clear hF hD
        go_simp
        exact hK.out _ _ (Kp.refl _) rfl
      · intro a w' hk hF hD K hK
        have h39 : a.tmps[39]?.getD undef = undef := hD 33 (by kernel_rfl)
        have h37 : a.tmps[37]?.getD undef = .bool true := hD 31 (by kernel_rfl)
        have g37 := guard_get h37
        clear hF hD
        go_simp
        exact hK.out _ _ (Kp.refl _) rfl
      · intro a w' hk hF hD K hK
        have h40 : a.tmps[40]?.getD undef = undef := hD 34 (by kernel_rfl)
        have h37 : a.tmps[37]?.getD undef = .bool true := hD 31 (by kernel_rfl)
        have g37 := guard_get h37
        clear hF hD
        go_simp
        exact hK.out _ _ (Kp.refl _) rfl
      · exact fun i0 hi0 => by simp at hi0
      intro v w9 k9 hv
      have v31 : v 31 = .bool true := hv 31 (by omega)
      have v35 : v 35 = undef := hv 35 (by omega)
      clear hv
      simp only [G2.growPut, G2.gSlot, List.getElem?_toArray, List.getElem?_cons_zero, List.getElem?_cons_succ, Option.bind_some, List.setIfInBounds_toArray, List.set_cons_zero, List.set_cons_succ, List.drop_succ_cons, List.drop_zero, v31, v35]
      have kf := k0.trans k9
      clear e0 e1 e2 e3
      go_wp2
      go_ret
      exact ⟨ret_bool HX.out.symm, kf⟩
    | true =>
      have HB1 := hid (fun W => eBetween_any r 0 ((m : Int) - 1) W)
      rw [hb1] at HB1 HF
      obtain ⟨hr0, hr1⟩ : 0 ≤ r ∧ r ≤ (m : Int) - 1 := by simpa [btw] using hb1
      obtain ⟨k, rfl⟩ : ∃ k : Nat, r = (k : Int) := ⟨r.toNat, by omega⟩
      have hkm : k < m := by omega
      have hk' : k < pa.length := by omega
      have hkm2 : (k : Int) < (m : Int) := by omega
      obtain ⟨b, o, rfl, hb, i0⟩ := HS1.out.ints (show k < pa.length from hk')
      have hx := hall pa[k] (List.getElem_mem hk')
      have HN : Hid (pa.getD (k : Int).toNat 0 = pa[k]) := hid (by rw [Int.toNat_natCast, List.getD_eq_getElem?_getD, List.getElem?_eq_getElem hk']; rfl)
      rw [HN.out] at HF
      obtain ⟨x, hxe⟩ : ∃ x, x = pa[k] := ⟨_, rfl⟩
      rw [← hxe] at HF hx i0
      obtain ⟨hx0, hx1⟩ := hx
      have HX1 := hid (show IntKind.i64.wrap (x + 1) = x + 1 from IntWalk.i64_in _ (by omega))
      have HML := hid hml
      clear hxe
      clear HN hall hb1 hml hk'
      by_cases h3 : n = x + 1
      · have HNX := hid h3
        have d5 : (n != x + 1) = false := by rw [h3]; simp
        rw [decide_eq_true h3] at HF
        clear h3
        by_cases h4 : n ≤ 1024
        · have d4 : decide (n ≤ 1024) = true := decide_eq_true h4
          have h5 : ¬ 1024 < n := by omega
          have d6 : decide (1024 < n) = false := decide_eq_false h5
          rw [d4] at HF
          obtain ⟨b2, hb2⟩ : ∃ b2, btw t 1 1073741824 = b2 := ⟨_, rfl⟩
          have HB2 := hid (fun W => eBetween_any t 1 1073741824 W)
          rw [hb2] at HB2 HF
          clear d4 hb2
          refine G2.wp_region_growT Kp [] 36 71 (G2.pvL [G2.eqv (.pointer (some ⟨be, 3, none⟩)), G2.eqv (.slice (some ⟨b, o, none⟩) m c), G2.eqv (.bool true), G2.eqv (.bool false), G2.eqv (.bool false), G2.eqv (.pointer (some ⟨be, 0, none⟩)), G2.eqv (.int .i64 (k : Int)), G2.eqv (.pointer (some ⟨be, 3, none⟩)), G2.eqv (.slice (some ⟨b, o, none⟩) m c), G2.eqv (.int .i64 (m : Int)), G2.eqv (.int .i64 ((m : Int) - 1)), G2.eqv (.bool true), G2.eqv (.bool false), G2.eqv (.bool false), G2.eqv (.bool false), G2.eqv (.pointer (some ⟨be, 1, none⟩)), G2.eqv (.int .i64 n), G2.eqv (.pointer (some ⟨be, 3, none⟩)), G2.eqv (.slice (some ⟨b, o, none⟩) m c), G2.eqv (.pointer (some ⟨be, 0, none⟩)), G2.eqv (.int .i64 (k : Int)), G2.eqv (.pointer (some ⟨b, o + k, none⟩)), G2.eqv (.int .i64 x), G2.eqv (.int .i64 (x + 1)), G2.eqv (.bool false), G2.eqv (.bool false), G2.eqv (.bool false), G2.eqv (.pointer (some ⟨be, 1, none⟩)), G2.eqv (.int .i64 n), G2.eqv (.bool false), G2.eqv (.bool false), G2.eqv (.bool false), G2.eqv (.pointer (some ⟨be, 2, none⟩)), G2.eqv (.int .i64 t), G2.eqv (.bool b2), G2.eqv (.bool (!b2))]) (by kernel_rfl) (by kernel_rfl) rfl (fun x => Kp.refl x) (fun _ _ _ h k => h.trans k) (Kp.refl _).drew (by intro _ _ _ _ _ h; exact h) (G2.pvL_keep (G2.stabL_cons (G2.stab_eq _) (G2.stabL_cons (G2.stab_eq _) (G2.stabL_cons (G2.stab_eq _) (G2.stabL_cons (G2.stab_eq _) (G2.stabL_cons (G2.stab_eq _) (G2.stabL_cons (G2.stab_eq _) (G2.stabL_cons (G2.stab_eq _) (G2.stabL_cons (G2.stab_eq _) (G2.stabL_cons (G2.stab_eq _) (G2.stabL_cons (G2.stab_eq _) (G2.stabL_cons (G2.stab_eq _) (G2.stabL_cons (G2.stab_eq _) (G2.stabL_cons (G2.stab_eq _) (G2.stabL_cons (G2.stab_eq _) (G2.stabL_cons (G2.stab_eq _) (G2.stabL_cons (G2.stab_eq _) (G2.stabL_cons (G2.stab_eq _) (G2.stabL_cons (G2.stab_eq _) (G2.stabL_cons (G2.stab_eq _) (G2.stabL_cons (G2.stab_eq _) (G2.stabL_cons (G2.stab_eq _) (G2.stabL_cons (G2.stab_eq _) (G2.stabL_cons (G2.stab_eq _) (G2.stabL_cons (G2.stab_eq _) (G2.stabL_cons (G2.stab_eq _) (G2.stabL_cons (G2.stab_eq _) (G2.stabL_cons (G2.stab_eq _) (G2.stabL_cons (G2.stab_eq _) (G2.stabL_cons (G2.stab_eq _) (G2.stabL_cons (G2.stab_eq _) (G2.stabL_cons (G2.stab_eq _) (G2.stabL_cons (G2.stab_eq _) (G2.stabL_cons (G2.stab_eq _) (G2.stabL_cons (G2.stab_eq _) (G2.stabL_cons (G2.stab_eq _) (G2.stabL_cons (G2.stab_eq _) (G2.stabL_nil)))))))))))))))))))))))))))))))))))))) (G2.stepsT_cons 0 ?_ (G2.stepsT_cons 1 ?_ (G2.stepsT_cons 2 ?_ (G2.stepsT_cons 3 ?_ (G2.stepsT_cons 4 ?_ (G2.stepsT_cons 5 ?_ (G2.stepsT_cons 6 ?_ (G2.stepsT_cons 7 ?_ (G2.stepsT_cons 8 ?_ (G2.stepsT_cons 9 ?_ (G2.stepsT_cons 10 ?_ (G2.stepsT_cons 11 ?_ (G2.stepsT_cons 12 ?_ (G2.stepsT_cons 13 ?_ (G2.stepsT_cons 14 ?_ (G2.stepsT_cons 15 ?_ (G2.stepsT_cons 16 ?_ (G2.stepsT_cons 17 ?_ (G2.stepsT_cons 18 ?_ (G2.stepsT_cons 19 ?_ (G2.stepsT_cons 20 ?_ (G2.stepsT_cons 21 ?_ (G2.stepsT_cons 22 ?_ (G2.stepsT_cons 23 ?_ (G2.stepsT_cons 24 ?_ (G2.stepsT_cons 25 ?_ (G2.stepsT_cons 26 ?_ (G2.stepsT_cons 27 ?_ (G2.stepsT_cons 28 ?_ (G2.stepsT_cons 29 ?_ (G2.stepsT_cons 30 ?_ (G2.stepsT_cons 31 ?_ (G2.stepsT_cons 32 ?_ (G2.stepsT_cons 33 ?_ (G2.stepsT_cons 34 ?_ (G2.stepsT_cons 35 ?_ (G2.stepsT_nil _ _ _))))))))))))))))))))))))))))))))))))) ?_ ?_
          · intro a w' hk hF hD K hK
            have h1 : a.tmps[1]?.getD undef = .pointer (some ⟨be, 0, none⟩) := hF 1 (by kernel_rfl)
            clear hF hD
            go_simp
            exact hK.out _ _ (Kp.refl _) rfl
          · intro a w' hk hF hD K hK
            have h6 : a.tmps[6]?.getD undef = .pointer (some ⟨be, 3, none⟩) := hD 0 (by kernel_rfl)
            clear hF hD
            have z0 := hk.cellS e3
            go_simp
            exact hK.out _ _ (Kp.refl _) rfl
          · intro a w' hk hF hD K hK
            have h7 : a.tmps[7]?.getD undef = .slice (some ⟨b, o, none⟩) m c := hD 1 (by kernel_rfl)
            clear hF hD
            go_simp
            refine (HV.out _ hk).mono ?_
            rintro e w9 ⟨rfl, hk9⟩
            exact hK.out _ _ hk9 rfl
          · intro a w' hk hF hD K hK
            have h8 : a.tmps[8]?.getD undef = .bool true := hD 2 (by kernel_rfl)
            clear hF hD
            go_simp
            exact hK.out _ _ (Kp.refl _) rfl
          · intro a w' hk hF hD K hK
            have h9 : a.tmps[9]?.getD undef = .bool false := hD 3 (by kernel_rfl)
            clear hF hD
            go_simp
            exact hK.out _ _ (Kp.refl _) rfl
          · intro a w' hk hF hD K hK
            have h1 : a.tmps[1]?.getD undef = .pointer (some ⟨be, 0, none⟩) := hF 1 (by kernel_rfl)
            have h10 : a.tmps[10]?.getD undef = .bool false := hD 4 (by kernel_rfl)
            have g10 := guard_get h10
            clear hF hD
            go_simp
            exact hK.out _ _ (Kp.refl _) rfl
          · intro a w' hk hF hD K hK
            have h11 : a.tmps[11]?.getD undef = .pointer (some ⟨be, 0, none⟩) := hD 5 (by kernel_rfl)
            have h10 : a.tmps[10]?.getD undef = .bool false := hD 4 (by kernel_rfl)
            have g10 := guard_get h10
            clear hF hD
            have z0 := hk.cellS e0
            go_simp
            exact hK.out _ _ (Kp.refl _) rfl
          · intro a w' hk hF hD K hK
            have h1 : a.tmps[1]?.getD undef = .pointer (some ⟨be, 0, none⟩) := hF 1 (by kernel_rfl)
            have h10 : a.tmps[10]?.getD undef = .bool false := hD 4 (by kernel_rfl)
            have g10 := guard_get h10
            clear hF hD
            go_simp
            exact hK.out _ _ (Kp.refl _) rfl
          · intro a w' hk hF hD K hK
            have h13 : a.tmps[13]?.getD undef = .pointer (some ⟨be, 3, none⟩) := hD 7 (by kernel_rfl)
            have h10 : a.tmps[10]?.getD undef = .bool false := hD 4 (by kernel_rfl)
            have g10 := guard_get h10
            clear hF hD
            have z0 := hk.cellS e3
            go_simp
            exact hK.out _ _ (Kp.refl _) rfl
          · intro a w' hk hF hD K hK
            have h14 : a.tmps[14]?.getD undef = .slice (some ⟨b, o, none⟩) m c := hD 8 (by kernel_rfl)
            have h10 : a.tmps[10]?.getD undef = .bool false := hD 4 (by kernel_rfl)
            have g10 := guard_get h10
            clear hF hD
            go_simp
            exact hK.out _ _ (Kp.refl _) rfl
          · intro a w' hk hF hD K hK
            have h15 : a.tmps[15]?.getD undef = .int .i64 (m : Int) := hD 9 (by kernel_rfl)
            have h10 : a.tmps[10]?.getD undef = .bool false := hD 4 (by kernel_rfl)
            have g10 := guard_get h10
            clear hF hD
            have q1 := HM1.out
            go_simp
            exact hK.out _ _ (Kp.refl _) rfl
          · intro a w' hk hF hD K hK
            have h12 : a.tmps[12]?.getD undef = .int .i64 (k : Int) := hD 6 (by kernel_rfl)
            have h16 : a.tmps[16]?.getD undef = .int .i64 ((m : Int) - 1) := hD 10 (by kernel_rfl)
            have h10 : a.tmps[10]?.getD undef = .bool false := hD 4 (by kernel_rfl)
            have g10 := guard_get h10
            clear hF hD
            go_simp
            refine (HB1.out _).mono ?_
            rintro e w9 ⟨rfl, hk9⟩
            exact hK.out _ _ hk9 rfl
          · intro a w' hk hF hD K hK
            have h17 : a.tmps[17]?.getD undef = .bool true := hD 11 (by kernel_rfl)
            have h10 : a.tmps[10]?.getD undef = .bool false := hD 4 (by kernel_rfl)
            have g10 := guard_get h10
            clear hF hD
            go_simp
            exact hK.out _ _ (Kp.refl _) rfl
          · intro a w' hk hF hD K hK
            have h10 : a.tmps[10]?.getD undef = .bool false := hD 4 (by kernel_rfl)
            have h18 : a.tmps[18]?.getD undef = .bool false := hD 12 (by kernel_rfl)
            clear hF hD
            go_simp
            exact hK.out _ _ (Kp.refl _) rfl
          · intro a w' hk hF hD K hK
            have h19 : a.tmps[19]?.getD undef = .bool false := hD 13 (by kernel_rfl)
            clear hF hD
            go_simp
            exact hK.out _ _ (Kp.refl _) rfl
          · intro a w' hk hF hD K hK
            have h1 : a.tmps[1]?.getD undef = .pointer (some ⟨be, 0, none⟩) := hF 1 (by kernel_rfl)
            have h20 : a.tmps[20]?.getD undef = .bool false := hD 14 (by kernel_rfl)
            have g20 := guard_get h20
            clear hF hD
            go_simp
            exact hK.out _ _ (Kp.refl _) rfl
          · intro a w' hk hF hD K hK
            have h21 : a.tmps[21]?.getD undef = .pointer (some ⟨be, 1, none⟩) := hD 15 (by kernel_rfl)
            have h20 : a.tmps[20]?.getD undef = .bool false := hD 14 (by kernel_rfl)
            have g20 := guard_get h20
            clear hF hD
            have z0 := hk.cellS e1
            go_simp
            exact hK.out _ _ (Kp.refl _) rfl
          · intro a w' hk hF hD K hK
            have h1 : a.tmps[1]?.getD undef = .pointer (some ⟨be, 0, none⟩) := hF 1 (by kernel_rfl)
            have h20 : a.tmps[20]?.getD undef = .bool false := hD 14 (by kernel_rfl)
            have g20 := guard_get h20
            clear hF hD
            go_simp
            exact hK.out _ _ (Kp.refl _) rfl
          · intro a w' hk hF hD K hK
            have h23 : a.tmps[23]?.getD undef = .pointer (some ⟨be, 3, none⟩) := hD 17 (by kernel_rfl)
            have h20 : a.tmps[20]?.getD undef = .bool false := hD 14 (by kernel_rfl)
            have g20 := guard_get h20
            clear hF hD
            have z0 := hk.cellS e3
            go_simp
            exact hK.out _ _ (Kp.refl _) rfl
          · intro a w' hk hF hD K hK
            have h1 : a.tmps[1]?.getD undef = .pointer (some ⟨be, 0, none⟩) := hF 1 (by kernel_rfl)
            have h20 : a.tmps[20]?.getD undef = .bool false := hD 14 (by kernel_rfl)
            have g20 := guard_get h20
            clear hF hD
            go_simp
            exact hK.out _ _ (Kp.refl _) rfl
          · intro a w' hk hF hD K hK
            have h25 : a.tmps[25]?.getD undef = .pointer (some ⟨be, 0, none⟩) := hD 19 (by kernel_rfl)
            have h20 : a.tmps[20]?.getD undef = .bool false := hD 14 (by kernel_rfl)
            have g20 := guard_get h20
            clear hF hD
            have z0 := hk.cellS e0
            go_simp
            exact hK.out _ _ (Kp.refl _) rfl
          · intro a w' hk hF hD K hK
            have h24 : a.tmps[24]?.getD undef = .slice (some ⟨b, o, none⟩) m c := hD 18 (by kernel_rfl)
            have h26 : a.tmps[26]?.getD undef = .int .i64 (k : Int) := hD 20 (by kernel_rfl)
            have h20 : a.tmps[20]?.getD undef = .bool false := hD 14 (by kernel_rfl)
            have g20 := guard_get h20
            clear hF hD
            go_simp
            exact hK.out _ _ (Kp.refl _) rfl
          · intro a w' hk hF hD K hK
            have h27 : a.tmps[27]?.getD undef = .pointer (some ⟨b, o + k, none⟩) := hD 21 (by kernel_rfl)
            have h20 : a.tmps[20]?.getD undef = .bool false := hD 14 (by kernel_rfl)
            have g20 := guard_get h20
            clear hF hD
            have z0 := hk.cellS i0
            go_simp
            exact hK.out _ _ (Kp.refl _) rfl
          · intro a w' hk hF hD K hK
            have h28 : a.tmps[28]?.getD undef = .int .i64 x := hD 22 (by kernel_rfl)
            have h20 : a.tmps[20]?.getD undef = .bool false := hD 14 (by kernel_rfl)
            have g20 := guard_get h20
            clear hF hD
            have q1 := HX1.out
            go_simp
            exact hK.out _ _ (Kp.refl _) rfl
          · intro a w' hk hF hD K hK
            have h22 : a.tmps[22]?.getD undef = .int .i64 n := hD 16 (by kernel_rfl)
            have h29 : a.tmps[29]?.getD undef = .int .i64 (x + 1) := hD 23 (by kernel_rfl)
            have h20 : a.tmps[20]?.getD undef = .bool false := hD 14 (by kernel_rfl)
            have g20 := guard_get h20
            clear hF hD
            go_simp
            exact hK.out _ _ (Kp.refl _) rfl
          · intro a w' hk hF hD K hK
            have h20 : a.tmps[20]?.getD undef = .bool false := hD 14 (by kernel_rfl)
            have h30 : a.tmps[30]?.getD undef = .bool false := hD 24 (by kernel_rfl)
            clear hF hD
            go_simp
            exact hK.out _ _ (Kp.refl _) rfl
          · intro a w' hk hF hD K hK
            have h31 : a.tmps[31]?.getD undef = .bool false := hD 25 (by kernel_rfl)
            clear hF hD
            go_simp
            exact hK.out _ _ (Kp.refl _) rfl
          · intro a w' hk hF hD K hK
            have h1 : a.tmps[1]?.getD undef = .pointer (some ⟨be, 0, none⟩) := hF 1 (by kernel_rfl)
            have h32 : a.tmps[32]?.getD undef = .bool false := hD 26 (by kernel_rfl)
            have g32 := guard_get h32
            clear hF hD
            go_simp
            exact hK.out _ _ (Kp.refl _) rfl
          · intro a w' hk hF hD K hK
            have h33 : a.tmps[33]?.getD undef = .pointer (some ⟨be, 1, none⟩) := hD 27 (by kernel_rfl)
            have h32 : a.tmps[32]?.getD undef = .bool false := hD 26 (by kernel_rfl)
            have g32 := guard_get h32
            clear hF hD
            have z0 := hk.cellS e1
            go_simp
            exact hK.out _ _ (Kp.refl _) rfl
          · intro a w' hk hF hD K hK
            have h34 : a.tmps[34]?.getD undef = .int .i64 n := hD 28 (by kernel_rfl)
            have h32 : a.tmps[32]?.getD undef = .bool false := hD 26 (by kernel_rfl)
            have g32 := guard_get h32
            clear hF hD
            go_simp
            exact hK.out _ _ (Kp.refl _) rfl
          · intro a w' hk hF hD K hK
            have h32 : a.tmps[32]?.getD undef = .bool false := hD 26 (by kernel_rfl)
            have h35 : a.tmps[35]?.getD undef = .bool false := hD 29 (by kernel_rfl)
            clear hF hD
            go_simp
            exact hK.out _ _ (Kp.refl _) rfl
          · intro a w' hk hF hD K hK
            have h36 : a.tmps[36]?.getD undef = .bool false := hD 30 (by kernel_rfl)
            clear hF hD
            go_simp
            exact hK.out _ _ (Kp.refl _) rfl
          · intro a w' hk hF hD K hK
            have h1 : a.tmps[1]?.getD undef = .pointer (some ⟨be, 0, none⟩) := hF 1 (by kernel_rfl)
            have h37 : a.tmps[37]?.getD undef = .bool false := hD 31 (by kernel_rfl)
            have g37 := guard_get h37
            clear hF hD
            go_simp
            exact hK.out _ _ (Kp.refl _) rfl
          · intro a w' hk hF hD K hK
            have h38 : a.tmps[38]?.getD undef = .pointer (some ⟨be, 2, none⟩) := hD 32 (by kernel_rfl)
            have h37 : a.tmps[37]?.getD undef = .bool false := hD 31 (by kernel_rfl)
            have g37 := guard_get h37
            clear hF hD
            have z0 := hk.cellS e2
            go_simp
            exact hK.out _ _ (Kp.refl _) rfl
          · intro a w' hk hF hD K hK
            have h39 : a.tmps[39]?.getD undef = .int .i64 t := hD 33 (by kernel_rfl)
            have h37 : a.tmps[37]?.getD undef = .bool false := hD 31 (by kernel_rfl)
            have g37 := guard_get h37
            clear hF hD
            go_simp
            refine (HB2.out _).mono ?_
            rintro e w9 ⟨rfl, hk9⟩
            exact hK.out _ _ hk9 rfl
          · intro a w' hk hF hD K hK
            have h40 : a.tmps[40]?.getD undef = .bool b2 := hD 34 (by kernel_rfl)
            have h37 : a.tmps[37]?.getD undef = .bool false := hD 31 (by kernel_rfl)
            have g37 := guard_get h37
            clear hF hD
            go_simp
            exact hK.out _ _ (Kp.refl _) rfl
          · exact fun i0 hi0 => by simp at hi0
          intro v w9 k9 hv
          have v31 : v 31 = .bool false := hv 31 (by omega)
          have v35 : v 35 = .bool (!b2) := hv 35 (by omega)
          clear hv
          simp only [G2.growPut, G2.gSlot, List.getElem?_toArray, List.getElem?_cons_zero, List.getElem?_cons_succ, Option.bind_some, List.setIfInBounds_toArray, List.set_cons_zero, List.set_cons_succ, List.drop_succ_cons, List.drop_zero, v31, v35]
          cases b2 with
          | false =>
            have HX : Hid (fe = false) := hid (by rw [HF.out]; rfl)
            clear i0
            have kf := k0.trans k9
            clear e0 e1 e2 e3
            go_wp2
            go_ret
            exact ⟨ret_bool HX.out.symm, kf⟩
          | true =>
            have HG : Hid (fe = formE ⟨(k : Int), n, t, pa, kd, ac, ((g1, g2, g3), g4), ds, pl, se⟩) := hid (by rw [HF.out]; rfl)
            have k09 := k0.trans k9
            have hE9 := hE.kp k9 hel
            have hF9 := hid (fun W => evForms_any ⟨(k : Int), n, t, pa, kd, ac, ((g1, g2, g3), g4), ds, pl, se⟩ (.slice (some ⟨b, o, none⟩) m c) W)
            clear i0 e0 e1 e2 e3 HF HV HB1 HB2 hE HX1 HM1 HM2
            go_upto_region 3 with (fail)
            obtain ⟨cs, hcs⟩ : ∃ cs, cs = evL ⟨(k : Int), n, t, pa, kd, ac, ((g1, g2, g3), g4), ds, pl, se⟩ (.slice (some ⟨b, o, none⟩) m c) := ⟨_, rfl⟩
            have hEc : Bx w9 be cs := by rw [hcs]; exact hE9
            have e4 := hE9.cell (j := 4) rfl
            have hF9' : Hid (∀ W, Calls Try.prog 70 #[.agg cs.toArray] W fun y w' => ∃ mb be, y = .returned (.map (some mb)) ∧ MapL intV w' mb (frL be) ∧ Bx w' be cs ∧ W.heap.size ≤ be ∧ Kp W w') := by rw [hcs]; exact hF9
            clear hF9
            replace hcs := hid hcs
            have hlc : cs.length = 13 := by rw [hcs.out]; rfl
            go_cut [3, 4] from 43 to 50 (fun s3 s4 wx => ∃ (W : World) (mb be2 : Nat), W = wx ∧ s3 = (getL kd (frL be2)).getD .nilFunc ∧ s4 = .bool (getL kd (frL be2)).isSome ∧ Bx W be2 cs ∧ w9.heap.size ≤ be2 ∧ Kp w9 W)
            case first =>
              have kd9 : Kp w9 w9.drew := (Kp.refl w9).drew
              have hS : ∀ W, Kp w9 W → W.rangeAt be 0 cs ∧ W.cell? ⟨be, 4, none⟩ = some (.int .i64 kd) := fun W h => ⟨(hEc.kp h (hEc.lt (by omega))).range, h.cellS e4⟩
              replace hS := hid hS
              refine wp_region_held_drew (S := fun W => W.rangeAt be 0 cs ∧ W.cell? ⟨be, 4, none⟩ = some (.int .i64 kd)) (by kernel_rfl) (hS.out _ kd9) (fun hHeld => ?_)
              have hi : (Try.prog.info? 33).map (·.size) = some cs.length := by rw [hlc]; kernel_rfl
              have zF : ∀ W, Sem.run Try.prog (zeroValue 131) W = .ok .nilFunc W := fun W => by kernel_rfl
              refine take_at 0 44 (v := _) rfl rfl (by kernel_rfl) (by kernel_rfl) (by kernel_rfl) (fun _ _ _ h => h) hHeld (yieldsIf_load_mid (by kernel_rfl) 33 _ rfl be 0 rfl cs _ (fun _ h => h.1) Try.underlying33 rfl (by assumption)) ?_
              simp only [Act.put, List.setIfInBounds_toArray, List.set_cons_zero, List.set_cons_succ]
              refine take_at 2 46 (v := ?_) rfl rfl (by kernel_rfl) (by kernel_rfl) (by kernel_rfl) (fun _ _ _ h => h) hHeld (Or.inl ⟨by kernel_rfl, ?_⟩) ?_
              rotate_left
              · intro w hSw; (try dsimp only at hSw); go_simp; try with_reducible rfl
              simp only [Act.put, List.setIfInBounds_toArray, List.set_cons_zero, List.set_cons_succ]
              refine take_at 3 47 (v := ?_) rfl rfl (by kernel_rfl) (by kernel_rfl) (by kernel_rfl) (fun _ _ _ h => h) hHeld (Or.inl ⟨by kernel_rfl, ?_⟩) ?_
              rotate_left
              · intro w hSw; (try dsimp only at hSw); go_simp; try with_reducible rfl
              simp only [Act.put, List.setIfInBounds_toArray, List.set_cons_zero, List.set_cons_succ]
              generalize w9.drew = w10 at *
              refine wpAnyH_ready (rs := [1]) (by kernel_rfl) (by simp) ?_
              refine AllReadyH.cons (o := _) rfl (fun K hK => ?_) AllReadyH.nil
              go_simp
              refine (hF9'.out w10).mono ?_
              rintro e w11 ⟨mb, be2, rfl, hMp, hBx, hz, k11⟩
              have k911 := kd9.trans k11
              refine hK.out _ _ ((hS.out _ k911)) (fun hHeld2 => ?_)
              clear hK K hHeld
              have hHeld := hHeld2
              clear hHeld2
              try simp only [Act.put, List.setIfInBounds_toArray, List.set_cons_zero, List.set_cons_succ]
              have hlook := hMp.look keyI Try.underlying133 (zF w11) kd true
              rw [if_pos rfl] at hlook
              refine wpAnyH_ready (rs := [4]) (by kernel_rfl) (by simp) ?_
              refine AllReadyH.cons (o := _) rfl (fun K hK => ?_) AllReadyH.nil
              go_simp
              refine hK.out _ _ ((hS.out _ k911)) (fun hHeld2 => ?_)
              clear hK K hHeld
              have hHeld := hHeld2
              clear hHeld2
              try simp only [Act.put, List.setIfInBounds_toArray, List.set_cons_zero, List.set_cons_succ]
              refine take_at 5 43 (v := ?_) rfl rfl (by kernel_rfl) (by kernel_rfl) (by kernel_rfl) (fun _ _ _ h => h) hHeld (Or.inl ⟨by kernel_rfl, ?_⟩) ?_
              rotate_left
              · intro w hSw; (try dsimp only at hSw); go_simp; try with_reducible rfl
              simp only [Act.put, List.setIfInBounds_toArray, List.set_cons_zero, List.set_cons_succ]
              refine take_at 6 49 (v := ?_) rfl rfl (by kernel_rfl) (by kernel_rfl) (by kernel_rfl) (fun _ _ _ h => h) hHeld (Or.inl ⟨by kernel_rfl, ?_⟩) ?_
              rotate_left
              · intro w hSw; (try dsimp only at hSw); go_simp; try with_reducible rfl
              simp only [Act.put, List.setIfInBounds_toArray, List.set_cons_zero, List.set_cons_succ]
              refine take_at 7 50 (v := ?_) rfl rfl (by kernel_rfl) (by kernel_rfl) (by kernel_rfl) (fun _ _ _ h => h) hHeld (Or.inl ⟨by kernel_rfl, ?_⟩) ?_
              rotate_left
              · intro w hSw; (try dsimp only at hSw); go_simp; try with_reducible rfl
              simp only [Act.put, List.setIfInBounds_toArray, List.set_cons_zero, List.set_cons_succ]
              refine wpAnyH_ready (rs := [8]) (by kernel_rfl) (by simp) ?_
              refine AllReadyH.cons (o := _) rfl (fun K hK => ?_) AllReadyH.nil
              go_simp
              refine hK.out _ _ ((hS.out _ k911)) (fun hHeld2 => ?_)
              clear hK K hHeld
              have hHeld := hHeld2
              clear hHeld2
              try simp only [Act.put, List.setIfInBounds_toArray, List.set_cons_zero, List.set_cons_succ]
              refine wpAnyH_ready (rs := [9]) (by kernel_rfl) (by simp) ?_
              refine AllReadyH.cons (o := _) rfl (fun K hK => ?_) AllReadyH.nil
              go_simp
              refine hK.out _ _ ((hS.out _ k911)) (fun hHeld2 => ?_)
              clear hK K hHeld
              have hHeld := hHeld2
              clear hHeld2
              try simp only [Act.put, List.setIfInBounds_toArray, List.set_cons_zero, List.set_cons_succ]
              refine wpAnyH_done (by kernel_rfl) ?_ _
              go_wp2
              go_meet
              case rel => exact ⟨w11, mb, be2, rfl, rfl, rfl, hBx, Nat.le_trans kd9.size hz, k911⟩
            case rest =>
              obtain ⟨w11, mb, be2, rfl, rfl, rfl, hBx, hz, k911⟩ := hcut
              have hE11 := hE9.kp k911 (hE9.lt (by simp))
              have k011 := k09.trans k911
              rw [hcs.out] at hBx
              clear hF9' hEc hE9 k911 k9
              have f4 := hE11.cell (j := 4) rfl
              have f5 := hE11.cell (j := 5) rfl
              have f6 := hE11.cell (j := 6) rfl
              have f7 := hE11.cell (j := 7) rfl
              have f8 := hE11.cell (j := 8) rfl
              have f9 := hE11.cell (j := 9) rfl
              have f10 := hE11.cell (j := 10) rfl
              have f11 := hE11.cell (j := 11) rfl
              have f12 := hE11.cell (j := 12) rfl
              by_cases q0 : kd = 0
              · have hg : getL kd (frL be2) = some (frV 86 be2) := by rw [q0]; rfl
                rw [hg, Option.getD_some, Option.isSome_some]
                have HG2 : Hid (fe = (actB ⟨(k : Int), n, t, pa, kd, ac, ((g1, g2, g3), g4), ds, pl, se⟩ && restZ ⟨0, 0, 0, [], 0, 0, ((g1, g2, g3), g4), ds, 0, 0⟩)) := hid (by rw [HG.out]; unfold formE; rw [if_pos q0]; rfl)
                clear hg HG
                replace q0 := hid q0
                have kx := (Kp.refl w11).alloc (.cells #[.int .i64 0, .int .i64 0, .int .i64 0, .slice none 0 0, .int .i64 0, .int .i64 ac, .int .i64 g1, .int .i64 g2, .int .i64 g3, .int .i64 g4, .int .i64 ds, .int .i64 pl, .int .i64 se] 33)
                have BX := Bx.new w11 #[.int .i64 0, .int .i64 0, .int .i64 0, .slice none 0 0, .int .i64 0, .int .i64 ac, .int .i64 g1, .int .i64 g2, .int .i64 g3, .int .i64 g4, .int .i64 ds, .int .i64 pl, .int .i64 se] 33
                have BE := hBx.kp kx (hBx.lt (by simp [evL]))
                have hne2 : be2 < w11.heap.size := hBx.lt (by simp [evL])
                obtain ⟨bx, hbx⟩ : ∃ bx, bx = w11.heap.size := ⟨_, rfl⟩
                have hbxw : w.heap.size ≤ bx := by rw [hbx]; exact k011.size
                rw [← hbx] at BX hne2
                go_upto_region 7 with (fail)
                rw [← hbx]
                replace hbx := hid hbx
                generalize w11.alloc (.cells #[.int .i64 0, .int .i64 0, .int .i64 0, .slice none 0 0, .int .i64 0, .int .i64 ac, .int .i64 g1, .int .i64 g2, .int .i64 g3, .int .i64 g4, .int .i64 ds, .int .i64 pl, .int .i64 se] 33) = w12 at *
                have HC := hid (frAct_at ⟨(k : Int), n, t, pa, kd, ac, ((g1, g2, g3), g4), ds, pl, se⟩ ⟨0, 0, 0, [], 0, ac, ((g1, g2, g3), g4), ds, pl, se⟩ (.slice (some ⟨b, o, none⟩) m c) (.slice none 0 0) be2 bx w12 BE BX (by omega))
                obtain ⟨ab, hab⟩ : ∃ ab, ab = actB ⟨(k : Int), n, t, pa, kd, ac, ((g1, g2, g3), g4), ds, pl, se⟩ := ⟨_, rfl⟩
                rw [← hab] at HC HG2
                replace hab := hid hab
                have kx12 := k011.trans kx
                clear f4 f5 f6 f7 f8 f9 f10 f11 f12 hE11 BX BE
                go_wp2_with fail
                refine HC.out.mono ?_
                rintro e w13 ⟨rfl, -, BX13, fx13⟩
                have kf : Kp w w13 := ((kx12.fx _).trans fx13).kp (fun q hq e => by have e : q = bx := e; omega)
                cases ab with
                | false =>
                  have HX : Hid (fe = false) := hid (by rw [HG2.out]; rfl)
                  clear HG2 HC
                  go_wp2
                  go_ret
                  exact ⟨ret_bool HX.out.symm, kf⟩
                | true =>
                  have HX : Hid (fe = restZ ⟨0, 0, 0, [], 0, 0, ((g1, g2, g3), g4), ds, 0, 0⟩) := hid (by rw [HG2.out]; rfl)
                  clear HG2 HC
                  have x0 := BX13.cell (j := 0) rfl
                  have x1 := BX13.cell (j := 1) rfl
                  have x2 := BX13.cell (j := 2) rfl
                  have x3 := BX13.cell (j := 3) rfl
                  have x4 := BX13.cell (j := 4) rfl
                  have x5 := BX13.cell (j := 5) rfl
                  have x6 := BX13.cell (j := 6) rfl
                  have x7 := BX13.cell (j := 7) rfl
                  have x8 := BX13.cell (j := 8) rfl
                  have x9 := BX13.cell (j := 9) rfl
                  have x10 := BX13.cell (j := 10) rfl
                  have x11 := BX13.cell (j := 11) rfl
                  have x12 := BX13.cell (j := 12) rfl
                  dsimp only at x0 x1 x2 x3 x4 x5 x6 x7 x8 x9 x10 x11 x12
                  go_wp2_with fail
                  refine (evEqual_z 0 g1 g2 g3 g4 ds 0 0 w13).mono ?_
                  rintro e w14 ⟨rfl, k14⟩
                  go_wp2
                  go_ret
                  exact ⟨ret_bool HX.out.symm, kf.trans k14⟩
              · by_cases q1 : kd = 1
                · have hg : getL kd (frL be2) = some (frV 87 be2) := by rw [q1]; rfl
                  rw [hg, Option.getD_some, Option.isSome_some]
                  have HG2 : Hid (fe = (giveB ⟨(k : Int), n, t, pa, kd, ac, ((g1, g2, g3), g4), ds, pl, se⟩ && restZ ⟨0, 0, 0, [], 0, ac, ((0, 0, 0), 0), 0, pl, se⟩)) := hid (by rw [HG.out]; unfold formE; rw [if_neg q0, if_pos q1]; rfl)
                  clear hg HG
                  replace q0 := hid q0
                  replace q1 := hid q1
                  have hBx : Bx w11 be2 (evL ⟨(k : Int), n, t, pa, kd, ac, ((g1, g2, g3), g4), ds, pl, se⟩ (.slice (some ⟨b, o, none⟩) pa.length c)) := by rw [HML.out]; exact hBx
                  have hml9 := hid (show pa.length ≤ 1000000 by rw [HML.out]; omega)
                  have kx := (Kp.refl w11).alloc (.cells #[.int .i64 0, .int .i64 0, .int .i64 0, .slice none 0 0, .int .i64 0, .int .i64 ac, .int .i64 g1, .int .i64 g2, .int .i64 g3, .int .i64 g4, .int .i64 ds, .int .i64 pl, .int .i64 se] 33)
                  have BX := Bx.new w11 #[.int .i64 0, .int .i64 0, .int .i64 0, .slice none 0 0, .int .i64 0, .int .i64 ac, .int .i64 g1, .int .i64 g2, .int .i64 g3, .int .i64 g4, .int .i64 ds, .int .i64 pl, .int .i64 se] 33
                  have BE := hBx.kp kx (hBx.lt (by simp [evL]))
                  have hne2 : be2 < w11.heap.size := hBx.lt (by simp [evL])
                  obtain ⟨bx, hbx⟩ : ∃ bx, bx = w11.heap.size := ⟨_, rfl⟩
                  have hbxw : w.heap.size ≤ bx := by rw [hbx]; exact k011.size
                  rw [← hbx] at BX hne2
                  go_upto_region 7 with (fail)
                  rw [← hbx]
                  replace hbx := hid hbx
                  generalize w11.alloc (.cells #[.int .i64 0, .int .i64 0, .int .i64 0, .slice none 0 0, .int .i64 0, .int .i64 ac, .int .i64 g1, .int .i64 g2, .int .i64 g3, .int .i64 g4, .int .i64 ds, .int .i64 pl, .int .i64 se] 33) = w12 at *
                  have HC := hid (frGive_at ⟨(k : Int), n, t, pa, kd, ac, ((g1, g2, g3), g4), ds, pl, se⟩ ⟨0, 0, 0, [], 0, ac, ((g1, g2, g3), g4), ds, pl, se⟩ (some ⟨b, o, none⟩) c (.slice none 0 0) be2 bx w12 BE BX (by omega) hml9.out)
                  obtain ⟨ab, hab⟩ : ∃ ab, ab = giveB ⟨(k : Int), n, t, pa, kd, ac, ((g1, g2, g3), g4), ds, pl, se⟩ := ⟨_, rfl⟩
                  rw [← hab] at HC HG2
                  replace hab := hid hab
                  have kx12 := k011.trans kx
                  clear f4 f5 f6 f7 f8 f9 f10 f11 f12 hE11 BX BE
                  go_wp2_with fail
                  refine HC.out.mono ?_
                  rintro e w13 ⟨rfl, -, BX13, fx13⟩
                  have kf : Kp w w13 := ((kx12.fx _).trans fx13).kp (fun q hq e => by have e : q = bx := e; omega)
                  cases ab with
                  | false =>
                    have HX : Hid (fe = false) := hid (by rw [HG2.out]; rfl)
                    clear HG2 HC
                    go_wp2
                    go_ret
                    exact ⟨ret_bool HX.out.symm, kf⟩
                  | true =>
                    have HX : Hid (fe = restZ ⟨0, 0, 0, [], 0, ac, ((0, 0, 0), 0), 0, pl, se⟩) := hid (by rw [HG2.out]; rfl)
                    clear HG2 HC
                    have x0 := BX13.cell (j := 0) rfl
                    have x1 := BX13.cell (j := 1) rfl
                    have x2 := BX13.cell (j := 2) rfl
                    have x3 := BX13.cell (j := 3) rfl
                    have x4 := BX13.cell (j := 4) rfl
                    have x5 := BX13.cell (j := 5) rfl
                    have x6 := BX13.cell (j := 6) rfl
                    have x7 := BX13.cell (j := 7) rfl
                    have x8 := BX13.cell (j := 8) rfl
                    have x9 := BX13.cell (j := 9) rfl
                    have x10 := BX13.cell (j := 10) rfl
                    have x11 := BX13.cell (j := 11) rfl
                    have x12 := BX13.cell (j := 12) rfl
                    dsimp only at x0 x1 x2 x3 x4 x5 x6 x7 x8 x9 x10 x11 x12
                    go_wp2_with fail
                    refine (evEqual_z ac 0 0 0 0 0 pl se w13).mono ?_
                    rintro e w14 ⟨rfl, k14⟩
                    go_wp2
                    go_ret
                    exact ⟨ret_bool HX.out.symm, kf.trans k14⟩
                · by_cases q2 : kd = 2
                  · have hg : getL kd (frL be2) = some (frV 88 be2) := by rw [q2]; rfl
                    rw [hg, Option.getD_some, Option.isSome_some]
                    have HG2 : Hid (fe = (noteB ⟨(k : Int), n, t, pa, kd, ac, ((g1, g2, g3), g4), ds, pl, se⟩ && restZ ⟨0, 0, 0, [], 0, ac, ((g1, g2, g3), g4), ds, 0, 0⟩)) := hid (by rw [HG.out]; unfold formE; rw [if_neg q0, if_neg q1, if_pos q2]; rfl)
                    clear hg HG
                    replace q0 := hid q0
                    replace q1 := hid q1
                    replace q2 := hid q2
                    have kx := (Kp.refl w11).alloc (.cells #[.int .i64 0, .int .i64 0, .int .i64 0, .slice none 0 0, .int .i64 0, .int .i64 ac, .int .i64 g1, .int .i64 g2, .int .i64 g3, .int .i64 g4, .int .i64 ds, .int .i64 pl, .int .i64 se] 33)
                    have BX := Bx.new w11 #[.int .i64 0, .int .i64 0, .int .i64 0, .slice none 0 0, .int .i64 0, .int .i64 ac, .int .i64 g1, .int .i64 g2, .int .i64 g3, .int .i64 g4, .int .i64 ds, .int .i64 pl, .int .i64 se] 33
                    have BE := hBx.kp kx (hBx.lt (by simp [evL]))
                    have hne2 : be2 < w11.heap.size := hBx.lt (by simp [evL])
                    obtain ⟨bx, hbx⟩ : ∃ bx, bx = w11.heap.size := ⟨_, rfl⟩
                    have hbxw : w.heap.size ≤ bx := by rw [hbx]; exact k011.size
                    rw [← hbx] at BX hne2
                    go_upto_region 7 with (fail)
                    rw [← hbx]
                    replace hbx := hid hbx
                    generalize w11.alloc (.cells #[.int .i64 0, .int .i64 0, .int .i64 0, .slice none 0 0, .int .i64 0, .int .i64 ac, .int .i64 g1, .int .i64 g2, .int .i64 g3, .int .i64 g4, .int .i64 ds, .int .i64 pl, .int .i64 se] 33) = w12 at *
                    have HC := hid (frNote_at ⟨(k : Int), n, t, pa, kd, ac, ((g1, g2, g3), g4), ds, pl, se⟩ ⟨0, 0, 0, [], 0, ac, ((g1, g2, g3), g4), ds, pl, se⟩ (.slice (some ⟨b, o, none⟩) m c) (.slice none 0 0) be2 bx w12 BE BX (by omega))
                    obtain ⟨ab, hab⟩ : ∃ ab, ab = noteB ⟨(k : Int), n, t, pa, kd, ac, ((g1, g2, g3), g4), ds, pl, se⟩ := ⟨_, rfl⟩
                    rw [← hab] at HC HG2
                    replace hab := hid hab
                    have kx12 := k011.trans kx
                    clear f4 f5 f6 f7 f8 f9 f10 f11 f12 hE11 BX BE
                    go_wp2_with fail
                    refine HC.out.mono ?_
                    rintro e w13 ⟨rfl, -, BX13, fx13⟩
                    have kf : Kp w w13 := ((kx12.fx _).trans fx13).kp (fun q hq e => by have e : q = bx := e; omega)
                    cases ab with
                    | false =>
                      have HX : Hid (fe = false) := hid (by rw [HG2.out]; rfl)
                      clear HG2 HC
                      go_wp2
                      go_ret
                      exact ⟨ret_bool HX.out.symm, kf⟩
                    | true =>
                      have HX : Hid (fe = restZ ⟨0, 0, 0, [], 0, ac, ((g1, g2, g3), g4), ds, 0, 0⟩) := hid (by rw [HG2.out]; rfl)
                      clear HG2 HC
                      have x0 := BX13.cell (j := 0) rfl
                      have x1 := BX13.cell (j := 1) rfl
                      have x2 := BX13.cell (j := 2) rfl
                      have x3 := BX13.cell (j := 3) rfl
                      have x4 := BX13.cell (j := 4) rfl
                      have x5 := BX13.cell (j := 5) rfl
                      have x6 := BX13.cell (j := 6) rfl
                      have x7 := BX13.cell (j := 7) rfl
                      have x8 := BX13.cell (j := 8) rfl
                      have x9 := BX13.cell (j := 9) rfl
                      have x10 := BX13.cell (j := 10) rfl
                      have x11 := BX13.cell (j := 11) rfl
                      have x12 := BX13.cell (j := 12) rfl
                      dsimp only at x0 x1 x2 x3 x4 x5 x6 x7 x8 x9 x10 x11 x12
                      go_wp2_with fail
                      refine (evEqual_z ac g1 g2 g3 g4 ds 0 0 w13).mono ?_
                      rintro e w14 ⟨rfl, k14⟩
                      go_wp2
                      go_ret
                      exact ⟨ret_bool HX.out.symm, kf.trans k14⟩
                  · have hg : getL kd (frL be2) = none := by
                      unfold frL
                      simp [getL, q0, q1, q2]
                    rw [hg]
                    have HX : Hid (fe = false) := hid (by rw [HG.out]; unfold formE; rw [if_neg q0, if_neg q1, if_neg q2])
                    clear hg HG
                    replace q0 := hid q0
                    replace q1 := hid q1
                    replace q2 := hid q2
                    go_wp2
                    go_ret
                    exact ⟨ret_bool HX.out.symm, k011⟩
        · have d4 : decide (n ≤ 1024) = false := decide_eq_false h4
          have h5 : 1024 < n := by omega
          have d6 : decide (1024 < n) = true := decide_eq_true h5
          rw [d4] at HF
          have HX : Hid (fe = false) := hid (by rw [HF.out]; rfl)
          clear d4 HF
          refine G2.wp_region_growT Kp [] 36 71 (G2.pvL [G2.eqv (.pointer (some ⟨be, 3, none⟩)), G2.eqv (.slice (some ⟨b, o, none⟩) m c), G2.eqv (.bool true), G2.eqv (.bool false), G2.eqv (.bool false), G2.eqv (.pointer (some ⟨be, 0, none⟩)), G2.eqv (.int .i64 (k : Int)), G2.eqv (.pointer (some ⟨be, 3, none⟩)), G2.eqv (.slice (some ⟨b, o, none⟩) m c), G2.eqv (.int .i64 (m : Int)), G2.eqv (.int .i64 ((m : Int) - 1)), G2.eqv (.bool true), G2.eqv (.bool false), G2.eqv (.bool false), G2.eqv (.bool false), G2.eqv (.pointer (some ⟨be, 1, none⟩)), G2.eqv (.int .i64 n), G2.eqv (.pointer (some ⟨be, 3, none⟩)), G2.eqv (.slice (some ⟨b, o, none⟩) m c), G2.eqv (.pointer (some ⟨be, 0, none⟩)), G2.eqv (.int .i64 (k : Int)), G2.eqv (.pointer (some ⟨b, o + k, none⟩)), G2.eqv (.int .i64 x), G2.eqv (.int .i64 (x + 1)), G2.eqv (.bool false), G2.eqv (.bool false), G2.eqv (.bool false), G2.eqv (.pointer (some ⟨be, 1, none⟩)), G2.eqv (.int .i64 n), G2.eqv (.bool true), G2.eqv (.bool true), G2.eqv (.bool true), G2.eqv (undef), G2.eqv (undef), G2.eqv (undef), G2.eqv (undef)]) (by kernel_rfl) (by kernel_rfl) rfl (fun x => Kp.refl x) (fun _ _ _ h k => h.trans k) (Kp.refl _).drew (by intro _ _ _ _ _ h; exact h) (G2.pvL_keep (G2.stabL_cons (G2.stab_eq _) (G2.stabL_cons (G2.stab_eq _) (G2.stabL_cons (G2.stab_eq _) (G2.stabL_cons (G2.stab_eq _) (G2.stabL_cons (G2.stab_eq _) (G2.stabL_cons (G2.stab_eq _) (G2.stabL_cons (G2.stab_eq _) (G2.stabL_cons (G2.stab_eq _) (G2.stabL_cons (G2.stab_eq _) (G2.stabL_cons (G2.stab_eq _) (G2.stabL_cons (G2.stab_eq _) (G2.stabL_cons (G2.stab_eq _) (G2.stabL_cons (G2.stab_eq _) (G2.stabL_cons (G2.stab_eq _) (G2.stabL_cons (G2.stab_eq _) (G2.stabL_cons (G2.stab_eq _) (G2.stabL_cons (G2.stab_eq _) (G2.stabL_cons (G2.stab_eq _) (G2.stabL_cons (G2.stab_eq _) (G2.stabL_cons (G2.stab_eq _) (G2.stabL_cons (G2.stab_eq _) (G2.stabL_cons (G2.stab_eq _) (G2.stabL_cons (G2.stab_eq _) (G2.stabL_cons (G2.stab_eq _) (G2.stabL_cons (G2.stab_eq _) (G2.stabL_cons (G2.stab_eq _) (G2.stabL_cons (G2.stab_eq _) (G2.stabL_cons (G2.stab_eq _) (G2.stabL_cons (G2.stab_eq _) (G2.stabL_cons (G2.stab_eq _) (G2.stabL_cons (G2.stab_eq _) (G2.stabL_cons (G2.stab_eq _) (G2.stabL_cons (G2.stab_eq _) (G2.stabL_cons (G2.stab_eq _) (G2.stabL_cons (G2.stab_eq _) (G2.stabL_cons (G2.stab_eq _) (G2.stabL_nil)))))))))))))))))))))))))))))))))))))) (G2.stepsT_cons 0 ?_ (G2.stepsT_cons 1 ?_ (G2.stepsT_cons 2 ?_ (G2.stepsT_cons 3 ?_ (G2.stepsT_cons 4 ?_ (G2.stepsT_cons 5 ?_ (G2.stepsT_cons 6 ?_ (G2.stepsT_cons 7 ?_ (G2.stepsT_cons 8 ?_ (G2.stepsT_cons 9 ?_ (G2.stepsT_cons 10 ?_ (G2.stepsT_cons 11 ?_ (G2.stepsT_cons 12 ?_ (G2.stepsT_cons 13 ?_ (G2.stepsT_cons 14 ?_ (G2.stepsT_cons 15 ?_ (G2.stepsT_cons 16 ?_ (G2.stepsT_cons 17 ?_ (G2.stepsT_cons 18 ?_ (G2.stepsT_cons 19 ?_ (G2.stepsT_cons 20 ?_ (G2.stepsT_cons 21 ?_ (G2.stepsT_cons 22 ?_ (G2.stepsT_cons 23 ?_ (G2.stepsT_cons 24 ?_ (G2.stepsT_cons 25 ?_ (G2.stepsT_cons 26 ?_ (G2.stepsT_cons 27 ?_ (G2.stepsT_cons 28 ?_ (G2.stepsT_cons 29 ?_ (G2.stepsT_cons 30 ?_ (G2.stepsT_cons 31 ?_ (G2.stepsT_cons 32 ?_ (G2.stepsT_cons 33 ?_ (G2.stepsT_cons 34 ?_ (G2.stepsT_cons 35 ?_ (G2.stepsT_nil _ _ _))))))))))))))))))))))))))))))))))))) ?_ ?_
          · intro a w' hk hF hD K hK
            have h1 : a.tmps[1]?.getD undef = .pointer (some ⟨be, 0, none⟩) := hF 1 (by kernel_rfl)
            clear hF hD
            go_simp
            exact hK.out _ _ (Kp.refl _) rfl
          · intro a w' hk hF hD K hK
            have h6 : a.tmps[6]?.getD undef = .pointer (some ⟨be, 3, none⟩) := hD 0 (by kernel_rfl)
            clear hF hD
            have z0 := hk.cellS e3
            go_simp
            exact hK.out _ _ (Kp.refl _) rfl
          · intro a w' hk hF hD K hK
            have h7 : a.tmps[7]?.getD undef = .slice (some ⟨b, o, none⟩) m c := hD 1 (by kernel_rfl)
            clear hF hD
            go_simp
            refine (HV.out _ hk).mono ?_
            rintro e w9 ⟨rfl, hk9⟩
            exact hK.out _ _ hk9 rfl
          · intro a w' hk hF hD K hK
            have h8 : a.tmps[8]?.getD undef = .bool true := hD 2 (by kernel_rfl)
            clear hF hD
            go_simp
            exact hK.out _ _ (Kp.refl _) rfl
          · intro a w' hk hF hD K hK
            have h9 : a.tmps[9]?.getD undef = .bool false := hD 3 (by kernel_rfl)
            clear hF hD
            go_simp
            exact hK.out _ _ (Kp.refl _) rfl
          · intro a w' hk hF hD K hK
            have h1 : a.tmps[1]?.getD undef = .pointer (some ⟨be, 0, none⟩) := hF 1 (by kernel_rfl)
            have h10 : a.tmps[10]?.getD undef = .bool false := hD 4 (by kernel_rfl)
            have g10 := guard_get h10
            clear hF hD
            go_simp
            exact hK.out _ _ (Kp.refl _) rfl
          · intro a w' hk hF hD K hK
            have h11 : a.tmps[11]?.getD undef = .pointer (some ⟨be, 0, none⟩) := hD 5 (by kernel_rfl)
            have h10 : a.tmps[10]?.getD undef = .bool false := hD 4 (by kernel_rfl)
            have g10 := guard_get h10
            clear hF hD
            have z0 := hk.cellS e0
            go_simp
            exact hK.out _ _ (Kp.refl _) rfl
          · intro a w' hk hF hD K hK
            have h1 : a.tmps[1]?.getD undef = .pointer (some ⟨be, 0, none⟩) := hF 1 (by kernel_rfl)
            have h10 : a.tmps[10]?.getD undef = .bool false := hD 4 (by kernel_rfl)
            have g10 := guard_get h10
            clear hF hD
            go_simp
            exact hK.out _ _ (Kp.refl _) rfl
          · intro a w' hk hF hD K hK
            have h13 : a.tmps[13]?.getD undef = .pointer (some ⟨be, 3, none⟩) := hD 7 (by kernel_rfl)
            have h10 : a.tmps[10]?.getD undef = .bool false := hD 4 (by kernel_rfl)
            have g10 := guard_get h10
            clear hF hD
            have z0 := hk.cellS e3
            go_simp
            exact hK.out _ _ (Kp.refl _) rfl
          · intro a w' hk hF hD K hK
            have h14 : a.tmps[14]?.getD undef = .slice (some ⟨b, o, none⟩) m c := hD 8 (by kernel_rfl)
            have h10 : a.tmps[10]?.getD undef = .bool false := hD 4 (by kernel_rfl)
            have g10 := guard_get h10
            clear hF hD
            go_simp
            exact hK.out _ _ (Kp.refl _) rfl
          · intro a w' hk hF hD K hK
            have h15 : a.tmps[15]?.getD undef = .int .i64 (m : Int) := hD 9 (by kernel_rfl)
            have h10 : a.tmps[10]?.getD undef = .bool false := hD 4 (by kernel_rfl)
            have g10 := guard_get h10
            clear hF hD
            have q1 := HM1.out
            go_simp
            exact hK.out _ _ (Kp.refl _) rfl
          · intro a w' hk hF hD K hK
            have h12 : a.tmps[12]?.getD undef = .int .i64 (k : Int) := hD 6 (by kernel_rfl)
            have h16 : a.tmps[16]?.getD undef = .int .i64 ((m : Int) - 1) := hD 10 (by kernel_rfl)
            have h10 : a.tmps[10]?.getD undef = .bool false := hD 4 (by kernel_rfl)
            have g10 := guard_get h10
            clear hF hD
            go_simp
            refine (HB1.out _).mono ?_
            rintro e w9 ⟨rfl, hk9⟩
            exact hK.out _ _ hk9 rfl
          · intro a w' hk hF hD K hK
            have h17 : a.tmps[17]?.getD undef = .bool true := hD 11 (by kernel_rfl)
            have h10 : a.tmps[10]?.getD undef = .bool false := hD 4 (by kernel_rfl)
            have g10 := guard_get h10
            clear hF hD
            go_simp
            exact hK.out _ _ (Kp.refl _) rfl
          · intro a w' hk hF hD K hK
            have h10 : a.tmps[10]?.getD undef = .bool false := hD 4 (by kernel_rfl)
            have h18 : a.tmps[18]?.getD undef = .bool false := hD 12 (by kernel_rfl)
            clear hF hD
            go_simp
            exact hK.out _ _ (Kp.refl _) rfl
          · intro a w' hk hF hD K hK
            have h19 : a.tmps[19]?.getD undef = .bool false := hD 13 (by kernel_rfl)
            clear hF hD
            go_simp
            exact hK.out _ _ (Kp.refl _) rfl
          · intro a w' hk hF hD K hK
            have h1 : a.tmps[1]?.getD undef = .pointer (some ⟨be, 0, none⟩) := hF 1 (by kernel_rfl)
            have h20 : a.tmps[20]?.getD undef = .bool false := hD 14 (by kernel_rfl)
            have g20 := guard_get h20
            clear hF hD
            go_simp
            exact hK.out _ _ (Kp.refl _) rfl
          · intro a w' hk hF hD K hK
            have h21 : a.tmps[21]?.getD undef = .pointer (some ⟨be, 1, none⟩) := hD 15 (by kernel_rfl)
            have h20 : a.tmps[20]?.getD undef = .bool false := hD 14 (by kernel_rfl)
            have g20 := guard_get h20
            clear hF hD
            have z0 := hk.cellS e1
            go_simp
            exact hK.out _ _ (Kp.refl _) rfl
          · intro a w' hk hF hD K hK
            have h1 : a.tmps[1]?.getD undef = .pointer (some ⟨be, 0, none⟩) := hF 1 (by kernel_rfl)
            have h20 : a.tmps[20]?.getD undef = .bool false := hD 14 (by kernel_rfl)
            have g20 := guard_get h20
            clear hF hD
            go_simp
            exact hK.out _ _ (Kp.refl _) rfl
          · intro a w' hk hF hD K hK
            have h23 : a.tmps[23]?.getD undef = .pointer (some ⟨be, 3, none⟩) := hD 17 (by kernel_rfl)
            have h20 : a.tmps[20]?.getD undef = .bool false := hD 14 (by kernel_rfl)
            have g20 := guard_get h20
            clear hF hD
            have z0 := hk.cellS e3
            go_simp
            exact hK.out _ _ (Kp.refl _) rfl
          · intro a w' hk hF hD K hK
            have h1 : a.tmps[1]?.getD undef = .pointer (some ⟨be, 0, none⟩) := hF 1 (by kernel_rfl)
            have h20 : a.tmps[20]?.getD undef = .bool false := hD 14 (by kernel_rfl)
            have g20 := guard_get h20
            clear hF hD
            go_simp
            exact hK.out _ _ (Kp.refl _) rfl
          · intro a w' hk hF hD K hK
            have h25 : a.tmps[25]?.getD undef = .pointer (some ⟨be, 0, none⟩) := hD 19 (by kernel_rfl)
            have h20 : a.tmps[20]?.getD undef = .bool false := hD 14 (by kernel_rfl)
            have g20 := guard_get h20
            clear hF hD
            have z0 := hk.cellS e0
            go_simp
            exact hK.out _ _ (Kp.refl _) rfl
          · intro a w' hk hF hD K hK
            have h24 : a.tmps[24]?.getD undef = .slice (some ⟨b, o, none⟩) m c := hD 18 (by kernel_rfl)
            have h26 : a.tmps[26]?.getD undef = .int .i64 (k : Int) := hD 20 (by kernel_rfl)
            have h20 : a.tmps[20]?.getD undef = .bool false := hD 14 (by kernel_rfl)
            have g20 := guard_get h20
            clear hF hD
            go_simp
            exact hK.out _ _ (Kp.refl _) rfl
          · intro a w' hk hF hD K hK
            have h27 : a.tmps[27]?.getD undef = .pointer (some ⟨b, o + k, none⟩) := hD 21 (by kernel_rfl)
            have h20 : a.tmps[20]?.getD undef = .bool false := hD 14 (by kernel_rfl)
            have g20 := guard_get h20
            clear hF hD
            have z0 := hk.cellS i0
            go_simp
            exact hK.out _ _ (Kp.refl _) rfl
          · intro a w' hk hF hD K hK
            have h28 : a.tmps[28]?.getD undef = .int .i64 x := hD 22 (by kernel_rfl)
            have h20 : a.tmps[20]?.getD undef = .bool false := hD 14 (by kernel_rfl)
            have g20 := guard_get h20
            clear hF hD
            have q1 := HX1.out
            go_simp
            exact hK.out _ _ (Kp.refl _) rfl
          · intro a w' hk hF hD K hK
            have h22 : a.tmps[22]?.getD undef = .int .i64 n := hD 16 (by kernel_rfl)
            have h29 : a.tmps[29]?.getD undef = .int .i64 (x + 1) := hD 23 (by kernel_rfl)
            have h20 : a.tmps[20]?.getD undef = .bool false := hD 14 (by kernel_rfl)
            have g20 := guard_get h20
            clear hF hD
            go_simp
            exact hK.out _ _ (Kp.refl _) rfl
          · intro a w' hk hF hD K hK
            have h20 : a.tmps[20]?.getD undef = .bool false := hD 14 (by kernel_rfl)
            have h30 : a.tmps[30]?.getD undef = .bool false := hD 24 (by kernel_rfl)
            clear hF hD
            go_simp
            exact hK.out _ _ (Kp.refl _) rfl
          · intro a w' hk hF hD K hK
            have h31 : a.tmps[31]?.getD undef = .bool false := hD 25 (by kernel_rfl)
            clear hF hD
            go_simp
            exact hK.out _ _ (Kp.refl _) rfl
          · intro a w' hk hF hD K hK
            have h1 : a.tmps[1]?.getD undef = .pointer (some ⟨be, 0, none⟩) := hF 1 (by kernel_rfl)
            have h32 : a.tmps[32]?.getD undef = .bool false := hD 26 (by kernel_rfl)
            have g32 := guard_get h32
            clear hF hD
            go_simp
            exact hK.out _ _ (Kp.refl _) rfl
          · intro a w' hk hF hD K hK
            have h33 : a.tmps[33]?.getD undef = .pointer (some ⟨be, 1, none⟩) := hD 27 (by kernel_rfl)
            have h32 : a.tmps[32]?.getD undef = .bool false := hD 26 (by kernel_rfl)
            have g32 := guard_get h32
            clear hF hD
            have z0 := hk.cellS e1
            go_simp
            exact hK.out _ _ (Kp.refl _) rfl
          · intro a w' hk hF hD K hK
            have h34 : a.tmps[34]?.getD undef = .int .i64 n := hD 28 (by kernel_rfl)
            have h32 : a.tmps[32]?.getD undef = .bool false := hD 26 (by kernel_rfl)
            have g32 := guard_get h32
            clear hF hD
            go_simp
            exact hK.out _ _ (Kp.refl _) rfl
          · intro a w' hk hF hD K hK
            have h32 : a.tmps[32]?.getD undef = .bool false := hD 26 (by kernel_rfl)
            have h35 : a.tmps[35]?.getD undef = .bool true := hD 29 (by kernel_rfl)
            clear hF hD
            go_simp
            exact hK.out _ _ (Kp.refl _) rfl
          · intro a w' hk hF hD K hK
            have h36 : a.tmps[36]?.getD undef = .bool true := hD 30 (by kernel_rfl)
            clear hF hD
            go_simp
            exact hK.out _ _ (Kp.refl _) rfl
          · intro a w' hk hF hD K hK
            have h1 : a.tmps[1]?.getD undef = .pointer (some ⟨be, 0, none⟩) := hF 1 (by kernel_rfl)
            have h37 : a.tmps[37]?.getD undef = .bool true := hD 31 (by kernel_rfl)
            have g37 := guard_get h37
            clear hF hD
            go_simp
            exact hK.out _ _ (Kp.refl _) rfl
          · intro a w' hk hF hD K hK
            have h38 : a.tmps[38]?.getD undef = undef := hD 32 (by kernel_rfl)
            have h37 : a.tmps[37]?.getD undef = .bool true := hD 31 (by kernel_rfl)
            have g37 := guard_get h37
            clear hF hD
            go_simp
            exact hK.out _ _ (Kp.refl _) rfl
          · intro a w' hk hF hD K hK
            have h39 : a.tmps[39]?.getD undef = undef := hD 33 (by kernel_rfl)
            have h37 : a.tmps[37]?.getD undef = .bool true := hD 31 (by kernel_rfl)
            have g37 := guard_get h37
            clear hF hD
            go_simp
            exact hK.out _ _ (Kp.refl _) rfl
          · intro a w' hk hF hD K hK
            have h40 : a.tmps[40]?.getD undef = undef := hD 34 (by kernel_rfl)
            have h37 : a.tmps[37]?.getD undef = .bool true := hD 31 (by kernel_rfl)
            have g37 := guard_get h37
            clear hF hD
            go_simp
            exact hK.out _ _ (Kp.refl _) rfl
          · exact fun i0 hi0 => by simp at hi0
          intro v w9 k9 hv
          have v31 : v 31 = .bool true := hv 31 (by omega)
          have v35 : v 35 = undef := hv 35 (by omega)
          clear hv
          simp only [G2.growPut, G2.gSlot, List.getElem?_toArray, List.getElem?_cons_zero, List.getElem?_cons_succ, Option.bind_some, List.setIfInBounds_toArray, List.set_cons_zero, List.set_cons_succ, List.drop_succ_cons, List.drop_zero, v31, v35]
          clear i0
          have kf := k0.trans k9
          clear e0 e1 e2 e3
          go_wp2
          go_ret
          exact ⟨ret_bool HX.out.symm, kf⟩
      · have d5 : (n != x + 1) = true := by simpa using h3
        rw [decide_eq_false h3] at HF
        have HX : Hid (fe = false) := hid (by rw [HF.out]; rfl)
        clear h3 HF
        refine G2.wp_region_growT Kp [] 36 71 (G2.pvL [G2.eqv (.pointer (some ⟨be, 3, none⟩)), G2.eqv (.slice (some ⟨b, o, none⟩) m c), G2.eqv (.bool true), G2.eqv (.bool false), G2.eqv (.bool false), G2.eqv (.pointer (some ⟨be, 0, none⟩)), G2.eqv (.int .i64 (k : Int)), G2.eqv (.pointer (some ⟨be, 3, none⟩)), G2.eqv (.slice (some ⟨b, o, none⟩) m c), G2.eqv (.int .i64 (m : Int)), G2.eqv (.int .i64 ((m : Int) - 1)), G2.eqv (.bool true), G2.eqv (.bool false), G2.eqv (.bool false), G2.eqv (.bool false), G2.eqv (.pointer (some ⟨be, 1, none⟩)), G2.eqv (.int .i64 n), G2.eqv (.pointer (some ⟨be, 3, none⟩)), G2.eqv (.slice (some ⟨b, o, none⟩) m c), G2.eqv (.pointer (some ⟨be, 0, none⟩)), G2.eqv (.int .i64 (k : Int)), G2.eqv (.pointer (some ⟨b, o + k, none⟩)), G2.eqv (.int .i64 x), G2.eqv (.int .i64 (x + 1)), G2.eqv (.bool true), G2.eqv (.bool true), G2.eqv (.bool true), G2.eqv (undef), G2.eqv (undef), G2.eqv (undef), G2.eqv (.bool true), G2.eqv (.bool true), G2.eqv (undef), G2.eqv (undef), G2.eqv (undef), G2.eqv (undef)]) (by kernel_rfl) (by kernel_rfl) rfl (fun x => Kp.refl x) (fun _ _ _ h k => h.trans k) (Kp.refl _).drew (by intro _ _ _ _ _ h; exact h) (G2.pvL_keep (G2.stabL_cons (G2.stab_eq _) (G2.stabL_cons (G2.stab_eq _) (G2.stabL_cons (G2.stab_eq _) (G2.stabL_cons (G2.stab_eq _) (G2.stabL_cons (G2.stab_eq _) (G2.stabL_cons (G2.stab_eq _) (G2.stabL_cons (G2.stab_eq _) (G2.stabL_cons (G2.stab_eq _) (G2.stabL_cons (G2.stab_eq _) (G2.stabL_cons (G2.stab_eq _) (G2.stabL_cons (G2.stab_eq _) (G2.stabL_cons (G2.stab_eq _) (G2.stabL_cons (G2.stab_eq _) (G2.stabL_cons (G2.stab_eq _) (G2.stabL_cons (G2.stab_eq _) (G2.stabL_cons (G2.stab_eq _) (G2.stabL_cons (G2.stab_eq _) (G2.stabL_cons (G2.stab_eq _) (G2.stabL_cons (G2.stab_eq _) (G2.stabL_cons (G2.stab_eq _) (G2.stabL_cons (G2.stab_eq _) (G2.stabL_cons (G2.stab_eq _) (G2.stabL_cons (G2.stab_eq _) (G2.stabL_cons (G2.stab_eq _) (G2.stabL_cons (G2.stab_eq _) (G2.stabL_cons (G2.stab_eq _) (G2.stabL_cons (G2.stab_eq _) (G2.stabL_cons (G2.stab_eq _) (G2.stabL_cons (G2.stab_eq _) (G2.stabL_cons (G2.stab_eq _) (G2.stabL_cons (G2.stab_eq _) (G2.stabL_cons (G2.stab_eq _) (G2.stabL_cons (G2.stab_eq _) (G2.stabL_cons (G2.stab_eq _) (G2.stabL_cons (G2.stab_eq _) (G2.stabL_cons (G2.stab_eq _) (G2.stabL_nil)))))))))))))))))))))))))))))))))))))) (G2.stepsT_cons 0 ?_ (G2.stepsT_cons 1 ?_ (G2.stepsT_cons 2 ?_ (G2.stepsT_cons 3 ?_ (G2.stepsT_cons 4 ?_ (G2.stepsT_cons 5 ?_ (G2.stepsT_cons 6 ?_ (G2.stepsT_cons 7 ?_ (G2.stepsT_cons 8 ?_ (G2.stepsT_cons 9 ?_ (G2.stepsT_cons 10 ?_ (G2.stepsT_cons 11 ?_ (G2.stepsT_cons 12 ?_ (G2.stepsT_cons 13 ?_ (G2.stepsT_cons 14 ?_ (G2.stepsT_cons 15 ?_ (G2.stepsT_cons 16 ?_ (G2.stepsT_cons 17 ?_ (G2.stepsT_cons 18 ?_ (G2.stepsT_cons 19 ?_ (G2.stepsT_cons 20 ?_ (G2.stepsT_cons 21 ?_ (G2.stepsT_cons 22 ?_ (G2.stepsT_cons 23 ?_ (G2.stepsT_cons 24 ?_ (G2.stepsT_cons 25 ?_ (G2.stepsT_cons 26 ?_ (G2.stepsT_cons 27 ?_ (G2.stepsT_cons 28 ?_ (G2.stepsT_cons 29 ?_ (G2.stepsT_cons 30 ?_ (G2.stepsT_cons 31 ?_ (G2.stepsT_cons 32 ?_ (G2.stepsT_cons 33 ?_ (G2.stepsT_cons 34 ?_ (G2.stepsT_cons 35 ?_ (G2.stepsT_nil _ _ _))))))))))))))))))))))))))))))))))))) ?_ ?_
        · intro a w' hk hF hD K hK
          have h1 : a.tmps[1]?.getD undef = .pointer (some ⟨be, 0, none⟩) := hF 1 (by kernel_rfl)
          clear hF hD
          go_simp
          exact hK.out _ _ (Kp.refl _) rfl
        · intro a w' hk hF hD K hK
          have h6 : a.tmps[6]?.getD undef = .pointer (some ⟨be, 3, none⟩) := hD 0 (by kernel_rfl)
          clear hF hD
          have z0 := hk.cellS e3
          go_simp
          exact hK.out _ _ (Kp.refl _) rfl
        · intro a w' hk hF hD K hK
          have h7 : a.tmps[7]?.getD undef = .slice (some ⟨b, o, none⟩) m c := hD 1 (by kernel_rfl)
          clear hF hD
          go_simp
          refine (HV.out _ hk).mono ?_
          rintro e w9 ⟨rfl, hk9⟩
          exact hK.out _ _ hk9 rfl
        · intro a w' hk hF hD K hK
          have h8 : a.tmps[8]?.getD undef = .bool true := hD 2 (by kernel_rfl)
          clear hF hD
          go_simp
          exact hK.out _ _ (Kp.refl _) rfl
        · intro a w' hk hF hD K hK
          have h9 : a.tmps[9]?.getD undef = .bool false := hD 3 (by kernel_rfl)
          clear hF hD
          go_simp
          exact hK.out _ _ (Kp.refl _) rfl
        · intro a w' hk hF hD K hK
          have h1 : a.tmps[1]?.getD undef = .pointer (some ⟨be, 0, none⟩) := hF 1 (by kernel_rfl)
          have h10 : a.tmps[10]?.getD undef = .bool false := hD 4 (by kernel_rfl)
          have g10 := guard_get h10
          clear hF hD
          go_simp
          exact hK.out _ _ (Kp.refl _) rfl
        · intro a w' hk hF hD K hK
          have h11 : a.tmps[11]?.getD undef = .pointer (some ⟨be, 0, none⟩) := hD 5 (by kernel_rfl)
          have h10 : a.tmps[10]?.getD undef = .bool false := hD 4 (by kernel_rfl)
          have g10 := guard_get h10
          clear hF hD
          have z0 := hk.cellS e0
          go_simp
          exact hK.out _ _ (Kp.refl _) rfl
        · intro a w' hk hF hD K hK
          have h1 : a.tmps[1]?.getD undef = .pointer (some ⟨be, 0, none⟩) := hF 1 (by kernel_rfl)
          have h10 : a.tmps[10]?.getD undef = .bool false := hD 4 (by kernel_rfl)
          have g10 := guard_get h10
          clear hF hD
          go_simp
          exact hK.out _ _ (Kp.refl _) rfl
        · intro a w' hk hF hD K hK
          have h13 : a.tmps[13]?.getD undef = .pointer (some ⟨be, 3, none⟩) := hD 7 (by kernel_rfl)
          have h10 : a.tmps[10]?.getD undef = .bool false := hD 4 (by kernel_rfl)
          have g10 := guard_get h10
          clear hF hD
          have z0 := hk.cellS e3
          go_simp
          exact hK.out _ _ (Kp.refl _) rfl
        · intro a w' hk hF hD K hK
          have h14 : a.tmps[14]?.getD undef = .slice (some ⟨b, o, none⟩) m c := hD 8 (by kernel_rfl)
          have h10 : a.tmps[10]?.getD undef = .bool false := hD 4 (by kernel_rfl)
          have g10 := guard_get h10
          clear hF hD
          go_simp
          exact hK.out _ _ (Kp.refl _) rfl
        · intro a w' hk hF hD K hK
          have h15 : a.tmps[15]?.getD undef = .int .i64 (m : Int) := hD 9 (by kernel_rfl)
          have h10 : a.tmps[10]?.getD undef = .bool false := hD 4 (by kernel_rfl)
          have g10 := guard_get h10
          clear hF hD
          have q1 := HM1.out
          go_simp
          exact hK.out _ _ (Kp.refl _) rfl
        · intro a w' hk hF hD K hK
          have h12 : a.tmps[12]?.getD undef = .int .i64 (k : Int) := hD 6 (by kernel_rfl)
          have h16 : a.tmps[16]?.getD undef = .int .i64 ((m : Int) - 1) := hD 10 (by kernel_rfl)
          have h10 : a.tmps[10]?.getD undef = .bool false := hD 4 (by kernel_rfl)
          have g10 := guard_get h10
          clear hF hD
          go_simp
          refine (HB1.out _).mono ?_
          rintro e w9 ⟨rfl, hk9⟩
          exact hK.out _ _ hk9 rfl
        · intro a w' hk hF hD K hK
          have h17 : a.tmps[17]?.getD undef = .bool true := hD 11 (by kernel_rfl)
          have h10 : a.tmps[10]?.getD undef = .bool false := hD 4 (by kernel_rfl)
          have g10 := guard_get h10
          clear hF hD
          go_simp
          exact hK.out _ _ (Kp.refl _) rfl
        · intro a w' hk hF hD K hK
          have h10 : a.tmps[10]?.getD undef = .bool false := hD 4 (by kernel_rfl)
          have h18 : a.tmps[18]?.getD undef = .bool false := hD 12 (by kernel_rfl)
          clear hF hD
          go_simp
          exact hK.out _ _ (Kp.refl _) rfl
        · intro a w' hk hF hD K hK
          have h19 : a.tmps[19]?.getD undef = .bool false := hD 13 (by kernel_rfl)
          clear hF hD
          go_simp
          exact hK.out _ _ (Kp.refl _) rfl
        · intro a w' hk hF hD K hK
          have h1 : a.tmps[1]?.getD undef = .pointer (some ⟨be, 0, none⟩) := hF 1 (by kernel_rfl)
          have h20 : a.tmps[20]?.getD undef = .bool false := hD 14 (by kernel_rfl)
          have g20 := guard_get h20
          clear hF hD
          go_simp
          exact hK.out _ _ (Kp.refl _) rfl
        · intro a w' hk hF hD K hK
          have h21 : a.tmps[21]?.getD undef = .pointer (some ⟨be, 1, none⟩) := hD 15 (by kernel_rfl)
          have h20 : a.tmps[20]?.getD undef = .bool false := hD 14 (by kernel_rfl)
          have g20 := guard_get h20
          clear hF hD
          have z0 := hk.cellS e1
          go_simp
          exact hK.out _ _ (Kp.refl _) rfl
        · intro a w' hk hF hD K hK
          have h1 : a.tmps[1]?.getD undef = .pointer (some ⟨be, 0, none⟩) := hF 1 (by kernel_rfl)
          have h20 : a.tmps[20]?.getD undef = .bool false := hD 14 (by kernel_rfl)
          have g20 := guard_get h20
          clear hF hD
          go_simp
          exact hK.out _ _ (Kp.refl _) rfl
        · intro a w' hk hF hD K hK
          have h23 : a.tmps[23]?.getD undef = .pointer (some ⟨be, 3, none⟩) := hD 17 (by kernel_rfl)
          have h20 : a.tmps[20]?.getD undef = .bool false := hD 14 (by kernel_rfl)
          have g20 := guard_get h20
          clear hF hD
          have z0 := hk.cellS e3
          go_simp
          exact hK.out _ _ (Kp.refl _) rfl
        · intro a w' hk hF hD K hK
          have h1 : a.tmps[1]?.getD undef = .pointer (some ⟨be, 0, none⟩) := hF 1 (by kernel_rfl)
          have h20 : a.tmps[20]?.getD undef = .bool false := hD 14 (by kernel_rfl)
          have g20 := guard_get h20
          clear hF hD
          go_simp
          exact hK.out _ _ (Kp.refl _) rfl
        · intro a w' hk hF hD K hK
          have h25 : a.tmps[25]?.getD undef = .pointer (some ⟨be, 0, none⟩) := hD 19 (by kernel_rfl)
          have h20 : a.tmps[20]?.getD undef = .bool false := hD 14 (by kernel_rfl)
          have g20 := guard_get h20
          clear hF hD
          have z0 := hk.cellS e0
          go_simp
          exact hK.out _ _ (Kp.refl _) rfl
        · intro a w' hk hF hD K hK
          have h24 : a.tmps[24]?.getD undef = .slice (some ⟨b, o, none⟩) m c := hD 18 (by kernel_rfl)
          have h26 : a.tmps[26]?.getD undef = .int .i64 (k : Int) := hD 20 (by kernel_rfl)
          have h20 : a.tmps[20]?.getD undef = .bool false := hD 14 (by kernel_rfl)
          have g20 := guard_get h20
          clear hF hD
          go_simp
          exact hK.out _ _ (Kp.refl _) rfl
        · intro a w' hk hF hD K hK
          have h27 : a.tmps[27]?.getD undef = .pointer (some ⟨b, o + k, none⟩) := hD 21 (by kernel_rfl)
          have h20 : a.tmps[20]?.getD undef = .bool false := hD 14 (by kernel_rfl)
          have g20 := guard_get h20
          clear hF hD
          have z0 := hk.cellS i0
          go_simp
          exact hK.out _ _ (Kp.refl _) rfl
        · intro a w' hk hF hD K hK
          have h28 : a.tmps[28]?.getD undef = .int .i64 x := hD 22 (by kernel_rfl)
          have h20 : a.tmps[20]?.getD undef = .bool false := hD 14 (by kernel_rfl)
          have g20 := guard_get h20
          clear hF hD
          have q1 := HX1.out
          go_simp
          exact hK.out _ _ (Kp.refl _) rfl
        · intro a w' hk hF hD K hK
          have h22 : a.tmps[22]?.getD undef = .int .i64 n := hD 16 (by kernel_rfl)
          have h29 : a.tmps[29]?.getD undef = .int .i64 (x + 1) := hD 23 (by kernel_rfl)
          have h20 : a.tmps[20]?.getD undef = .bool false := hD 14 (by kernel_rfl)
          have g20 := guard_get h20
          clear hF hD
          go_simp
          exact hK.out _ _ (Kp.refl _) rfl
        · intro a w' hk hF hD K hK
          have h20 : a.tmps[20]?.getD undef = .bool false := hD 14 (by kernel_rfl)
          have h30 : a.tmps[30]?.getD undef = .bool true := hD 24 (by kernel_rfl)
          clear hF hD
          go_simp
          exact hK.out _ _ (Kp.refl _) rfl
        · intro a w' hk hF hD K hK
          have h31 : a.tmps[31]?.getD undef = .bool true := hD 25 (by kernel_rfl)
          clear hF hD
          go_simp
          exact hK.out _ _ (Kp.refl _) rfl
        · intro a w' hk hF hD K hK
          have h1 : a.tmps[1]?.getD undef = .pointer (some ⟨be, 0, none⟩) := hF 1 (by kernel_rfl)
          have h32 : a.tmps[32]?.getD undef = .bool true := hD 26 (by kernel_rfl)
          have g32 := guard_get h32
          clear hF hD
          go_simp
          exact hK.out _ _ (Kp.refl _) rfl
        · intro a w' hk hF hD K hK
          have h33 : a.tmps[33]?.getD undef = undef := hD 27 (by kernel_rfl)
          have h32 : a.tmps[32]?.getD undef = .bool true := hD 26 (by kernel_rfl)
          have g32 := guard_get h32
          clear hF hD
          go_simp
          exact hK.out _ _ (Kp.refl _) rfl
        · intro a w' hk hF hD K hK
          have h34 : a.tmps[34]?.getD undef = undef := hD 28 (by kernel_rfl)
          have h32 : a.tmps[32]?.getD undef = .bool true := hD 26 (by kernel_rfl)
          have g32 := guard_get h32
          clear hF hD
          go_simp
          exact hK.out _ _ (Kp.refl _) rfl
        · intro a w' hk hF hD K hK
          have h32 : a.tmps[32]?.getD undef = .bool true := hD 26 (by kernel_rfl)
          have h35 : a.tmps[35]?.getD undef = undef := hD 29 (by kernel_rfl)
          clear hF hD
          go_simp
          exact hK.out _ _ (Kp.refl _) rfl
        · intro a w' hk hF hD K hK
          have h36 : a.tmps[36]?.getD undef = .bool true := hD 30 (by kernel_rfl)
          clear hF hD
          go_simp
          exact hK.out _ _ (Kp.refl _) rfl
        · intro a w' hk hF hD K hK
          have h1 : a.tmps[1]?.getD undef = .pointer (some ⟨be, 0, none⟩) := hF 1 (by kernel_rfl)
          have h37 : a.tmps[37]?.getD undef = .bool true := hD 31 (by kernel_rfl)
          have g37 := guard_get h37
          clear hF hD
          go_simp
          exact hK.out _ _ (Kp.refl _) rfl
        · intro a w' hk hF hD K hK
          have h38 : a.tmps[38]?.getD undef = undef := hD 32 (by kernel_rfl)
          have h37 : a.tmps[37]?.getD undef = .bool true := hD 31 (by kernel_rfl)
          have g37 := guard_get h37
          clear hF hD
          go_simp
          exact hK.out _ _ (Kp.refl _) rfl
        · intro a w' hk hF hD K hK
          have h39 : a.tmps[39]?.getD undef = undef := hD 33 (by kernel_rfl)
          have h37 : a.tmps[37]?.getD undef = .bool true := hD 31 (by kernel_rfl)
          have g37 := guard_get h37
          clear hF hD
          go_simp
          exact hK.out _ _ (Kp.refl _) rfl
        · intro a w' hk hF hD K hK
          have h40 : a.tmps[40]?.getD undef = undef := hD 34 (by kernel_rfl)
          have h37 : a.tmps[37]?.getD undef = .bool true := hD 31 (by kernel_rfl)
          have g37 := guard_get h37
          clear hF hD
          go_simp
          exact hK.out _ _ (Kp.refl _) rfl
        · exact fun i0 hi0 => by simp at hi0
        intro v w9 k9 hv
        have v31 : v 31 = .bool true := hv 31 (by omega)
        have v35 : v 35 = undef := hv 35 (by omega)
        clear hv
        simp only [G2.growPut, G2.gSlot, List.getElem?_toArray, List.getElem?_cons_zero, List.getElem?_cons_succ, Option.bind_some, List.setIfInBounds_toArray, List.set_cons_zero, List.set_cons_succ, List.drop_succ_cons, List.drop_zero, v31, v35]
        clear i0
        have kf := k0.trans k9
        clear e0 e1 e2 e3
        go_wp2
        go_ret
        exact ⟨ret_bool HX.out.symm, kf⟩
end Go.Proofs.Ytcddllaljgfjbaa
