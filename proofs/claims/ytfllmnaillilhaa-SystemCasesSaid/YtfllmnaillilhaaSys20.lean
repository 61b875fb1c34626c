
/-
Lists of systems: the first one that values are a solution of.
-/
import Derived.Test.YtfllmnaillilhaaSys19
namespace Go.Proofs.Ytfllmnaillilhaa
set_option linter.unusedSimpArgs false
set_option linter.unusedVariables false
open Go.RowKit

def rdSys : Rd Sys := fun w cs s => SysV w (.agg cs.toArray) s
theorem rdSys_stable : Stable rdSys := fun _ _ _ _ hb h => SysV.keep h hb
abbrev SysL := Sl rdSys 4
theorem Sl.sysAt {w : World} {A : Option Addr} {n c : Nat} {l : List Sys} (h : SysL w (.slice A n c) l) {k : Nat} (hk : k < l.length) :
    ∃ b o Ab cb Ar cr Ag cg Ac cc, A = some ⟨b, o, none⟩ ∧ b < w.heap.size ∧ w.cell? ⟨b, o + k * 4, none⟩ = some (.slice Ab l[k].box.length cb) ∧ w.cell? ⟨b, o + k * 4 + 1, none⟩ = some (.slice Ar l[k].rows.length cr) ∧ w.cell? ⟨b, o + k * 4 + 2, none⟩ = some (.slice Ag l[k].graphs.length cg) ∧ w.cell? ⟨b, o + k * 4 + 3, none⟩ = some (.slice Ac l[k].cases.length cc) ∧
      SysV w (.agg #[.slice Ab l[k].box.length cb, .slice Ar l[k].rows.length cr, .slice Ag l[k].graphs.length cg, .slice Ac l[k].cases.length cc]) l[k] := by
  obtain ⟨b, o, cs, hA, had, hcs, hc, hr⟩ := h.at_ hk
  obtain ⟨Ab, cb, Ar, cr, Ag, cg, Ac, cc, he, h1, h2, h3, h4⟩ := id hr
  injection he with he
  have he2 := congrArg Array.toList he
  simp only at he2
  subst he2
  exact ⟨b, o, Ab, cb, Ar, cr, Ag, cg, Ac, cc, hA, had, hc 0 _ rfl, hc 1 _ rfl, hc 2 _ rfl, hc 3 _ rfl, Ab, cb, Ar, cr, Ag, cg, Ac, cc, rfl, h1, h2, h3, h4⟩
set_option maxHeartbeats 400000 in
theorem IndexFuncSystem_any (p : Sys → Bool) (F : FuncId) (cap : List Value) (v : Value) (l : List Sys) (w : World) (hS : SysL w v l) (hr : Real Try.prog F)
    (hf : ∀ (w' : World) (Ab : Option Addr) (cb : Nat) (Ar : Option Addr) (cr : Nat) (Ag : Option Addr) (cg : Nat) (Ac : Option Addr) (cc : Nat) (r : Sys), Kp w w' → SysV w' (.agg #[.slice Ab r.box.length cb, .slice Ar r.rows.length cr, .slice Ag r.graphs.length cg, .slice Ac r.cases.length cc]) r → Calls Try.prog F (.agg #[.slice Ab r.box.length cb, .slice Ar r.rows.length cr, .slice Ag r.graphs.length cg, .slice Ac r.cases.length cc] :: cap).toArray w' fun e w'' => e = .returned (.bool (p r)) ∧ Kp w' w'') :
    Calls Try.prog 27 #[v, .func (.func F) #[] cap.toArray] w fun e w' => e = .returned (.int .i64 (idxF p 0 l)) ∧ Kp w w' := by
  have HC := hid hf
  clear hf
  have hcf := fun args w => hr.run args w
  obtain ⟨A, c, rfl, hc, hm⟩ := hS.form
  go_enter Try.func27, Try.ntmps27
  go_wp2
  go_loopw [8] (fun i wr => ∃ k : Nat, k ≤ l.length ∧ i = .int .i64 k ∧ Hid (idxF p 0 l = idxF p k (l.drop k)) ∧ Kp w wr) (fun i _ => l.length - (intOf i).toNat)
  case atStart => exact ⟨0, Nat.zero_le _, rfl, rfl, Kp.refl _⟩
  case round =>
    obtain ⟨k, hk, rfl, HB, hbel⟩ := hrel
    by_cases hlt : k < l.length
    · obtain ⟨b, o, Ab, cb, Ar, cr, Ag, cg, Ac, cc, rfl, hb, h1, h2, h3, h4, ht⟩ := (hS.keep rdSys_stable hbel).sysAt hlt
      have HD := hid (List.drop_eq_getElem_cons hlt)
      generalize l[k] = r at *
      obtain r := r
      clear hS
      try dsimp only at *
      by_cases hp : p r = true
      · have HF : Hid (idxF p 0 l = k) := hid (by rw [HB.out, HD.out, idxF, if_pos hp])
        have HP := hid hp
        clear hp
        go_wp2_with fail
        refine (HC.out wr Ab cb Ar cr Ag cg Ac cc r hbel ht).mono ?_
        rintro e w1 ⟨rfl, hk1⟩
        have hbel1 := hbel.trans hk1
        rw [HP.out]
        go_wp2
        go_ret
        exact ⟨ret_int HF.out.symm, (by repeat (first | assumption | exact Kp.refl _ | apply Kp.alloc | apply Kp.drew | apply Kp.drewN))⟩
      · have HF : Hid (idxF p 0 l = idxF p (k + 1) (l.drop (k + 1))) := hid (by rw [HB.out, HD.out, idxF, if_neg hp])
        have HP := hid (show p r = false by simpa using hp)
        clear hp
        go_wp2_with fail
        refine (HC.out wr Ab cb Ar cr Ag cg Ac cc r hbel ht).mono ?_
        rintro e w1 ⟨rfl, hk1⟩
        have hbel1 := hbel.trans hk1
        rw [HP.out]
        go_wp2
        go_roundw
        case rel => exact ⟨k + 1, by omega, by go_num, HF, (by repeat (first | assumption | exact Kp.refl _ | apply Kp.alloc | apply Kp.drew | apply Kp.drewN))⟩
        case measure => simp [intOf]; omega
    · have HF : Hid (idxF p 0 l = -1) := hid (by rw [HB.out, List.drop_of_length_le (by omega)]; rfl)
      go_wp2
      go_ret
      exact ⟨ret_int HF.out.symm, (by repeat (first | assumption | exact Kp.refl _ | apply Kp.alloc | apply Kp.drew | apply Kp.drewN))⟩
set_option maxRecDepth 8000 in
set_option maxHeartbeats 1000000 in
theorem Cases1_any (p : Nat) (va : Value) (s : Sys) (AL : Option Addr) (cL : Nat) (L : List Int) (w : World) (hs : SysV w va s) (hp : w.cell? ⟨p, 0, none⟩ = some (.slice AL L.length cL)) (hL : Ints w (.slice AL L.length cL) L) :
    Calls Try.prog 28 #[va, .pointer (some ⟨p, 0, none⟩)] w fun e w' => e = .returned (.bool (holdsS s L)) ∧ Kp w w' := by
  have hs' := hs
  obtain ⟨Ab, cb, Ar, cr, Ag, cg, Ac, cc, rfl, hb, hr, hg, hc⟩ := hs'
  obtain ⟨l1, m1⟩ := hb.caps
  obtain ⟨l2, m2⟩ := hr.caps
  obtain ⟨l3, m3⟩ := hg.caps
  obtain ⟨l4, m4⟩ := hc.caps
  have hpl := block_lt_of_cell hp
  have p0 := ((Kp.refl w).alloc (.cells #[.slice Ab s.box.length cb, .slice Ar s.rows.length cr, .slice Ag s.graphs.length cg, .slice Ac s.cases.length cc] 27)).cellS hp
  have k0 := (Kp.refl w).alloc (.cells #[.slice Ab s.box.length cb, .slice Ar s.rows.length cr, .slice Ag s.graphs.length cg, .slice Ac s.cases.length cc] 27)
  have B0 := SysB.new w #[.slice Ab s.box.length cb, .slice Ar s.rows.length cr, .slice Ag s.graphs.length cg, .slice Ac s.cases.length cc] 27
  have z0 := alloc_lt w (.cells #[.slice Ab s.box.length cb, .slice Ar s.rows.length cr, .slice Ag s.graphs.length cg, .slice Ac s.cases.length cc] 27)
  go_enter Try.func28, Try.ntmps28
  go_wp2_with fail
  try rw [← World.size_alloc w (.cells #[.slice Ab s.box.length cb, .slice Ar s.rows.length cr, .slice Ag s.graphs.length cg, .slice Ac s.cases.length cc] 27)]
  generalize w.alloc (.cells #[.slice Ab s.box.length cb, .slice Ar s.rows.length cr, .slice Ag s.graphs.length cg, .slice Ac s.cases.length cc] 27) = w0 at *
  generalize w.heap.size = b0 at *
  refine (sHolds_any _ _ s L _ (hs.keep k0) (hL.keep (pl_stable _) k0)).mono ?_
  rintro e w1 ⟨rfl, k1⟩
  generalize hq : holdsS s L = q
  have Hq := hid hq
  clear hq
  go_wp2
  go_ret
  exact ⟨ret_bool (by rw [Hq.out]), k0.trans k1⟩
theorem Cases1_real : Real Try.prog 28 := ⟨_, Try.func28, by kernel_rfl, by kernel_rfl⟩
end Go.Proofs.Ytfllmnaillilhaa
