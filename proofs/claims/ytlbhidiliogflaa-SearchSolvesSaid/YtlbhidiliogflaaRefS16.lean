
/-
The reference's solutions and their number: the walks.
-/
import Derived.Test.YtlbhidiliogflaaRB
import Derived.Test.YtlbhidiliogflaaDB
import Derived.Test.YtlbhidiliogflaaKB
import Derived.Test.YtlbhidiliogflaaKB
import Derived.Test.YtlbhidiliogflaaKA
import Derived.Deep.LoopGhost
namespace Go.Proofs.Ytlbhidiliogflaa
set_option linter.unusedSimpArgs false
set_option linter.unusedVariables false
open Go.RowKit

def rdIL : Rd (List Int) := fun w cs l => ∃ v, cs = [v] ∧ Ints w v l
theorem rdIL_stable : Stable rdIL := fun _ _ _ _ hb ⟨v, h1, h2⟩ => ⟨v, h1, h2.keep (pl_stable _) hb⟩
theorem stIntsM : SliceT Try.prog 51 43 1 24 := SliceT.mk' Try.underlying51 (z := .slice none 0 0) (by kernel_rfl) rfl (by omega)
def solsL (s : Sys) : List (List Int) := if validS s then (allS s.box).filter (holdsS s) else []
/-- an element with a row of its own comes up -/
theorem NL.push {S : Nat → Prop} {z : Nat} {w w' : World} {vo vo' vv : Value} {css : List (Elm 1)} {xs : List (List Int)} {l : List Int} {c : Elm 1} {e : TypeId} (h : NL rdIL e 1 S w vo css xs) (hc : c.val = [vv]) (ho : Own encInt 3 1 z w vv l) (own' : Own encC e 1 0 w' vo' (css ++ [c]))
    (hg : w.grownBy w' vo.ownBlock) (hat : vo'.ownBlock = vo.ownBlock ∨ vo'.ownBlock = some w.heap.size) (hS : ∀ q, z ≤ q → S q) (hz : z ≤ w.heap.size) (hne : ∀ q, vv.ownBlock = some q → vo.ownBlock ≠ some q) : NL rdIL e 1 S w' vo' (css ++ [c]) (xs ++ [l]) :=
  h.snoc own' hg hat (fun q => vv.ownBlock = some q) (fun q hq => ⟨hS q (ho.ge q hq), hne q hq, ho.blk_lt q hq⟩) (ho.owS.imp fun w2 h2 => ⟨vv, hc, h2.sl encInt_len⟩) (fun _ h => h) (hS _ hz)
set_option maxRecDepth 8000 in
set_option maxHeartbeats 1600000 in
theorem qSolutions_any (va : Value) (s : Sys) (w : World) (hs : SysV w va s) (hsz : validS s = true → sizeB s.box ≤ 65536) :
    Calls Try.prog 18 #[va] w fun e w' => ∃ v, e = .returned v ∧ Sl rdIL 1 w' v (solsL s) ∧ Kp w w' := by
  have hs' := hs
  obtain ⟨Ab, cb, Ar, cr, Ag, cg, Ac, cc, rfl, hb, hr, hg, hc⟩ := hs'
  obtain ⟨l1, m1⟩ := hb.caps
  obtain ⟨l2, m2⟩ := hr.caps
  obtain ⟨l3, m3⟩ := hg.caps
  obtain ⟨l4, m4⟩ := hc.caps
  have k0 := ((Kp.refl w).alloc (.cells #[.slice Ab s.box.length cb, .slice Ar s.rows.length cr, .slice Ag s.graphs.length cg, .slice Ac s.cases.length cc] 27)).alloc (.cells #[] 43)
  have B0 := (SysB.new w #[.slice Ab s.box.length cb, .slice Ar s.rows.length cr, .slice Ag s.graphs.length cg, .slice Ac s.cases.length cc] 27).keep ((Kp.refl _).alloc (.cells #[] 43))
  have o0 := Own.lit (base := w.heap.size + 1) (e := 43) (size := 1) (encC (size := 1)) (w.alloc (.cells #[.slice Ab s.box.length cb, .slice Ar s.rows.length cr, .slice Ag s.graphs.length cg, .slice Ac s.cases.length cc] 27)) #[] [] (by simp) (by simp) rfl rfl
  rw [World.size_alloc] at o0
  have hzz : ((w.alloc (.cells #[.slice Ab s.box.length cb, .slice Ar s.rows.length cr, .slice Ag s.graphs.length cg, .slice Ac s.cases.length cc] 27)).alloc (.cells #[] 43)).heap.size = w.heap.size + 2 := by simp
  have hbl := alloc_lt w (.cells #[.slice Ab s.box.length cb, .slice Ar s.rows.length cr, .slice Ag s.graphs.length cg, .slice Ac s.cases.length cc] 27)
  have HS : Hid (solsL s = if validS s then (allS s.box).filter (holdsS s) else []) := hid rfl
  go_enter Try.func18, Try.ntmps18
  go_wp2_with fail
  generalize (w.alloc (.cells #[.slice Ab s.box.length cb, .slice Ar s.rows.length cr, .slice Ag s.graphs.length cg, .slice Ac s.cases.length cc] 27)).alloc (.cells #[] 43) = w0 at *
  generalize hb0 : w.heap.size = b0 at *
  replace hb0 := hid hb0
  refine (qValid_any _ s _ (hs.keep k0)).mono ?_
  rintro e w1 ⟨rfl, k1⟩
  replace B0 := B0.keep k1
  have o1 := o0.kp k1
  have hz1 : b0 + 2 ≤ w1.heap.size := by have := k1.size; omega
  replace k1 := k0.trans k1
  obtain ⟨c0, c1, c2, c3⟩ := B0.cells
  have hgl := block_lt_of_cell c0
  cases hV : validS s with
  | false =>
    have HE : Hid (solsL s = []) := hid (by rw [HS.out, hV]; rfl)
    clear hV
    go_wp2
    go_ret
    exact ⟨_, rfl, by rw [HE.out]; exact ⟨_, _, rfl, Nat.zero_le _, by omega, fun k hk => absurd hk (by simp)⟩, k1⟩
  | true =>
    have HE : Hid (solsL s = (allS s.box).filter (holdsS s)) := hid (by rw [HS.out, hV]; rfl)
    obtain ⟨v1, v2, -, -⟩ := validS_parts hV
    have hlb : s.box.length ≤ 128 := by
      have := v1
      unfold boxB at this
      simp only [Bool.and_eq_true, decide_eq_true_eq] at this
      exact this.2
    have HB := hid v1
    have HN := hid v2
    have hlen : ((allS s.box).length : Int) ≤ 65536 := by
      have := hsz hV
      rw [allS_length _ (wide_of v2), ← size_prod2 v1 v2 this]
      exact this
    replace hlen := hid hlen
    obtain ⟨t, ht⟩ := allS_head s.box (wide_of v2)
    have HT := hid ht
    clear hV v1 v2 ht hsz HS
    go_wp2_with fail
    refine (rLeast_any _ s.box _ (hb.keep (pl_stable _) k1) (by omega)).mono ?_
    rintro e w2 ⟨v2, rfl, own2, k2⟩
    replace B0 := B0.keep k2
    have o2 := o1.kp k2
    have hne2 : ∀ q, v2.ownBlock = some q → (Value.slice (some ⟨b0 + 1, 0, none⟩) 0 0).ownBlock ≠ some q := fun q hq e => by
      have h1 := own2.ge q hq
      have h2 : b0 + 1 = q := Option.some.inj e
      omega
    have own2' := own2.less (show b0 + 1 ≤ w1.heap.size by omega)
    have k12 := k1.trans k2
    have hz2 : b0 + 2 ≤ w2.heap.size := by have := k2.size; omega
    generalize s.box.map (·.lo) = M at *
    obtain ⟨A2, g2, rfl, _, _⟩ := own2'.form
    clear c0 c1 c2 c3 hgl own2 o0 o1 k2 k1 k0 hz1
    obtain ⟨c0, c1, c2, c3⟩ := B0.cells
    have hN : NL rdIL 43 1 (fun q => b0 + 1 ≤ q) w2 (.slice (some ⟨b0 + 1, 0, none⟩) 0 0) [] [] := ⟨o2.less (Nat.zero_le _), rfl, fun q hq => (by have h2 : b0 + 1 = q := Option.some.inj hq; omega), fun k h1 => absurd h1 (by simp)⟩
    have hgl := block_lt_of_cell c0
    go_wp2
    clear hgl
    go_loopg [3, 4, 5] ((allS s.box).length + 1) (fun gk vo vv mo wr => ∃ (AO : Option Addr) (gO : Nat) (css : List (Elm 1)) (pre : List (List Int)), vo = .slice AO (pre.filter (holdsS s)).length gO ∧ NL rdIL 43 1 (fun q => b0 + 1 ≤ q) wr (.slice AO (pre.filter (holdsS s)).length gO) css (pre.filter (holdsS s)) ∧ Kp w wr ∧ wr.heap[b0]? = w2.heap[b0]? ∧ b0 < wr.heap.size ∧
      ((mo = .bool true ∧ ∃ (L : List Int) (rest : List (List Int)) (AL : Option Addr) (cL : Nat), vv = .slice AL L.length cL ∧ Hid (allS s.box = pre ++ L :: rest) ∧ rest.length < gk ∧ Own encInt 3 1 (b0 + 1) wr (.slice AL L.length cL) L ∧ Hid (∀ q, (Value.slice AL L.length cL).ownBlock = some q → (Value.slice AO (pre.filter (holdsS s)).length gO).ownBlock ≠ some q)) ∨ (mo = .bool false ∧ pre = allS s.box)))
    case atStart => exact ⟨_, _, [], [], rfl, hN, k12, rfl, block_lt_of_cell c0, .inl ⟨rfl, M, t, A2, g2, rfl, HT, by rw [HT.out]; simp; omega, own2', hid hne2⟩⟩
    case round =>
      clear hN own2' hne2 o2
      obtain ⟨AO, gO, css, pre, rfl, hN, hkw, hbk, hbw, ⟨rfl, L, rest, AL, cL, rfl, HL, hgk, own, hne⟩ | ⟨rfl, hpre⟩⟩ := hrel
      · have hin : containsB s.box L = true := (inB_iff _ _).1 ((allS_mem s.box L).1 (by rw [HL.out]; simp))
        have HX := hid (next_all HB.out HN.out HL.out)
        have d0 := (World.cell?_of_block hbk).trans c0
        have d1 := (World.cell?_of_block hbk).trans c1
        have d2 := (World.cell?_of_block hbk).trans c2
        have d3 := (World.cell?_of_block hbk).trans c3
        have hpl : pre.length + 1 ≤ 65536 := by
          have := hlen.out
          rw [HL.out] at this
          simp at this
          omega
        have hfl : (pre.filter (holdsS s)).length ≤ pre.length := List.length_filter_le _ _
        have HP : Hid ((pre ++ [L]).filter (holdsS s) = pre.filter (holdsS s) ++ if holdsS s L then [L] else []) := hid (by
          rw [List.filter_append]
          cases h : holdsS s L <;> simp [h])
        have HAL2 : Hid (∀ r, rest = r → allS s.box = (pre ++ [L]) ++ r) := hid (fun r hr => by rw [HL.out, ← hr]; simp)
        replace hin := hid hin
        replace hfl := hid hfl
        have hcl := hid hN.len
        generalize hF : pre.filter (holdsS s) = F at *
        clear hF
        go_wp2_with fail
        refine (qHolds_any _ _ s L _ (hs.keep hkw) (own.sl encInt_len)).mono ?_
        rintro e w3 ⟨rfl, k3⟩
        have hN3 := hN.kp k3
        have own3 := own.kp k3
        have hkw3 := hkw.trans k3
        have hbk3 := (k3.block hbw).trans hbk
        have hz3 := k3.size
        have hbw3 : b0 < w3.heap.size := by omega
        clear hN own hkw hbk d0 d1 d2 d3 k3
        cases hq : holdsS s L with
        | true =>
          rw [hq] at HP
          have HP2 : Hid ((pre ++ [L]).filter (holdsS s) = F ++ [L]) := hid HP.out
          clear hq HP
          have kA := (Kp.refl w3).alloc (.cells #[.slice AL L.length cL] 43)
          have hNA := hN3.kp kA
          have ownA := own3.kp kA
          have hbkA := (kA.block hbw3).trans hbk3
          have hkwA := hkw3.trans kA
          obtain ⟨el, hel⟩ : ∃ el : Elm 1, el.val = [.slice AL L.length cL] := ⟨⟨[.slice AL L.length cL], rfl, by simp [Value.oneCell']⟩, rfl⟩
          have hsrc := Sl.one (R := Pl (encC (size := 1))) w3 [.slice AL L.length cL] 43 1 el rfl hel.symm
          replace hel := hid hel
          have hzA := kA.size
          have hoge := hid hNA.blk
          have hbwA : b0 < (w3.alloc (.cells #[.slice AL L.length cL] 43)).heap.size := by omega
          go_wp2_with (at_builtin; refine wpl_append_flat (l := css) (m := [el]) rfl (.tmp 18) (.tmp 20) rfl stIntsM encC_len encC_one rfl hNA.own rfl hsrc (by have := hcl.out; have := hfl.out; simp; omega) (by have := hcl.out; have := hfl.out; simp; omega) (by simp) ?_; intro v4 w4 hown4 hgrow4 hat4 hnil4; obtain ⟨A4, c4, hv4, hc4, hm4⟩ := hown4.form; subst hv4; have hN4 := hNA.push (z := b0 + 1) (l := L) hel.out ownA hown4 hgrow4 hat4 (fun _ h => h) (by omega) hne.out; have hfr : ∀ q, (Value.slice AO F.length gO).ownBlock = some q → b0 + 1 ≤ q := hoge.out; have hkw4 := hkwA.grown hgrow4 (fun q hq => by have := hfr q hq; have := hb0.out; omega); have hbk4 := (hgrow4.block b0 hbwA (fun e => by have := hfr b0 e.symm; omega)).trans hbkA; have hz4 := hgrow4.size; have hbw4 : b0 < w4.heap.size := (by omega); have hab : ∀ q, (Value.slice A4 (css ++ [el]).length c4).ownBlock = some q → q < w4.heap.size := hown4.blk_lt; have d0 := (World.cell?_of_block hbk4).trans c0; have d1 := (World.cell?_of_block hbk4).trans c1; have d2 := (World.cell?_of_block hbk4).trans c2; have d3 := (World.cell?_of_block hbk4).trans c3; have own4 := ownA.owS.step hgrow4.size (fun q hq hlt => hgrow4.block q hlt (fun e => hne.out q hq e.symm)); clear hNA ownA hkwA hbkA hsrc hN3 own3 hkw3 hbk3)
          refine (rNext_any _ _ s.box L _ (hb.keep (pl_stable _) hkw4) (own4.here.sl encInt_len)).mono ?_
          rw [HX.out]
          rintro e w5 ⟨v5, rfl, own5, k5⟩
          have hN5 := hN4.kp k5
          have hne5 := hid (fun q (hq : v5.ownBlock = some q) (e : (Value.slice A4 (css ++ [el]).length c4).ownBlock = some q) => show False from by
            have h1 := own5.ge q hq
            have h2 := hab q e
            omega)
          have own5' := own5.less (show b0 + 1 ≤ w4.heap.size by omega)
          have e8 : (css ++ [el]).length = (F ++ [L]).length := by simp [hcl.out]
          have e9 : css.length + 1 = (F ++ [L]).length := by simp [hcl.out]
          have hkw5 := hkw4.trans k5
          have hbk5 := (k5.block hbw4).trans hbk4
          have hbw5 := Nat.lt_of_lt_of_le hbw4 k5.size
          rw [e8] at hN5 hne5
          rw [e9]
          rw [← HP2.out] at hN5 hne5 ⊢
          clear d0 d1 d2 d3 hN4 own4 e8 e9 hab own5 hfr hown4
          obtain ⟨A5, c5, rfl, _, _⟩ := own5'.form
          cases rest with
          | nil =>
            dsimp only [List.head?_nil, Option.getD_none, List.length_nil] at *
            have HAE : Hid (pre ++ [L] = allS s.box) := hid (by have := HAL2.out [] rfl; simpa using this.symm)
            go_wp2
            go_roundg 0
            case measure => omega
            case rel => exact ⟨_, _, _, pre ++ [L], rfl, hN5, hkw5, hbk5, hbw5, .inr ⟨rfl, HAE.out⟩⟩
          | cons L2 rest =>
            dsimp only [List.head?_cons, Option.getD_some] at *
            have HAL3 : Hid (allS s.box = (pre ++ [L]) ++ L2 :: rest) := hid (HAL2.out _ rfl)
            go_wp2
            go_roundg (rest.length + 1)
            case measure => simp at hgk; omega
            case rel => exact ⟨_, _, _, pre ++ [L], rfl, hN5, hkw5, hbk5, hbw5, .inl ⟨rfl, L2, rest, A5, c5, rfl, HAL3, by omega, own5', hne5⟩⟩
        | false =>
          rw [hq] at HP
          have HP2 : Hid ((pre ++ [L]).filter (holdsS s) = F) := hid (by rw [HP.out]; simp)
          clear hq HP
          have d0 := (World.cell?_of_block hbk3).trans c0
          have d1 := (World.cell?_of_block hbk3).trans c1
          have d2 := (World.cell?_of_block hbk3).trans c2
          have d3 := (World.cell?_of_block hbk3).trans c3
          go_wp2_with fail
          refine (rNext_any _ _ s.box L _ (hb.keep (pl_stable _) hkw3) (own3.sl encInt_len)).mono ?_
          rw [HX.out]
          rintro e w5 ⟨v5, rfl, own5, k5⟩
          have hN5 := hN3.kp k5
          have hab := hN3.own.blk_lt
          have hne5 := hid (fun q (hq : v5.ownBlock = some q) (e : (Value.slice AO F.length gO).ownBlock = some q) => show False from by
            have h1 := own5.ge q hq
            have h2 := hab q e
            omega)
          have own5' := own5.less (show b0 + 1 ≤ w3.heap.size by omega)
          have hkw5 := hkw3.trans k5
          have hbk5 := (k5.block hbw3).trans hbk3
          have hbw5 := Nat.lt_of_lt_of_le hbw3 k5.size
          rw [← HP2.out] at hN5 hne5 ⊢
          clear d0 d1 d2 d3 hN3 own3 hab own5
          obtain ⟨A5, c5, rfl, _, _⟩ := own5'.form
          cases rest with
          | nil =>
            dsimp only [List.head?_nil, Option.getD_none, List.length_nil] at *
            have HAE : Hid (pre ++ [L] = allS s.box) := hid (by have := HAL2.out [] rfl; simpa using this.symm)
            go_wp2
            go_roundg 0
            case measure => omega
            case rel => exact ⟨_, _, _, pre ++ [L], rfl, hN5, hkw5, hbk5, hbw5, .inr ⟨rfl, HAE.out⟩⟩
          | cons L2 rest =>
            dsimp only [List.head?_cons, Option.getD_some] at *
            have HAL3 : Hid (allS s.box = (pre ++ [L]) ++ L2 :: rest) := hid (HAL2.out _ rfl)
            go_wp2
            go_roundg (rest.length + 1)
            case measure => simp at hgk; omega
            case rel => exact ⟨_, _, _, pre ++ [L], rfl, hN5, hkw5, hbk5, hbw5, .inl ⟨rfl, L2, rest, A5, c5, rfl, HAL3, by omega, own5', hne5⟩⟩
      · have HE2 : Hid (solsL s = pre.filter (holdsS s)) := hid (by rw [HE.out, hpre])
        have hSl := hN.sl
        go_wp2
        go_ret
        exact ⟨_, rfl, by rw [HE2.out]; exact hSl, hkw⟩
end Go.Proofs.Ytlbhidiliogflaa
