
/-
What a network is; a new one; what it tells: the walks.
-/
import Derived.Test.YtmokpnkpfodppaaNetB
namespace Go.Proofs.Ytmokpnkpfodppaa
set_option linter.unusedSimpArgs false
set_option linter.unusedVariables false
open Go.RowKit

structure Net where
  reps : Int
  tick : Int
  fates : List Fate
  cuts : List (Int × Int)
  fly : List Par
  copies : Int
  sent : Int
  delivered : Int
  lost : Int
/-- what holds of every network -/
structure OkN (N : Net) : Prop where
  nums : ∀ q ∈ N.fly, q.num < N.copies
  len : N.fly.length ≤ 1024
  fv : ∀ f ∈ N.fates, validF f = true
  flen : N.fates.length ≤ 256
  tick : 0 ≤ N.tick ∧ N.tick ≤ 1048576
  pos : 0 ≤ N.copies ∧ 0 ≤ N.sent ∧ 0 ≤ N.delivered ∧ 0 ≤ N.lost
/-- numbers that are far from any limit -/
def Few (N : Net) : Prop := N.copies ≤ 1000000 ∧ N.sent ≤ 1000000 ∧ N.delivered ≤ 1000000 ∧ N.lost ≤ 1000000
abbrev netCells (N : Net) (vf sv : Value) (mb : Nat) : List Value := [.int .i64 N.reps, .int .i64 N.tick, vf, .map (some mb), sv, .int .i64 N.copies, .int .i64 N.sent, .int .i64 N.delivered, .int .i64 N.lost]
/-- a network in memory -/
structure NetW (lo nb mb : Nat) (vf sv : Value) (w : World) (N : Net) : Prop where
  box : Bx w nb (netCells N vf sv mb)
  own : Own encFate 47 3 lo w vf N.fates
  ownb : ∀ k, vf.ownBlock = some k → k < nb ∧ k ≠ mb
  mp : ∃ es clock, w.heap[mb]? = some (.map es clock) ∧ MapOf es N.cuts
  mlo : lo ≤ mb
  mlt : mb < nb
  fl : ∃ Q, Own encPar 105 5 (nb + 1) w sv Q ∧ HeapOf Q N.fly
  ok : OkN N
section
variable {lo nb mb : Nat} {vf sv : Value} {w w' : World} {N : Net}
theorem NetW.lt (h : NetW lo nb mb vf sv w N) : nb < w.heap.size := h.box.lt (by simp)
theorem NetW.mblt (h : NetW lo nb mb vf sv w N) : mb < w.heap.size := Nat.lt_trans h.mlt h.lt
theorem NetW.kp (h : NetW lo nb mb vf sv w N) (k : Kp w w') : NetW lo nb mb vf sv w' N := by
  obtain ⟨es, clock, h1, h2⟩ := h.mp
  obtain ⟨Q, h3, h4⟩ := h.fl
  exact ⟨h.box.kp k h.lt, h.own.kp k, h.ownb, ⟨es, clock, (k.block h.mblt).trans h1, h2⟩, h.mlo, h.mlt, ⟨Q, h3.kp k, h4⟩, h.ok⟩
/-- nothing of its own has changed -/
theorem NetW.fr {S : Nat → Prop} (h : NetW lo nb mb vf sv w N) (k : Fr S w w') (h1 : ¬ S nb) (h2 : ¬ S mb) (h3 : ∀ g, vf.ownBlock = some g → ¬ S g) (h4 : ∀ g, sv.ownBlock = some g → ¬ S g) : NetW lo nb mb vf sv w' N := by
  obtain ⟨es, clock, h5, h6⟩ := h.mp
  obtain ⟨Q, h7, h8⟩ := h.fl
  refine ⟨h.box.keep (k.block nb h.lt h1), h.own.owS w' k.size fun i hi hlt => k.block i hlt (h3 i hi), h.ownb, ⟨es, clock, (k.block mb h.mblt h2).trans h5, h6⟩, h.mlo, h.mlt, ⟨Q, h7.owS w' k.size fun i hi hlt => k.block i hlt (h4 i hi), h8⟩, h.ok⟩
end
def badNew (r : Int) (fs : List Fate) : Bool := decide (r < 1) || decide (5 < r) || decide (256 < fs.length) || fs.any (fun f => !validF f)
def newN (r : Int) (fs : List Fate) : Net := ⟨r, 0, fs, [], [], 0, 0, 0, 0⟩
/-- what New returns -/
def NewR (r : Int) (fs : List Fate) (w : World) (e : Ending) (w' : World) : Prop :=
  (badNew r fs = true ∧ e = .returned (.tuple #[.pointer none, .int .i64 1]) ∨ badNew r fs = false ∧ ∃ nb mb vf, e = .returned (.tuple #[.pointer (some ⟨nb, 0, none⟩), .int .i64 0]) ∧ NetW w.heap.size nb mb vf (.slice none 0 0) w' (newN r fs)) ∧ Kp w w'
theorem okNew {r : Int} {fs : List Fate} (h : badNew r fs = false) : OkN (newN r fs) := by
  simp only [badNew, Bool.or_eq_false_iff, decide_eq_false_iff_not, List.any_eq_false] at h
  obtain ⟨⟨⟨-, -⟩, h3⟩, h4⟩ := h
  exact ⟨fun q hq => by simp [newN] at hq, by simp [newN], fun f hf => by simpa using h4 f hf, by simpa [newN] using h3, by simp [newN], by simp [newN]⟩
set_option maxRecDepth 8000 in
set_option maxHeartbeats 1600000 in
theorem nNew_any (r : Int) (v : Value) (fs : List Fate) (w : World) (hS : Fates w v fs) (hl : fs.length ≤ 1000000000) : Calls Try.prog 10 #[.int .i64 r, v] w (NewR r fs w) := by
  obtain ⟨A, c, rfl, hc, hm⟩ := hS.form
  have hmm := @run_makeMap Try.prog
  unfold NewR
  by_cases h1 : r < 1
  · have e1 : decide (r < 1) = true := decide_eq_true h1
    go_enter Try.func10, Try.ntmps10
    go_wp2
    go_ret2
    exact ⟨.inl ⟨by simp [badNew, *], rfl⟩, Kp.refl _⟩
  · have e1 : decide (r < 1) = false := decide_eq_false h1
    by_cases h2 : 5 < r
    · have e2 : decide (5 < r) = true := decide_eq_true h2
      go_enter Try.func10, Try.ntmps10
      go_wp2
      go_ret2
      exact ⟨.inl ⟨by simp [badNew, *], rfl⟩, Kp.refl _⟩
    · have e2 : decide (5 < r) = false := decide_eq_false h2
      by_cases h3 : 256 < fs.length
      · have e3 : decide (256 < (fs.length : Int)) = true := decide_eq_true (by omega)
        have e4 : decide (256 < fs.length) = true := decide_eq_true h3
        go_enter Try.func10, Try.ntmps10
        go_wp2
        go_ret2
        exact ⟨.inl ⟨by simp [badNew, *], rfl⟩, Kp.refl _⟩
      · have e3 : decide (256 < (fs.length : Int)) = false := decide_eq_false (by omega)
        have e4 : decide (256 < fs.length) = false := decide_eq_false h3
        go_enter Try.func10, Try.ntmps10
        go_wp2_with fail
        refine (ContainsFuncFate_any (fun f => !validF f) 34 [] _ fs _ hS nNew1_real (fun w' f k => (nNew1_any f w').mono fun e w2 h => h)).mono ?_
        rintro e w1 ⟨rfl, k1⟩
        have hb : badNew r fs = fs.any (fun f => !validF f) := by simp [badNew, e1, e2, e4]
        replace hb := hid hb
        generalize fs.any (fun f => !validF f) = ba at *
        cases ba with
        | true =>
          go_wp2
          go_ret2
          exact ⟨.inl ⟨hb.out, rfl⟩, k1⟩
        | false =>
          go_wp2_with fail
          refine (CloneFate_any _ fs _ (hS.keep (pl_stable _) k1) hl).mono ?_
          rintro e w2 ⟨v2, rfl, own2, k2⟩
          have hk12 := k1.trans k2
          have HB := hid hb.out
          obtain ⟨A2, c2, rfl, hc2, hm2⟩ := own2.form
          go_wp2_with fail
          go_ret2
          refine ⟨.inr ⟨HB.out, w2.heap.size + 1, w2.heap.size, .slice A2 fs.length c2, rfl, ?_⟩, ?_⟩
          rotate_left
          · exact (hk12.alloc _).alloc _
          have hb := Bx.new (w2.alloc (.map #[] 0)) #[.int .i64 r, .int .i64 0, .slice A2 fs.length c2, .map (some w2.heap.size), .slice none 0 0, .int .i64 0, .int .i64 0, .int .i64 0, .int .i64 0] 97
          rw [World.size_alloc] at hb
          have hz1 := k1.size
          have hz2 := k2.size
          refine ⟨hb, ((own2.less hz1).alloc _).alloc _, fun k hk => ?_, ⟨#[], 0, ?_, rfl⟩, by omega, Nat.lt_succ_self _, ⟨[], Own.nil _ _ _ _ _, heap_nil⟩, okNew HB.out⟩
          · have := own2.blk_lt k hk
            omega
          · rw [heap_alloc_old _ _ (by simp)]
            exact heap_alloc_new w2 _
theorem nInFlight_any (lo nb mb : Nat) (vf sv : Value) (w : World) (N : Net) (h : NetW lo nb mb vf sv w N) : Calls Try.prog 14 #[.pointer (some ⟨nb, 0, none⟩)] w fun e w' => e = .returned (.int .i64 N.fly.length) ∧ w' = w := by
  obtain ⟨Q, own, hp⟩ := h.fl
  have HL := hid hp.perm.length_eq
  obtain ⟨A, c, rfl, hc, hm⟩ := own.form
  have c0 := (h).box.cell (j := 0) rfl
  have c1 := (h).box.cell (j := 1) rfl
  have c2 := (h).box.cell (j := 2) rfl
  have c3 := (h).box.cell (j := 3) rfl
  have c4 := (h).box.cell (j := 4) rfl
  have c5 := (h).box.cell (j := 5) rfl
  have c6 := (h).box.cell (j := 6) rfl
  have c7 := (h).box.cell (j := 7) rfl
  have c8 := (h).box.cell (j := 8) rfl
  have hnb := h.lt
  clear h own hp
  go_enter Try.func14, Try.ntmps14
  go_wp2
  go_ret
  exact ⟨by rw [← HL.out]; rfl, rfl⟩
def nextR (N : Net) : Int × Bool := match N.fly with | [] => (0, false) | p :: _ => (p.due, true)
theorem HeapOf.nil_of {Q : List Par} (h : HeapOf Q []) : Q = [] := List.eq_nil_of_length_eq_zero (by rw [h.perm.length_eq]; rfl)
set_option maxHeartbeats 800000 in
theorem nNext_any (lo nb mb : Nat) (vf sv : Value) (w : World) (N : Net) (h : NetW lo nb mb vf sv w N) : Calls Try.prog 18 #[.pointer (some ⟨nb, 0, none⟩)] w fun e w' => e = .returned (.tuple #[.int .i64 (nextR N).1, .bool (nextR N).2]) ∧ w' = w := by
  obtain ⟨Q, own, hp⟩ := h.fl
  have c0 := (h).box.cell (j := 0) rfl
  have c1 := (h).box.cell (j := 1) rfl
  have c2 := (h).box.cell (j := 2) rfl
  have c3 := (h).box.cell (j := 3) rfl
  have c4 := (h).box.cell (j := 4) rfl
  have c5 := (h).box.cell (j := 5) rfl
  have c6 := (h).box.cell (j := 6) rfl
  have c7 := (h).box.cell (j := 7) rfl
  have c8 := (h).box.cell (j := 8) rfl
  have hnb := h.lt
  have hlen := h.ok.len
  clear h
  unfold nextR
  generalize N.fly = S at *
  cases S with
  | nil =>
    obtain rfl := hp.nil_of
    obtain ⟨A, c, rfl, hc, hm⟩ := own.form
    clear own hp
    go_enter Try.func18, Try.ntmps18
    go_wp2
    go_ret2
    exact ⟨rfl, rfl⟩
  | cons p S =>
    have HF := hid (heap_first hp)
    have HL : Hid (Q.length = S.length + 1) := hid hp.perm.length_eq
    have hpos : 0 < Q.length := by rw [HL.out]; omega
    obtain ⟨g, c, rfl, hc, hm, hg, hgl⟩ := own.row hpos
    obtain ⟨b, o, he, hb, i0, -⟩ := (own.sl encPar_len).par hpos
    injection he with he
    injection he with e1 e2
    subst e1 e2
    have hd : Q[0].due = p.due := by rw [← HF.out]; simp [gt, List.getD, hpos]
    rw [hd] at i0
    have hne : ((Q.length : Int) == 0) = false := beq_false_of_ne (by omega)
    have hne2 : (Q.length == 0) = false := beq_false_of_ne (by omega)
    clear own hp hd HF HL hlen
    generalize Q.length = n at *
    go_enter Try.func18, Try.ntmps18
    go_wp2
    go_ret2
    exact ⟨rfl, rfl⟩
def fateOf (N : Net) : Fate := if N.fates.length = 0 then ⟨false, 1, 0⟩ else N.fates.getD (N.sent.toNat % N.fates.length) default
theorem rem_nat {x : Int} (n : Nat) (h : 0 ≤ x) : x.tmod (n : Int) = ((x.toNat % n : Nat) : Int) := by
  rw [Int.tmod_eq_emod_of_nonneg h]
  have : x = (x.toNat : Int) := by omega
  rw [this]
  simp
set_option maxRecDepth 8000 in
set_option maxHeartbeats 1600000 in
theorem nFate_any (lo nb mb : Nat) (vf sv : Value) (w : World) (N : Net) (h : NetW lo nb mb vf sv w N) : Calls Try.prog 40 #[.pointer (some ⟨nb, 0, none⟩)] w fun e w' => e = .returned (.agg #[.bool (fateOf N).drop, .int .i64 (fateOf N).delay, .int .i64 (fateOf N).again]) ∧ Kp w w' := by
  have own := h.own
  have c0 := (h).box.cell (j := 0) rfl
  have c1 := (h).box.cell (j := 1) rfl
  have c2 := (h).box.cell (j := 2) rfl
  have c3 := (h).box.cell (j := 3) rfl
  have c4 := (h).box.cell (j := 4) rfl
  have c5 := (h).box.cell (j := 5) rfl
  have c6 := (h).box.cell (j := 6) rfl
  have c7 := (h).box.cell (j := 7) rfl
  have c8 := (h).box.cell (j := 8) rfl
  have hnb := h.lt
  have hfl := h.ok.flen
  have hsp := h.ok.pos.2.1
  have hB := Bx.new w #[.bool false, .int .i64 0, .int .i64 0] 47
  have k0 := (Kp.refl w).alloc (.cells #[.bool false, .int .i64 0, .int .i64 0] 47)
  clear h
  by_cases hz : N.fates.length = 0
  · have HF : Hid (fateOf N = ⟨false, 1, 0⟩) := hid (by rw [fateOf, if_pos hz])
    rw [HF.out]
    obtain ⟨A, c, rfl, hc, hm⟩ := own.form
    rw [hz] at c2
    rw [hz] at own
    have hE := Bx.new w #[.bool false, .int .i64 1, .int .i64 0] 47
    clear own hz HF
    go_enter Try.func40, Try.ntmps40
    go_wp2
    refine bodyPost_ret (results_cell_bx rfl _ _ w.heap.size [.bool false, .int .i64 1, .int .i64 0] _ rfl hE.range Try.underlying47 rfl (by kernel_rfl)) rfl ?_
    exact ⟨rfl, (Kp.refl w).alloc _⟩
  · have HF : Hid (fateOf N = N.fates.getD (N.sent.toNat % N.fates.length) default) := hid (by rw [fateOf, if_neg hz])
    have hk : N.sent.toNat % N.fates.length < N.fates.length := Nat.mod_lt _ (by omega)
    have hr := rem_nat N.fates.length hsp
    generalize hkk : N.sent.toNat % N.fates.length = k at *
    clear hkk
    have HG : Hid (N.fates.getD k default = N.fates[k]) := hid (by simp [List.getD, hk])
    have HF2 := hid (HF.out.trans HG.out)
    rw [HF2.out]
    obtain ⟨A, c, rfl, hc, hm⟩ := own.form
    obtain ⟨b, o, rfl, hb, i0, i1, i2⟩ := (own.sl encFate_len).fate hk
    have hne : ((N.fates.length : Int) == 0) = false := beq_false_of_ne (by omega)
    have hne2 : (N.fates.length == 0) = false := beq_false_of_ne hz
    have hkl : (k : Int) < (N.fates.length : Int) := by omega
    have hlp : ¬ (N.fates.length : Int) = 0 := by omega
    clear own HF HF2 HG
    generalize N.fates[k] = f at *
    generalize N.fates.length = n at *
    generalize N.sent = se at *
    obtain ⟨d, y, r⟩ := f
    dsimp only at i0 i1 i2 ⊢
    have hwb := alloc_lt w (.cells #[.bool false, .int .i64 0, .int .i64 0] 47)
    have hbf := hB.free (j := 0) (by simp)
    go_enter Try.func40, Try.ntmps40
    go_wp2_with fail
    generalize hw0 : w.alloc (.cells #[.bool false, .int .i64 0, .int .i64 0] 47) = w0 at *
    generalize hb0 : w.heap.size = b0 at *
    replace i0 := k0.cellS i0
    replace i1 := k0.cellS i1
    replace i2 := k0.cellS i2
    replace c2 := k0.cellS c2
    replace c6 := k0.cellS c6
    refine G2.wp_region_growG Kp [] 16 26 (G2.pvL [G2.eqv (.pointer (some ⟨nb, 0, none⟩)), G2.eqv (.pointer (some ⟨nb, 0, none⟩)), G2.eqv (.pointer (some ⟨nb, 2, none⟩)), G2.eqv (.slice (some ⟨b, o, none⟩) n c), G2.eqv (.pointer (some ⟨nb, 0, none⟩)), G2.eqv (.pointer (some ⟨nb, 0, none⟩)), G2.eqv (.pointer (some ⟨nb, 6, none⟩)), G2.eqv (.int .i64 se), G2.eqv (.pointer (some ⟨nb, 0, none⟩)), G2.eqv (.pointer (some ⟨nb, 0, none⟩)), G2.eqv (.pointer (some ⟨nb, 2, none⟩)), G2.eqv (.slice (some ⟨b, o, none⟩) n c), G2.eqv (.int .i64 n), G2.eqv (.int .i64 k), G2.eqv (.pointer (some ⟨b, o + k * 3, none⟩)), G2.eqv (.agg #[.bool d, .int .i64 y, .int .i64 r])]) (by kernel_rfl) (by kernel_rfl) rfl (fun x => Kp.refl x) (fun _ _ _ h k => h.trans k) (Kp.refl _).drew (fun _ _ _ _ _ h => h) (G2.pvL_keep (G2.stabL_cons (G2.stab_eq _) (G2.stabL_cons (G2.stab_eq _) (G2.stabL_cons (G2.stab_eq _) (G2.stabL_cons (G2.stab_eq _) (G2.stabL_cons (G2.stab_eq _) (G2.stabL_cons (G2.stab_eq _) (G2.stabL_cons (G2.stab_eq _) (G2.stabL_cons (G2.stab_eq _) (G2.stabL_cons (G2.stab_eq _) (G2.stabL_cons (G2.stab_eq _) (G2.stabL_cons (G2.stab_eq _) (G2.stabL_cons (G2.stab_eq _) (G2.stabL_cons (G2.stab_eq _) (G2.stabL_cons (G2.stab_eq _) (G2.stabL_cons (G2.stab_eq _) (G2.stabL_cons (G2.stab_eq _) (G2.stabL_nil)))))))))))))))))) ?_ ?_ ?_
    · intro i0 hi0
      have hi' : i0 = 0 ∨ i0 = 1 ∨ i0 = 2 ∨ i0 = 3 ∨ i0 = 4 ∨ i0 = 5 ∨ i0 = 6 ∨ i0 = 7 ∨ i0 = 8 ∨ i0 = 9 ∨ i0 = 10 ∨ i0 = 11 ∨ i0 = 12 ∨ i0 = 13 ∨ i0 = 14 ∨ i0 = 15 := by omega
      rcases hi' with rfl | rfl | rfl | rfl | rfl | rfl | rfl | rfl | rfl | rfl | rfl | rfl | rfl | rfl | rfl | rfl
      · intro a w' hk hF hD K hK
        simp only [List.getElem?_toArray, List.getElem?_cons_zero, List.getElem?_cons_succ, Option.map_some, Option.getD_some]
        have h0 : a.tmps[0]?.getD undef = .pointer (some ⟨nb, 0, none⟩) := hF 0 (by kernel_rfl)
        clear hF hD
        go_simp
        exact hK.out _ _ (Kp.refl _) rfl
      · intro a w' hk hF hD K hK
        simp only [List.getElem?_toArray, List.getElem?_cons_zero, List.getElem?_cons_succ, Option.map_some, Option.getD_some]
        have h10 : a.tmps[10]?.getD undef = .pointer (some ⟨nb, 0, none⟩) := hD 0 (by kernel_rfl)
        clear hF hD
        go_simp
        exact hK.out _ _ (Kp.refl _) rfl
      · intro a w' hk hF hD K hK
        simp only [List.getElem?_toArray, List.getElem?_cons_zero, List.getElem?_cons_succ, Option.map_some, Option.getD_some]
        have h11 : a.tmps[11]?.getD undef = .pointer (some ⟨nb, 0, none⟩) := hD 1 (by kernel_rfl)
        clear hF hD
        go_simp
        exact hK.out _ _ (Kp.refl _) rfl
      · intro a w' hk hF hD K hK
        simp only [List.getElem?_toArray, List.getElem?_cons_zero, List.getElem?_cons_succ, Option.map_some, Option.getD_some]
        have h12 : a.tmps[12]?.getD undef = .pointer (some ⟨nb, 2, none⟩) := hD 2 (by kernel_rfl)
        clear hF hD
        have z1 := hk.cellS c2
        go_simp
        exact hK.out _ _ (Kp.refl _) rfl
      · intro a w' hk hF hD K hK
        simp only [List.getElem?_toArray, List.getElem?_cons_zero, List.getElem?_cons_succ, Option.map_some, Option.getD_some]
        have h0 : a.tmps[0]?.getD undef = .pointer (some ⟨nb, 0, none⟩) := hF 0 (by kernel_rfl)
        clear hF hD
        go_simp
        exact hK.out _ _ (Kp.refl _) rfl
      · intro a w' hk hF hD K hK
        simp only [List.getElem?_toArray, List.getElem?_cons_zero, List.getElem?_cons_succ, Option.map_some, Option.getD_some]
        have h14 : a.tmps[14]?.getD undef = .pointer (some ⟨nb, 0, none⟩) := hD 4 (by kernel_rfl)
        clear hF hD
        go_simp
        exact hK.out _ _ (Kp.refl _) rfl
      · intro a w' hk hF hD K hK
        simp only [List.getElem?_toArray, List.getElem?_cons_zero, List.getElem?_cons_succ, Option.map_some, Option.getD_some]
        have h15 : a.tmps[15]?.getD undef = .pointer (some ⟨nb, 0, none⟩) := hD 5 (by kernel_rfl)
        clear hF hD
        go_simp
        exact hK.out _ _ (Kp.refl _) rfl
      · intro a w' hk hF hD K hK
        simp only [List.getElem?_toArray, List.getElem?_cons_zero, List.getElem?_cons_succ, Option.map_some, Option.getD_some]
        have h16 : a.tmps[16]?.getD undef = .pointer (some ⟨nb, 6, none⟩) := hD 6 (by kernel_rfl)
        clear hF hD
        have z1 := hk.cellS c6
        go_simp
        exact hK.out _ _ (Kp.refl _) rfl
      · intro a w' hk hF hD K hK
        simp only [List.getElem?_toArray, List.getElem?_cons_zero, List.getElem?_cons_succ, Option.map_some, Option.getD_some]
        have h0 : a.tmps[0]?.getD undef = .pointer (some ⟨nb, 0, none⟩) := hF 0 (by kernel_rfl)
        clear hF hD
        go_simp
        exact hK.out _ _ (Kp.refl _) rfl
      · intro a w' hk hF hD K hK
        simp only [List.getElem?_toArray, List.getElem?_cons_zero, List.getElem?_cons_succ, Option.map_some, Option.getD_some]
        have h18 : a.tmps[18]?.getD undef = .pointer (some ⟨nb, 0, none⟩) := hD 8 (by kernel_rfl)
        clear hF hD
        go_simp
        exact hK.out _ _ (Kp.refl _) rfl
      · intro a w' hk hF hD K hK
        simp only [List.getElem?_toArray, List.getElem?_cons_zero, List.getElem?_cons_succ, Option.map_some, Option.getD_some]
        have h19 : a.tmps[19]?.getD undef = .pointer (some ⟨nb, 0, none⟩) := hD 9 (by kernel_rfl)
        clear hF hD
        go_simp
        exact hK.out _ _ (Kp.refl _) rfl
      · intro a w' hk hF hD K hK
        simp only [List.getElem?_toArray, List.getElem?_cons_zero, List.getElem?_cons_succ, Option.map_some, Option.getD_some]
        have h20 : a.tmps[20]?.getD undef = .pointer (some ⟨nb, 2, none⟩) := hD 10 (by kernel_rfl)
        clear hF hD
        have z1 := hk.cellS c2
        go_simp
        exact hK.out _ _ (Kp.refl _) rfl
      · intro a w' hk hF hD K hK
        simp only [List.getElem?_toArray, List.getElem?_cons_zero, List.getElem?_cons_succ, Option.map_some, Option.getD_some]
        have h21 : a.tmps[21]?.getD undef = .slice (some ⟨b, o, none⟩) n c := hD 11 (by kernel_rfl)
        clear hF hD
        go_simp
        exact hK.out _ _ (Kp.refl _) rfl
      · intro a w' hk hF hD K hK
        simp only [List.getElem?_toArray, List.getElem?_cons_zero, List.getElem?_cons_succ, Option.map_some, Option.getD_some]
        have h17 : a.tmps[17]?.getD undef = .int .i64 se := hD 7 (by kernel_rfl)
        have h22 : a.tmps[22]?.getD undef = .int .i64 n := hD 12 (by kernel_rfl)
        clear hF hD
        go_simp
        exact hK.out _ _ (Kp.refl _) rfl
      · intro a w' hk hF hD K hK
        simp only [List.getElem?_toArray, List.getElem?_cons_zero, List.getElem?_cons_succ, Option.map_some, Option.getD_some]
        have h13 : a.tmps[13]?.getD undef = .slice (some ⟨b, o, none⟩) n c := hD 3 (by kernel_rfl)
        have h23 : a.tmps[23]?.getD undef = .int .i64 k := hD 13 (by kernel_rfl)
        clear hF hD
        go_simp
        exact hK.out _ _ (Kp.refl _) rfl
      · intro a w' hk hF hD K hK
        simp only [List.getElem?_toArray, List.getElem?_cons_zero, List.getElem?_cons_succ, Option.map_some, Option.getD_some]
        have h24 : a.tmps[24]?.getD undef = .pointer (some ⟨b, o + k * 3, none⟩) := hD 14 (by kernel_rfl)
        clear hF hD
        have z0 := hk.cellS i0
        have z1 := hk.cellS i1
        have z2 := hk.cellS i2
        go_simp
        exact hK.out _ _ (Kp.refl _) rfl
    · exact fun i0 hi0 => by simp at hi0
    intro v w9 k9 hv
    have v15 : v 15 = .agg #[.bool d, .int .i64 y, .int .i64 r] := hv 15 (by omega)
    clear hv
    simp only [G2.growPut, G2.gSlot, List.getElem?_toArray, List.getElem?_cons_zero, List.getElem?_cons_succ, Option.bind_some, List.setIfInBounds_toArray, List.set_cons_zero, List.set_cons_succ, List.drop_succ_cons, List.drop_zero, v15]
    have hB9 := hB.kp k9 hwb
    have hS := ((hB9.set (j := 0) (by simp) (.bool d)).set (j := 1) (by simp) (.int .i64 y)).set (j := 2) (by simp) (.int .i64 r)
    have d0 := hB9.cell (j := 0) rfl
    have d1 := hB9.cell (j := 1) rfl
    have d2 := hB9.cell (j := 2) rfl
    have f0 := hB9.free (j := 0) (by simp)
    have f1 := hB9.free (j := 1) (by simp)
    have f2 := hB9.free (j := 2) (by simp)
    go_wp2
    refine bodyPost_ret (results_cell_bx rfl _ _ b0 [.bool d, .int .i64 y, .int .i64 r] _ rfl hS.range Try.underlying47 rfl (by kernel_rfl)) rfl ?_
    have k1 := k0.trans k9
    exact ⟨rfl, ((k1.set (p := ⟨b0, 0, none⟩) (by show w.heap.size ≤ b0; omega) _).set (p := ⟨b0, 1, none⟩) (by show w.heap.size ≤ b0; omega) _).set (p := ⟨b0, 2, none⟩) (by show w.heap.size ≤ b0; omega) _⟩
end Go.Proofs.Ytmokpnkpfodppaa
