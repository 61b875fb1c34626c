
/-
A network agrees with the reference over all calls: the walk.
-/
import Derived.Test.YtmokpnkpfodppaaOpH
import Derived.Deep.Cut
namespace Go.Proofs.Ytmokpnkpfodppaa.G2
set_option linter.unusedSimpArgs false
set_option linter.unusedVariables false
open Go.RowKit
/-! Regions that draw their order, a long list of operations (as the text GrowT) -/
def StepO (G : World → World → Prop) (P : Program) (ops : Array Oper) (Q : Exit → Act → World → Prop) (n : Nat) (a0 : Act) (w0 : World) (PV : Nat → Value → World → Prop) (i : Nat) (o : Oper) : Prop :=
  ∀ (a : Act) (w : World), G w0 w → (∀ t, growFree ops n t = true → a.tmps[t]?.getD undef = a0.tmps[t]?.getD undef) → (∀ j, Region.waitsFor .any ops i j = true → PV j (gVal ops a j) w) →
    ∀ K : Act → World → Prop, Hid (∀ v w', G w w' → PV i (gOut ops i v) w' → K (a.put (gSlot ops i) v) w') → if Region.wanted o (yielded ops a.tmps) = true then Oper.wp P o a w K Q else K (a.put o.dst undef) w
def StepsT (Pr : Nat → Oper → Prop) : List Oper → Nat → Nat → Prop
  | _, 0, _ => True
  | [], _ + 1, _ => False
  | o :: r, k + 1, i => Pr i o ∧ StepsT Pr r k (i + 1)
theorem stepsT_nil (Pr : Nat → Oper → Prop) (l : List Oper) (i : Nat) : StepsT Pr l 0 i := by cases l <;> exact trivial
theorem stepsT_cons {Pr : Nat → Oper → Prop} {o : Oper} {r : List Oper} {k : Nat} (i : Nat) (h : Pr i o) (hr : StepsT Pr r k (i + 1)) : StepsT Pr (o :: r) (k + 1) i := ⟨h, hr⟩
theorem stepsT_get {Pr : Nat → Oper → Prop} : ∀ (l : List Oper) (k i : Nat), StepsT Pr l k i → ∀ j, j < k → ∃ o, l[j]? = some o ∧ Pr (i + j) o
  | _, 0, _, _, j, hj => by omega
  | [], _ + 1, _, h, _, _ => h.elim
  | o :: r, k + 1, i, h, 0, _ => ⟨o, rfl, h.1⟩
  | o :: r, k + 1, i, h, j + 1, hj => by
    obtain ⟨o', h1, h2⟩ := stepsT_get r k (i + 1) h.2 j (by omega)
    exact ⟨o', by simpa using h1, by rw [show i + (j + 1) = i + 1 + j by omega]; exact h2⟩
theorem wp_region_growT {P : Program} {Q : Exit → Act → World → Prop} (G : World → World → Prop) {id : Nat} {a : Act} {w : World} {l : List Oper} (fl : List Nat) (n N : Nat) (PV : Nat → Value → World → Prop) (hm : P.follows .mixedOrders = true) (hB : growB l.toArray fl n N = true) (hN : a.tmps.size = N)
    (hrf : ∀ x, G x x) (htr : ∀ x y z, G x y → G y z → G x z) (hdr : G w w.drew)
    (hQ : ∀ d c a v w, Q (.panic c) (Act.put a (some d) v) w → Q (.panic c) a w) (hst : ∀ j v w1 w2, PV j v w1 → G w1 w2 → PV j v w2) (hstep : StepsT (StepO G P l.toArray Q n a w PV) l n 0)
    (hfl : ∀ i, i ∈ fl → i < n ∧ ∀ (a' : Act) (w' : World), G w w' → (∀ t, growFree l.toArray n t = true → a'.tmps[t]?.getD undef = a.tmps[t]?.getD undef) → (∀ j, Region.waitsFor .any l.toArray i j = true → PV j (gVal l.toArray a' j) w') → ((l.toArray[i]?).map fun o => ∃ v, PV i (gOut l.toArray i v) w' ∧ Yields P l.toArray o v a').getD False)
    (htail : ∀ (v : Nat → Value) w', G w w' → (∀ j, j < n → PV j (gOut l.toArray j (v j)) w') → wpList P l.toArray Q (l.drop n) { a with tmps := growPut l.toArray v a.tmps n } w') : (Code.region id l.toArray true).wp P Q a w :=
  wp_region_growG G fl n N PV hm hB hN hrf htr hdr hQ hst (fun i hi => by
    obtain ⟨o, h1, h2⟩ := stepsT_get l n 0 hstep i hi
    rw [Nat.zero_add] at h2
    intro a' w' h3 h4 h5 K hK
    have h6 := h2 a' w' h3 h4 h5 K hK
    have e : l.toArray[i]? = some o := by simpa using h1
    rw [e]
    exact h6) hfl htail
end Go.Proofs.Ytmokpnkpfodppaa.G2
namespace Go.Proofs.Ytmokpnkpfodppaa
open Go.RowKit

theorem cmd_boxO (w : World) (cs : List Value) (h : cs.length = 22) :
    (w.alloc (.cells #[.int .i64 0, .int .i64 0, .int .i64 0, .int .i64 0, .int .i64 0, .int .i64 0, .int .i64 0, .slice none 0 0, .slice none 0 0, .slice none 0 0, .int .i64 0, .int .i64 0, .int .i64 0, .int .i64 0, .int .i64 0, .slice none 0 0, .int .i64 0, .int .i64 0, .int .i64 0, .int .i64 0, .bool false, .slice none 0 0] 59)).there w.heap.size 0 cs.length ∧ Bx ((w.alloc (.cells #[.int .i64 0, .int .i64 0, .int .i64 0, .int .i64 0, .int .i64 0, .int .i64 0, .int .i64 0, .slice none 0 0, .slice none 0 0, .slice none 0 0, .int .i64 0, .int .i64 0, .int .i64 0, .int .i64 0, .int .i64 0, .slice none 0 0, .int .i64 0, .int .i64 0, .int .i64 0, .int .i64 0, .bool false, .slice none 0 0] 59)).setCells w.heap.size 0 cs) w.heap.size cs ∧ Kp w ((w.alloc (.cells #[.int .i64 0, .int .i64 0, .int .i64 0, .int .i64 0, .int .i64 0, .int .i64 0, .int .i64 0, .slice none 0 0, .slice none 0 0, .slice none 0 0, .int .i64 0, .int .i64 0, .int .i64 0, .int .i64 0, .int .i64 0, .slice none 0 0, .int .i64 0, .int .i64 0, .int .i64 0, .int .i64 0, .bool false, .slice none 0 0] 59)).setCells w.heap.size 0 cs) ∧ w.heap.size < ((w.alloc (.cells #[.int .i64 0, .int .i64 0, .int .i64 0, .int .i64 0, .int .i64 0, .int .i64 0, .int .i64 0, .slice none 0 0, .slice none 0 0, .slice none 0 0, .int .i64 0, .int .i64 0, .int .i64 0, .int .i64 0, .int .i64 0, .slice none 0 0, .int .i64 0, .int .i64 0, .int .i64 0, .int .i64 0, .bool false, .slice none 0 0] 59)).setCells w.heap.size 0 cs).heap.size :=
  ⟨there_new w #[.int .i64 0, .int .i64 0, .int .i64 0, .int .i64 0, .int .i64 0, .int .i64 0, .int .i64 0, .slice none 0 0, .slice none 0 0, .slice none 0 0, .int .i64 0, .int .i64 0, .int .i64 0, .int .i64 0, .int .i64 0, .slice none 0 0, .int .i64 0, .int .i64 0, .int .i64 0, .int .i64 0, .bool false, .slice none 0 0] 59 cs.length (by rw [h]; rfl), (Bx.new w #[.int .i64 0, .int .i64 0, .int .i64 0, .int .i64 0, .int .i64 0, .int .i64 0, .int .i64 0, .slice none 0 0, .slice none 0 0, .slice none 0 0, .int .i64 0, .int .i64 0, .int .i64 0, .int .i64 0, .int .i64 0, .slice none 0 0, .int .i64 0, .int .i64 0, .int .i64 0, .int .i64 0, .bool false, .slice none 0 0] 59).all (cs := cs) (by rw [h]; rfl), Kp.setCells (Nat.le_refl _) cs 0 _ ((Kp.refl w).alloc _), by rw [setCells_size]; exact alloc_lt w _⟩
theorem st_box (w : World) (cs : List Value) (h : cs.length = 9) :
    (w.alloc (.cells [.int .i64 0, .int .i64 0, .slice none 0 0, .slice none 0 0, .slice none 0 0, .int .i64 0, .int .i64 0, .int .i64 0, .int .i64 0].toArray 66)).there w.heap.size 0 cs.length ∧ Bx ((w.alloc (.cells [.int .i64 0, .int .i64 0, .slice none 0 0, .slice none 0 0, .slice none 0 0, .int .i64 0, .int .i64 0, .int .i64 0, .int .i64 0].toArray 66)).setCells w.heap.size 0 cs) w.heap.size cs ∧ Kp w ((w.alloc (.cells [.int .i64 0, .int .i64 0, .slice none 0 0, .slice none 0 0, .slice none 0 0, .int .i64 0, .int .i64 0, .int .i64 0, .int .i64 0].toArray 66)).setCells w.heap.size 0 cs) ∧ w.heap.size < ((w.alloc (.cells [.int .i64 0, .int .i64 0, .slice none 0 0, .slice none 0 0, .slice none 0 0, .int .i64 0, .int .i64 0, .int .i64 0, .int .i64 0].toArray 66)).setCells w.heap.size 0 cs).heap.size ∧ (Try.prog.info? 66).map (·.size) = some cs.length :=
  ⟨there_new w [.int .i64 0, .int .i64 0, .slice none 0 0, .slice none 0 0, .slice none 0 0, .int .i64 0, .int .i64 0, .int .i64 0, .int .i64 0].toArray 66 cs.length (by rw [h]; rfl), (Bx.new w [.int .i64 0, .int .i64 0, .slice none 0 0, .slice none 0 0, .slice none 0 0, .int .i64 0, .int .i64 0, .int .i64 0, .int .i64 0].toArray 66).all (cs := cs) (by rw [h]; rfl), Kp.setCells (Nat.le_refl _) cs 0 _ ((Kp.refl w).alloc _), by rw [setCells_size]; exact alloc_lt w _, by rw [h]; kernel_rfl⟩
theorem nLinkedW {lo nb mb : Nat} {vf sv : Value} {w : World} {N : Net} (h : NetW lo nb mb vf sv w N) (a b : Int) : Calls Try.prog 26 #[.pointer (some ⟨nb, 0, none⟩), .int .i64 a, .int .i64 b] w fun e w' => e = .returned (.bool (linkedB N.reps N.cuts a b)) ∧ Kp w w' := by
  obtain ⟨es, clock, hmp, hmo⟩ := h.mp
  exact nLinked_any nb mb clock N.reps a b es N.cuts w (h.box.cell (j := 0) rfl) (h.box.cell (j := 3) rfl) hmp hmo
theorem sameM_refl (xs : List Message) : sameM xs xs = true := by simp [sameM]
theorem StX.form {wE w : World} {T : Nat → Prop} {v : Value} {s : RSt} (h : StX wE T w v s) (k : Kp wE w) : ∃ Af cf Al cl Ac cc, v = .agg [.int .i64 s.reps, .int .i64 s.tick, .slice Af s.fates.length cf, .slice Al s.flight.length cl, .slice Ac s.cuts.length cc, .int .i64 s.sent, .int .i64 s.delivered, .int .i64 s.lost, .int .i64 s.made].toArray := by
  obtain ⟨vf, vl, vc, rfl, hF, hL, hC⟩ := h.stv k
  obtain ⟨Af, cf, rfl, -, -⟩ := hF.form
  obtain ⟨Al, cl, rfl, -, -⟩ := hL.form
  obtain ⟨Ac, cc, rfl, -, -⟩ := hC.form
  exact ⟨Af, cf, Al, cl, Ac, cc, rfl⟩
theorem StX.form2 {wE w : World} {T : Nat → Prop} {v : Value} {s : RSt} (h : StX wE T w v s) (k : Kp wE w) : ∃ c9 : List Value, v = .agg c9.toArray ∧ c9.length = 9 ∧ (∀ u ∈ c9, u.oneCell' = true) ∧ Hid (∃ Af cf Al cl Ac cc, c9 = [.int .i64 s.reps, .int .i64 s.tick, .slice Af s.fates.length cf, .slice Al s.flight.length cl, .slice Ac s.cuts.length cc, .int .i64 s.sent, .int .i64 s.delivered, .int .i64 s.lost, .int .i64 s.made]) := by
  obtain ⟨Af, cf, Al, cl, Ac, cc, rfl⟩ := h.form k
  refine ⟨_, rfl, rfl, fun u hu => ?_, hid ⟨Af, cf, Al, cl, Ac, cc, rfl⟩⟩
  simp only [List.mem_cons, List.not_mem_nil, or_false] at hu
  rcases hu with rfl | rfl | rfl | rfl | rfl | rfl | rfl | rfl | rfl <;> rfl
set_option maxRecDepth 100000 in
set_option maxHeartbeats 16000000 in
theorem ops_walk (r : Int) (vf0 vl : Value) (fs : List Fate) (l : List Cmd) (w : World) (hfs : Fates w vf0 fs) (hl : Cmds w vl l) (hb : ∀ x ∈ l, (numMessage x.m).length ≤ 1000000000) (hfl : fs.length ≤ 1000000000) :
    Calls Try.prog 7 #[.int .i64 r, vf0, vl] w fun e w' => e = .returned (.bool true) ∧ Kp w w' := by
  obtain ⟨Af0, cf0, rfl, hcf, hmf⟩ := hfs.form
  obtain ⟨A, ca, rfl, hca, hma⟩ := hl.form
  have HB := hid hb
  have HL := hid hl
  have HMS := hid (fun k (hk : k < l.length) => hl.cmd hk)
  have HFS := hid hfs
  clear hb hl hfs
  go_enter Try.func7, Try.ntmps7
  go_wp2_with fail
  refine (awake50_any _).mono ?_
  rintro e w1 ⟨rfl, k1⟩
  go_wp2_with fail
  refine (few50L_any _ l 40 _ (HL.out.keep rdCmd_stable k1) HB.out).mono ?_
  rintro e w1b ⟨rfl, k1b⟩
  have k1 := k1.trans k1b
  cases hfw : fewL l 40 with
  | false =>
    go_wp2
    go_ret
    exact ⟨rfl, k1⟩
  | true =>
    have h40 : l.length ≤ 40 := by
      simp only [fewL, Bool.and_eq_true, decide_eq_true_eq] at hfw
      omega
    have H100 : Hid (∀ x ∈ l, (numMessage x.m).length ≤ 100) := hid fun x hx => by
      simp only [fewL, Bool.and_eq_true, List.all_eq_true, decide_eq_true_eq] at hfw
      exact hfw.1 x hx
    clear hfw k1b
    go_wp2_with fail
    refine (few50_any Af0 fs.length cf0 w1b).mono ?_
    rintro e w2' ⟨rfl, rfl⟩
    by_cases h300 : fs.length ≤ 300
    · rw [decide_eq_true h300]
      go_wp2_with fail
      refine (nNew_any r _ fs _ (HFS.out.keep (pl_stable _) k1) hfl).mono ?_
      rintro e w2 ⟨hres, k2⟩
      have hlo1 := k1.size
      have K2 := k1.trans k2
      rcases hres with ⟨hbad, rfl⟩ | ⟨hgood, nb, mb, vf, rfl, N2⟩
      · have HQ : Hid (newQ r fs = (zSt, 1)) := hid (by rw [newQ, newOk_bad, hbad]; rfl)
        clear hbad
        go_wp2_with fail
        refine (qNewR_any w _ r fs _ K2 HFS.out).mono ?_
        rintro e w3 ⟨v3, rfl, hst, k3⟩
        have e1 : (newQ r fs).1 = zSt := by rw [HQ.out]
        have e2 : (newQ r fs).2 = 1 := by rw [HQ.out]
        rw [e1] at hst
        rw [e2]
        clear e1 e2 HQ
        have K3 := K2.trans k3
        obtain ⟨c9, rfl, hl9, h19, HC9⟩ := hst.form2 K3
        obtain ⟨hth, hB4, k4, hlb4, hi⟩ := st_box w3 c9 hl9
        have H19 := hid h19
        have KF := K3.trans k4
        clear hst k3 hB4 hlb4 hl9 h19
        go_upto_region 7 with (refine wpList_store_mid rfl 66 (.tmp 9) (.tmp 45) rfl w3.heap.size 0 c9.toArray rfl rfl hth hi (all_oneCell_toArray H19.out) ?_; generalize (w3.alloc (.cells [.int .i64 0, .int .i64 0, .slice none 0 0, .slice none 0 0, .slice none 0 0, .int .i64 0, .int .i64 0, .int .i64 0, .int .i64 0].toArray 66)).setCells w3.heap.size 0 c9 = w4 at *)
        clear hth
        generalize w3.heap.size = bs at *
        go_wp2
        go_ret
        exact ⟨rfl, KF⟩
      · have HQ : Hid (newQ r fs = ({ zSt with reps := r, fates := fs }, 0)) := hid (by rw [newQ, newOk_bad, hgood]; rfl)
        have hB2 := N2.lt
        have hmlt := N2.mlt
        have HMV := hid (fun q (hq : vf.ownBlock = some q) => by have := (N2.ownb q hq).1; exact (by omega : q < w2.heap.size))
        have hlo2 := K2.size
        have HSim0 := hid (sim_new r fs)
        clear k1 k2 hgood
        go_wp2_with fail
        refine (qNewR_any w _ r fs _ K2 HFS.out).mono ?_
        rintro e w3 ⟨v3, rfl, hst, k3⟩
        have e1 : (newQ r fs).1 = { zSt with reps := r, fates := fs } := by rw [HQ.out]
        have e2 : (newQ r fs).2 = 0 := by rw [HQ.out]
        rw [e1] at hst
        rw [e2]
        clear e1 e2
        generalize hs0 : ({ zSt with reps := r, fates := fs } : RSt) = s0 at *
        have hcl0 : s0.cuts.length = 0 := by rw [← hs0]; rfl
        have HC0 := hid hcl0
        clear hs0 hcl0 HQ
        have K3 := K2.trans k3
        have N3 := N2.kp k3
        have hz3 := k3.size
        have hmb3 : mb < w3.heap.size := by omega
        obtain ⟨c9, rfl, hl9, h19, HC9⟩ := hst.form2 K3
        obtain ⟨hth, hB4, k4, hlb4, hi⟩ := st_box w3 c9 hl9
        have H19 := hid h19
        clear hl9 h19
        go_upto_region 7 with (refine wpList_store_mid rfl 66 (.tmp 9) (.tmp 45) rfl w3.heap.size 0 c9.toArray rfl rfl hth hi (all_oneCell_toArray H19.out) ?_; generalize (w3.alloc (.cells [.int .i64 0, .int .i64 0, .slice none 0 0, .slice none 0 0, .slice none 0 0, .int .i64 0, .int .i64 0, .int .i64 0, .int .i64 0].toArray 66)).setCells w3.heap.size 0 c9 = w4 at *)
        clear hth hi H19
        obtain ⟨Af, cf, Al, cl, Ac, cc, rfl⟩ := HC9.out
        clear HC9
        have HBs0 : Hid (¬ Qm nb mb (.slice none 0 0) w3.heap.size ∧ w3.heap.size < w4.heap.size) := hid ⟨fun h => by
          rcases h with (h | h) | h
          · omega
          · cases h
          · omega, hlb4⟩
        have X4 := hst.kp k4
        have N4 := N3.kp k4
        have K4 := K3.trans k4
        have hnb4 : nb < w3.heap.size := by omega
        have hvbs : w2.heap.size ≤ w3.heap.size := hz3
        have hbsl : w2'.heap.size ≤ w3.heap.size := by have := N2.mlo; omega
        have hwl : w.heap.size ≤ w2'.heap.size := hlo1
        generalize w3.heap.size = bs at *
        clear k4 N3 N2 hst K3 K2 k3 hB2 hlb4
        go_wp2_with fail
        go_loopw [61] (fun i wr => ∃ (k : Nat) (N : Net) (s : RSt) (sent arr : List Message) (sv : Value) (T : Nat → Prop) (Af : Option Addr) (cf : Nat) (Al : Option Addr) (cl : Nat) (Ac : Option Addr) (cc : Nat), k ≤ l.length ∧ i = .int .i64 (k : Int) ∧ NetW w2'.heap.size nb mb vf sv wr N ∧ Kp w wr ∧ Bx wr bs [.int .i64 s.reps, .int .i64 s.tick, .slice Af s.fates.length cf, .slice Al s.flight.length cl, .slice Ac s.cuts.length cc, .int .i64 s.sent, .int .i64 s.delivered, .int .i64 s.lost, .int .i64 s.made] ∧ StX w T wr (.agg [.int .i64 s.reps, .int .i64 s.tick, .slice Af s.fates.length cf, .slice Al s.flight.length cl, .slice Ac s.cuts.length cc, .int .i64 s.sent, .int .i64 s.delivered, .int .i64 s.lost, .int .i64 s.made].toArray) s ∧
          Hid (∀ i, T i → i < wr.heap.size ∧ i ≠ bs ∧ ¬ Qm nb mb sv i) ∧ Hid (¬ Qm nb mb sv bs ∧ bs < wr.heap.size) ∧ Hid (Sim N s) ∧ Hid (SInv k N sent arr) ∧ Hid (s.cuts.length ≤ k)) (fun i _ => l.length - (intOf i).toNat)
        case atStart => exact ⟨0, newN r fs, s0, [], [], _, fun _ => False, Af, cf, Al, cl, Ac, cc, Nat.zero_le _, rfl, N4, K4, hB4, X4, hid (fun i h => h.elim), HBs0, HSim0, hid ⟨fun κ => by simp [cntM, newN], by simp [newN], by simp [newN], by simp [newN], by simp, by simp [newN], fun x hx => by simp at hx, fun x hx => by simp at hx, fun p hp => by simp [newN] at hp⟩, hid (by rw [HC0.out]; exact Nat.le_refl _)⟩
        case round =>
          clear N4 K4 hB4 X4 HBs0 HSim0 HC0
          obtain ⟨k, N, s, sent, arr, sv, T, Af, cf, Al, cl, Ac, cc, hk, rfl, NW, KW, hB, hX, HT, HBs, HSim, HD, HCl⟩ := hrel
          by_cases hlt : k < l.length
          · obtain ⟨ga, o, cs, rfl, hg, hcs, hr, hx⟩ := HMS.out k hlt
            have hxb := hid (HB.out _ (List.getElem_mem hlt))
            have hx1 := hid (H100.out _ (List.getElem_mem hlt))
            generalize l[k] = x at *
            have hlk : (k : Int) < (l.length : Int) := by omega
            have hi : (Try.prog.info? 59).map (·.size) = some cs.length := by rw [hcs]; kernel_rfl
            have H1C := hid (rdCmd_one hx).2
            have HX := hid hx
            have hr1 := KW.range hr
            obtain ⟨hth, hbx, kb, hlb⟩ := cmd_boxO wr cs hcs
            clear hcs hx
            have hlbs := HBs.out.2
            have K5 := KW.trans kb
            have N5 := NW.kp kb
            have B5 := hB.kp kb hlbs
            have X5 := hX.kp kb
            have hqw := hid NW.qb_lt
            have hmw := hid NW.mblt
            have hfew := HD.out.few (by omega) NW.ok
            have HSort := hid NW.sorted
            have HOKN := hid NW.ok
            go_upto_region 14 with (first | (refine wpList_load_mid rfl 59 (.tmp 63) rfl ga (o + k * 22) rfl cs _ hr1 Try.underlying59 rfl hi ?_) | (refine wpList_store_mid rfl 59 (.tmp 12) (.tmp 64) rfl wr.heap.size 0 cs.toArray rfl rfl hth hi (all_oneCell_toArray H1C.out) ?_; generalize (wr.alloc (.cells #[.int .i64 0, .int .i64 0, .int .i64 0, .int .i64 0, .int .i64 0, .int .i64 0, .int .i64 0, .slice none 0 0, .slice none 0 0, .slice none 0 0, .int .i64 0, .int .i64 0, .int .i64 0, .int .i64 0, .int .i64 0, .slice none 0 0, .int .i64 0, .int .i64 0, .int .i64 0, .int .i64 0, .bool false, .slice none 0 0] 59)).setCells wr.heap.size 0 cs = w5 at *))
            have hzb := kb.size
            clear hth hr1 hr NW KW hB hX kb
            generalize hbb : wr.heap.size = b2 at *
            have HBB := hid hbb
            clear hbb
            have HFew := hid hfew
            have HOKR := hid (HSim.out.okR HOKN.out hfew (by have := HCl.out; omega))
            have HS2 := hid (sim_do HSim.out HOKN.out HSort.out x)
            have HC2 := hid (doR_cuts s x)
            have HSD := hid (s_do HD.out x hxb.out)
            go_wp2_with (refine wpList_load_mid rfl 59 (.tmp 12) rfl b2 0 rfl cs _ hbx.range Try.underlying59 rfl hi ?_)
            refine (doCmd_any _ nb mb vf _ N x cs w5 N5 hfew (rdCmd_stable _ _ _ _ K5 HX.out) (by unfold Room; have := hxb.out; simp; omega)).mono ?_
            rintro e w6 ⟨v6, rfl, sv', top6, css6, N6, fr6, hs6, ht6, own6, em6⟩
            have hnQ : ∀ i, b2 ≤ i → i < w5.heap.size → ¬ Qm nb mb sv i := fun i hi _ hq => by
              rcases hq with h | h
              · have := hqw.out i h
                omega
              · have := hmw.out
                omega
            have K6 := fr6.to_kp K5 fun i hi => by
              rcases hi with h | h
              · exact Nat.le_trans hwl (N5.qb_ge i h)
              · have := N5.mlo
                omega
            have B6 := hbx.keep (fr6.block b2 hlb (hnQ b2 (Nat.le_refl _) hlb))
            have hbs5 : bs < w5.heap.size := by omega
            have S6 := B5.keep (fr6.block bs hbs5 HBs.out.1)
            have X6 := X5.step fr6.size fun i hi hlt => fr6.block i hlt (HT.out i hi).2.2
            have hz6 := fr6.size
            have HBs6 : Hid (¬ Qm nb mb sv' bs ∧ bs < w6.heap.size) := hid ⟨fun h => by
              rcases h with (h | h) | h
              · exact HBs.out.1 (.inl (.inl h))
              · rcases hs6 bs h with h | h
                · exact HBs.out.1 (.inl (.inr h))
                · omega
              · exact HBs.out.1 (.inr h), by omega⟩
            have HT6 : Hid (∀ i, T i → i < b2 ∧ i ≠ bs ∧ ¬ Qm nb mb sv' i) := hid fun i hi => by
              obtain ⟨a1, a2, a3⟩ := HT.out i hi
              have a1 : i < b2 := by have := HBB.out; omega
              refine ⟨a1, a2, fun h => ?_⟩
              rcases h with (h | h) | h
              · exact a3 (.inl (.inl h))
              · rcases hs6 i h with h | h
                · exact a3 (.inl (.inr h))
                · omega
              · exact a3 (.inr h)
            have HQ6 : Hid (∀ i, Qm nb mb sv' i → i < w6.heap.size) := hid fun i hi => by
              rcases hi with h | h
              · exact N6.qb_lt i h
              · have := N6.mblt
                omega
            have HE1 : Hid ((doR s x).2.1 = (doN N x).2.1) := hid (by rw [HS2.out.2])
            have HE2 : Hid ((doR s x).2.2 = (doN N x).2.2) := hid (by rw [HS2.out.2])
            have HSM : Hid (Sim (doN N x).1 (doR s x).1) := hid HS2.out.1
            obtain ⟨A6, C6, rfl, hc6, hm6⟩ := own6.form
            have hb2bs : bs < b2 := by have := HBB.out; have := HBs.out.2; omega
            have hb2l : b2 < w6.heap.size := by omega
            clear N5 X5 B5 hbx K5 fr6 hnQ hs6 ht6 hfew hlb hqw hmw HS2 HT HBs HD HSim HBB hlbs HFew
            generalize sentBy N x sent = sent' at *
            generalize (doN N x).1 = N' at *
            generalize (doN N x).2.2 = er at *
            generalize (doN N x).2.1 = out at *
            have c0 := (S6).cell (j := 0) rfl
            have c1 := (S6).cell (j := 1) rfl
            have c2 := (S6).cell (j := 2) rfl
            have c3 := (S6).cell (j := 3) rfl
            have c4 := (S6).cell (j := 4) rfl
            have c5 := (S6).cell (j := 5) rfl
            have c6 := (S6).cell (j := 6) rfl
            have c7 := (S6).cell (j := 7) rfl
            have c8 := (S6).cell (j := 8) rfl
            go_wp2_with (refine wpList_load_mid rfl 59 (.tmp 12) rfl b2 0 rfl cs _ B6.range Try.underlying59 rfl hi ?_)
            refine (qDo_any w T _ s x cs w6 K6 X6 HOKR.out HX.out (by have := hx1.out; omega)).mono ?_
            rintro e w7 ⟨v7, vo, rfl, hst, hmo, k7⟩
            rw [HE2.out]
            rw [HE1.out] at hmo
            clear HE1 HE2 c0 c1 c2 c3 c4 c5 c6 c7 c8
            generalize (doR s x).1 = s' at *
            have K7 := K6.trans k7
            obtain ⟨c9, rfl, hl9, h19, HC9⟩ := hst.form2 K7
            obtain ⟨cso, hO, hOL, hOR⟩ := hmo
            obtain ⟨Ao, co, rfl, hco, hmo'⟩ := hO.here.form
            replace hOL := hid hOL
            replace hOR := hid hOR
            obtain ⟨hth, hB8, k8, hlb8, hi9⟩ := st_box w7 c9 hl9
            have H19 := hid h19
            have hz7 := k7.size
            clear hl9 h19 X6
            go_upto_region 16 with (refine wpList_store_mid rfl 66 (.tmp 15) (.tmp 75) rfl w7.heap.size 0 c9.toArray rfl rfl hth hi9 (all_oneCell_toArray H19.out) ?_; generalize (w7.alloc (.cells [.int .i64 0, .int .i64 0, .slice none 0 0, .slice none 0 0, .slice none 0 0, .int .i64 0, .int .i64 0, .int .i64 0, .int .i64 0].toArray 66)).setCells w7.heap.size 0 c9 = w8 at *)
            clear hth hi9 H19
            obtain ⟨Af', cf', Al', cl', Ac', cc', rfl⟩ := HC9.out
            clear HC9
            have hz8 := k8.size
            have k68 := k7.trans k8
            have S8 := S6.kp k68 HBs6.out.2
            have B8 := B6.kp k68 hb2l
            have N8 := N6.kp k68
            have K8 := K7.trans k8
            have X8 := hst.kp k8
            have own8 := own6.kp k68
            have em8 := em6.step (w' := w8) k68.size fun i _ hi _ => k68.block (by have := em6.2.2.1; omega)
            have hO8 := hO.kp k8
            generalize w7.heap.size = b5 at *
            clear k68 k7 k8 S6 B6 N6 K6 K7 hst own6 em6 hO
            have d0 := (hB8).cell (j := 0) rfl
            have d1 := (hB8).cell (j := 1) rfl
            have d2 := (hB8).cell (j := 2) rfl
            have d3 := (hB8).cell (j := 3) rfl
            have d4 := (hB8).cell (j := 4) rfl
            have d5 := (hB8).cell (j := 5) rfl
            have d6 := (hB8).cell (j := 6) rfl
            have d7 := (hB8).cell (j := 7) rfl
            have d8 := (hB8).cell (j := 8) rfl
            have c0 := (S8).cell (j := 0) rfl
            have c1 := (S8).cell (j := 1) rfl
            have c2 := (S8).cell (j := 2) rfl
            have c3 := (S8).cell (j := 3) rfl
            have c4 := (S8).cell (j := 4) rfl
            have c5 := (S8).cell (j := 5) rfl
            have c6 := (S8).cell (j := 6) rfl
            have c7 := (S8).cell (j := 7) rfl
            have c8 := (S8).cell (j := 8) rfl
            have f0 := (S8).free (j := 0) (by simp)
            have f1 := (S8).free (j := 1) (by simp)
            have f2 := (S8).free (j := 2) (by simp)
            have f3 := (S8).free (j := 3) (by simp)
            have f4 := (S8).free (j := 4) (by simp)
            have f5 := (S8).free (j := 5) (by simp)
            have f6 := (S8).free (j := 6) (by simp)
            have f7 := (S8).free (j := 7) (by simp)
            have f8 := (S8).free (j := 8) (by simp)
            have hbs8 : bs < w8.heap.size := by have := HBs6.out.2; omega
            go_upto_region 17 with (fail)
            change Code.wp _ _ _ _ (w8.setCells bs 0 [.int .i64 s'.reps, .int .i64 s'.tick, .slice Af' s'.fates.length cf', .slice Al' s'.flight.length cl', .slice Ac' s'.cuts.length cc', .int .i64 s'.sent, .int .i64 s'.delivered, .int .i64 s'.lost, .int .i64 s'.made])
            have kg9 := Kg.setCells (g := bs) [.int .i64 s'.reps, .int .i64 s'.tick, .slice Af' s'.fates.length cf', .slice Al' s'.flight.length cl', .slice Ac' s'.cuts.length cc', .int .i64 s'.sent, .int .i64 s'.delivered, .int .i64 s'.lost, .int .i64 s'.made] 0 _ (Kg.refl w8 bs)
            have hB9 := S8.all (cs := [.int .i64 s'.reps, .int .i64 s'.tick, .slice Af' s'.fates.length cf', .slice Al' s'.flight.length cl', .slice Ac' s'.cuts.length cc', .int .i64 s'.sent, .int .i64 s'.delivered, .int .i64 s'.lost, .int .i64 s'.made]) rfl
            generalize w8.setCells bs 0 [.int .i64 s'.reps, .int .i64 s'.tick, .slice Af' s'.fates.length cf', .slice Al' s'.flight.length cl', .slice Ac' s'.cuts.length cc', .int .i64 s'.sent, .int .i64 s'.delivered, .int .i64 s'.lost, .int .i64 s'.made] = w9 at *
            clear c0 c1 c2 c3 c4 c5 c6 c7 c8 d0 d1 d2 d3 d4 d5 d6 d7 d8 f0 f1 f2 f3 f4 f5 f6 f7 f8 hB8 S8
            have fr9 : Fr (fun i => i = bs) w8 w9 := kg9.fr rfl
            have N9 := N8.fr fr9 (fun h => HBs6.out.1 (.inl (.inl h.symm))) (fun h => HBs6.out.1 (.inr h.symm)) (fun i hi h => by have := HMV.out i hi; omega) (fun i hi h => HBs6.out.1 (.inl (.inr (h ▸ hi))))
            have X9 := X8.step kg9.size fun i hi hlt => fr9.block i hlt fun e => by
              rcases hi with h | h
              · exact (HT6.out i h).2.1 e
              · have := HBs6.out.2
                omega
            have K9 := fr9.to_kp K8 fun i hi => by omega
            have B9 := B8.kg kg9 (by omega) (by omega)
            have own9 := own8.kg kg9 hbs5
            have em9 := em8.step (w' := w9) kg9.size fun i h1 h2 _ => fr9.block i (by have := em8.2.2.1; omega) (by omega)
            have hO9 := hO8.kg kg9 (by have := HBs6.out.2; omega)
            have M9 : Msgs w9 _ out := (em9.fin own9).here
            have hz9 := kg9.size
            have HNX := hid (sim_next HSM.out N9.sorted)
            clear N8 X8 K8 B8 own8 em8 hO8 kg9 fr9
            have MO9 : Msgs w9 _ out := sl_of hO9.here hOL.out fun i i1 i2 => rdMsg_stable _ _ _ _ K9 (hOR.out i i1 i2)
            clear own9 em9 hO9
            go_wp2_with fail
            refine (nNext_any _ nb mb vf _ w9 N' N9).mono ?_
            rintro e w9' ⟨rfl, rfl⟩
            have c0 := (hB9).cell (j := 0) rfl
            have c1 := (hB9).cell (j := 1) rfl
            have c2 := (hB9).cell (j := 2) rfl
            have c3 := (hB9).cell (j := 3) rfl
            have c4 := (hB9).cell (j := 4) rfl
            have c5 := (hB9).cell (j := 5) rfl
            have c6 := (hB9).cell (j := 6) rfl
            have c7 := (hB9).cell (j := 7) rfl
            have c8 := (hB9).cell (j := 8) rfl
            go_wp2_with fail
            refine (qNextR_any _ s' _ (X9.stv K9)).mono ?_
            rintro e w10 ⟨rfl, k10⟩
            rw [HNX.out]
            generalize (nextR N').1 = due at *
            generalize (nextR N').2 = ok at *
            clear c0 c1 c2 c3 c4 c5 c6 c7 c8
            go_wp2_with fail
            refine (nCounts_any _ nb mb vf _ w10 N' (N9.kp k10)).mono ?_
            rintro e w11 ⟨rfl, k11⟩
            rw [HSM.out.sent, HSM.out.delivered, HSM.out.lost]
            go_upto_region 20 with (fail)
            have k911 := k10.trans k11
            have hz11 := k911.size
            have hbs9 : bs < w9'.heap.size := by omega
            have N11 := N9.kp k911
            have X11 := X9.kp k911
            have K11 := K9.trans k911
            have B11 := B9.kp k911 (by omega)
            have hB11 := hB9.kp k911 hbs9
            have M11 := M9.keep rdMsg_stable k911
            have MO11 := MO9.keep rdMsg_stable k911
            clear N9 X9 K9 B9 hB9 M9 MO9 k10 k11 k911
            obtain ⟨ms, hce, -⟩ := HX.out
            have y2 : w11.cell? ⟨b2, 2, none⟩ = some (.int .i64 x.a) := B11.cell (by rw [hce]; rfl)
            have y3 : w11.cell? ⟨b2, 3, none⟩ = some (.int .i64 x.b) := B11.cell (by rw [hce]; rfl)
            clear hce
            have c0 := (hB11).cell (j := 0) rfl
            have c1 := (hB11).cell (j := 1) rfl
            have c2 := (hB11).cell (j := 2) rfl
            have c3 := (hB11).cell (j := 3) rfl
            have c4 := (hB11).cell (j := 4) rfl
            have c5 := (hB11).cell (j := 5) rfl
            have c6 := (hB11).cell (j := 6) rfl
            have c7 := (hB11).cell (j := 7) rfl
            have c8 := (hB11).cell (j := 8) rfl
            have HLX : Hid (∀ y ∈ out, (numMessage y).length ≤ 1000000000) := hid fun y hy => HSD.out.b2 y (List.mem_append_right _ hy)
            have HLK : Hid (∃ lk, linkedB N'.reps N'.cuts x.a x.b = lk ∧ linkedB N'.reps N'.cuts x.b x.a = lk ∧ linkR s' x.a x.b = lk) := hid ⟨_, rfl, linkedB_symm _ _ _ _, HSM.out.link _ _⟩
            obtain ⟨lk, hl1, hl2, hl3⟩ := HLK.out
            replace hl1 := hid hl1
            replace hl2 := hid hl2
            replace hl3 := hid hl3
            have HFY := hid HSM.out.flen
            generalize x.a = xa at *
            generalize x.b = xb at *
            clear HLK
            refine G2.wp_region_growT Kp [] 74 171 (G2.pvL [G2.eqv (.slice A6 css6.length C6), G2.eqv (.slice Ao cso.length co), G2.eqv (.bool true), G2.eqv (.bool false), G2.eqv (.bool false), G2.eqv (.int .i64 er), G2.eqv (.int .i64 er), G2.eqv (.bool false), G2.eqv (.bool false), G2.eqv (.bool false), G2.eqv (.int .i64 due), G2.eqv (.int .i64 due), G2.eqv (.bool false), G2.eqv (.bool false), G2.eqv (.bool false), G2.eqv (.bool ok), G2.eqv (.bool ok), G2.eqv (.bool false), G2.eqv (.bool false), G2.eqv (.bool false), G2.eqv (.pointer (some ⟨nb, 0, none⟩)), G2.eqv (.int .i64 (s'.flight.length : Int)), G2.eqv (.pointer (some ⟨bs, 3, none⟩)), G2.eqv (.slice Al' s'.flight.length cl'), G2.eqv (.int .i64 (s'.flight.length : Int)), G2.eqv (.bool false), G2.eqv (.bool false), G2.eqv (.bool false), G2.eqv (.int .i64 s'.sent), G2.eqv (.pointer (some ⟨bs, 5, none⟩)), G2.eqv (.int .i64 s'.sent), G2.eqv (.bool false), G2.eqv (.bool false), G2.eqv (.bool false), G2.eqv (.int .i64 s'.delivered), G2.eqv (.pointer (some ⟨bs, 6, none⟩)), G2.eqv (.int .i64 s'.delivered), G2.eqv (.bool false), G2.eqv (.bool false), G2.eqv (.bool false), G2.eqv (.int .i64 s'.lost), G2.eqv (.pointer (some ⟨bs, 7, none⟩)), G2.eqv (.int .i64 s'.lost), G2.eqv (.bool false), G2.eqv (.bool false), G2.eqv (.bool false), G2.eqv (.pointer (some ⟨nb, 0, none⟩)), G2.eqv (.pointer (some ⟨b2, 2, none⟩)), G2.eqv (.int .i64 xa), G2.eqv (.pointer (some ⟨b2, 3, none⟩)), G2.eqv (.int .i64 xb), G2.eqv (.bool lk), G2.eqv (.agg [.int .i64 s'.reps, .int .i64 s'.tick, .slice Af' s'.fates.length cf', .slice Al' s'.flight.length cl', .slice Ac' s'.cuts.length cc', .int .i64 s'.sent, .int .i64 s'.delivered, .int .i64 s'.lost, .int .i64 s'.made].toArray), G2.eqv (.pointer (some ⟨b2, 2, none⟩)), G2.eqv (.int .i64 xa), G2.eqv (.pointer (some ⟨b2, 3, none⟩)), G2.eqv (.int .i64 xb), G2.eqv (.bool lk), G2.eqv (.bool false), G2.eqv (.bool false), G2.eqv (.bool false), G2.eqv (.pointer (some ⟨nb, 0, none⟩)), G2.eqv (.pointer (some ⟨b2, 3, none⟩)), G2.eqv (.int .i64 xb), G2.eqv (.pointer (some ⟨b2, 2, none⟩)), G2.eqv (.int .i64 xa), G2.eqv (.bool lk), G2.eqv (.pointer (some ⟨nb, 0, none⟩)), G2.eqv (.pointer (some ⟨b2, 2, none⟩)), G2.eqv (.int .i64 xa), G2.eqv (.pointer (some ⟨b2, 3, none⟩)), G2.eqv (.int .i64 xb), G2.eqv (.bool lk), G2.eqv (.bool false)]) (by kernel_rfl) (by kernel_rfl) rfl (fun x => Kp.refl x) (fun _ _ _ h k => h.trans k) (Kp.refl _).drew (fun _ _ _ _ _ h => h) (G2.pvL_keep (G2.stabL_cons (G2.stab_eq _) (G2.stabL_cons (G2.stab_eq _) (G2.stabL_cons (G2.stab_eq _) (G2.stabL_cons (G2.stab_eq _) (G2.stabL_cons (G2.stab_eq _) (G2.stabL_cons (G2.stab_eq _) (G2.stabL_cons (G2.stab_eq _) (G2.stabL_cons (G2.stab_eq _) (G2.stabL_cons (G2.stab_eq _) (G2.stabL_cons (G2.stab_eq _) (G2.stabL_cons (G2.stab_eq _) (G2.stabL_cons (G2.stab_eq _) (G2.stabL_cons (G2.stab_eq _) (G2.stabL_cons (G2.stab_eq _) (G2.stabL_cons (G2.stab_eq _) (G2.stabL_cons (G2.stab_eq _) (G2.stabL_cons (G2.stab_eq _) (G2.stabL_cons (G2.stab_eq _) (G2.stabL_cons (G2.stab_eq _) (G2.stabL_cons (G2.stab_eq _) (G2.stabL_cons (G2.stab_eq _) (G2.stabL_cons (G2.stab_eq _) (G2.stabL_cons (G2.stab_eq _) (G2.stabL_cons (G2.stab_eq _) (G2.stabL_cons (G2.stab_eq _) (G2.stabL_cons (G2.stab_eq _) (G2.stabL_cons (G2.stab_eq _) (G2.stabL_cons (G2.stab_eq _) (G2.stabL_cons (G2.stab_eq _) (G2.stabL_cons (G2.stab_eq _) (G2.stabL_cons (G2.stab_eq _) (G2.stabL_cons (G2.stab_eq _) (G2.stabL_cons (G2.stab_eq _) (G2.stabL_cons (G2.stab_eq _) (G2.stabL_cons (G2.stab_eq _) (G2.stabL_cons (G2.stab_eq _) (G2.stabL_cons (G2.stab_eq _) (G2.stabL_cons (G2.stab_eq _) (G2.stabL_cons (G2.stab_eq _) (G2.stabL_cons (G2.stab_eq _) (G2.stabL_cons (G2.stab_eq _) (G2.stabL_cons (G2.stab_eq _) (G2.stabL_cons (G2.stab_eq _) (G2.stabL_cons (G2.stab_eq _) (G2.stabL_cons (G2.stab_eq _) (G2.stabL_cons (G2.stab_eq _) (G2.stabL_cons (G2.stab_eq _) (G2.stabL_cons (G2.stab_eq _) (G2.stabL_cons (G2.stab_eq _) (G2.stabL_cons (G2.stab_eq _) (G2.stabL_cons (G2.stab_eq _) (G2.stabL_cons (G2.stab_eq _) (G2.stabL_cons (G2.stab_eq _) (G2.stabL_cons (G2.stab_eq _) (G2.stabL_cons (G2.stab_eq _) (G2.stabL_cons (G2.stab_eq _) (G2.stabL_cons (G2.stab_eq _) (G2.stabL_cons (G2.stab_eq _) (G2.stabL_cons (G2.stab_eq _) (G2.stabL_cons (G2.stab_eq _) (G2.stabL_cons (G2.stab_eq _) (G2.stabL_cons (G2.stab_eq _) (G2.stabL_cons (G2.stab_eq _) (G2.stabL_cons (G2.stab_eq _) (G2.stabL_cons (G2.stab_eq _) (G2.stabL_cons (G2.stab_eq _) (G2.stabL_cons (G2.stab_eq _) (G2.stabL_cons (G2.stab_eq _) (G2.stabL_cons (G2.stab_eq _) (G2.stabL_cons (G2.stab_eq _) (G2.stabL_cons (G2.stab_eq _) (G2.stabL_cons (G2.stab_eq _) (G2.stabL_cons (G2.stab_eq _) (G2.stabL_cons (G2.stab_eq _) (G2.stabL_nil)))))))))))))))))))))))))))))))))))))))))))))))))))))))))))))))))))))))))))) (G2.stepsT_cons 0 ?_ (G2.stepsT_cons 1 ?_ (G2.stepsT_cons 2 ?_ (G2.stepsT_cons 3 ?_ (G2.stepsT_cons 4 ?_ (G2.stepsT_cons 5 ?_ (G2.stepsT_cons 6 ?_ (G2.stepsT_cons 7 ?_ (G2.stepsT_cons 8 ?_ (G2.stepsT_cons 9 ?_ (G2.stepsT_cons 10 ?_ (G2.stepsT_cons 11 ?_ (G2.stepsT_cons 12 ?_ (G2.stepsT_cons 13 ?_ (G2.stepsT_cons 14 ?_ (G2.stepsT_cons 15 ?_ (G2.stepsT_cons 16 ?_ (G2.stepsT_cons 17 ?_ (G2.stepsT_cons 18 ?_ (G2.stepsT_cons 19 ?_ (G2.stepsT_cons 20 ?_ (G2.stepsT_cons 21 ?_ (G2.stepsT_cons 22 ?_ (G2.stepsT_cons 23 ?_ (G2.stepsT_cons 24 ?_ (G2.stepsT_cons 25 ?_ (G2.stepsT_cons 26 ?_ (G2.stepsT_cons 27 ?_ (G2.stepsT_cons 28 ?_ (G2.stepsT_cons 29 ?_ (G2.stepsT_cons 30 ?_ (G2.stepsT_cons 31 ?_ (G2.stepsT_cons 32 ?_ (G2.stepsT_cons 33 ?_ (G2.stepsT_cons 34 ?_ (G2.stepsT_cons 35 ?_ (G2.stepsT_cons 36 ?_ (G2.stepsT_cons 37 ?_ (G2.stepsT_cons 38 ?_ (G2.stepsT_cons 39 ?_ (G2.stepsT_cons 40 ?_ (G2.stepsT_cons 41 ?_ (G2.stepsT_cons 42 ?_ (G2.stepsT_cons 43 ?_ (G2.stepsT_cons 44 ?_ (G2.stepsT_cons 45 ?_ (G2.stepsT_cons 46 ?_ (G2.stepsT_cons 47 ?_ (G2.stepsT_cons 48 ?_ (G2.stepsT_cons 49 ?_ (G2.stepsT_cons 50 ?_ (G2.stepsT_cons 51 ?_ (G2.stepsT_cons 52 ?_ (G2.stepsT_cons 53 ?_ (G2.stepsT_cons 54 ?_ (G2.stepsT_cons 55 ?_ (G2.stepsT_cons 56 ?_ (G2.stepsT_cons 57 ?_ (G2.stepsT_cons 58 ?_ (G2.stepsT_cons 59 ?_ (G2.stepsT_cons 60 ?_ (G2.stepsT_cons 61 ?_ (G2.stepsT_cons 62 ?_ (G2.stepsT_cons 63 ?_ (G2.stepsT_cons 64 ?_ (G2.stepsT_cons 65 ?_ (G2.stepsT_cons 66 ?_ (G2.stepsT_cons 67 ?_ (G2.stepsT_cons 68 ?_ (G2.stepsT_cons 69 ?_ (G2.stepsT_cons 70 ?_ (G2.stepsT_cons 71 ?_ (G2.stepsT_cons 72 ?_ (G2.stepsT_cons 73 ?_ (G2.stepsT_nil _ _ _))))))))))))))))))))))))))))))))))))))))))))))))))))))))))))))))))))))))))) ?_ ?_
            · intro a w' hk hF hD K hK
              have h13 : a.tmps[13]?.getD undef = .slice A6 css6.length C6 := hF 13 (by kernel_rfl)
              clear hF hD
              go_simp
              exact hK.out _ _ (Kp.refl _) rfl
            · intro a w' hk hF hD K hK
              have h16 : a.tmps[16]?.getD undef = .slice Ao cso.length co := hF 16 (by kernel_rfl)
              clear hF hD
              go_simp
              exact hK.out _ _ (Kp.refl _) rfl
            · intro a w' hk hF hD K hK
              have h95 : a.tmps[95]?.getD undef = .slice A6 css6.length C6 := hD 0 (by kernel_rfl)
              have h96 : a.tmps[96]?.getD undef = .slice Ao cso.length co := hD 1 (by kernel_rfl)
              clear hF hD
              go_simp
              refine (Same50_any _ _ out out _ (M11.keep rdMsg_stable hk) (MO11.keep rdMsg_stable hk) HLX.out HLX.out).mono ?_
              rintro e w12 ⟨rfl, hk9⟩
              rw [sameM_refl]
              exact hK.out _ _ hk9 rfl
            · intro a w' hk hF hD K hK
              have h97 : a.tmps[97]?.getD undef = .bool true := hD 2 (by kernel_rfl)
              clear hF hD
              go_simp
              exact hK.out _ _ (Kp.refl _) rfl
            · intro a w' hk hF hD K hK
              have h98 : a.tmps[98]?.getD undef = .bool false := hD 3 (by kernel_rfl)
              clear hF hD
              go_simp
              exact hK.out _ _ (Kp.refl _) rfl
            · intro a w' hk hF hD K hK
              have h14 : a.tmps[14]?.getD undef = .int .i64 er := hF 14 (by kernel_rfl)
              have h99 : a.tmps[99]?.getD undef = .bool false := hD 4 (by kernel_rfl)
              have g99 := guard_get h99
              clear hF hD
              go_simp
              exact hK.out _ _ (Kp.refl _) rfl
            · intro a w' hk hF hD K hK
              have h17 : a.tmps[17]?.getD undef = .int .i64 er := hF 17 (by kernel_rfl)
              have h99 : a.tmps[99]?.getD undef = .bool false := hD 4 (by kernel_rfl)
              have g99 := guard_get h99
              clear hF hD
              go_simp
              exact hK.out _ _ (Kp.refl _) rfl
            · intro a w' hk hF hD K hK
              have h100 : a.tmps[100]?.getD undef = .int .i64 er := hD 5 (by kernel_rfl)
              have h101 : a.tmps[101]?.getD undef = .int .i64 er := hD 6 (by kernel_rfl)
              have h99 : a.tmps[99]?.getD undef = .bool false := hD 4 (by kernel_rfl)
              have g99 := guard_get h99
              clear hF hD
              go_simp
              exact hK.out _ _ (Kp.refl _) rfl
            · intro a w' hk hF hD K hK
              have h99 : a.tmps[99]?.getD undef = .bool false := hD 4 (by kernel_rfl)
              have h102 : a.tmps[102]?.getD undef = .bool false := hD 7 (by kernel_rfl)
              clear hF hD
              go_simp
              exact hK.out _ _ (Kp.refl _) rfl
            · intro a w' hk hF hD K hK
              have h103 : a.tmps[103]?.getD undef = .bool false := hD 8 (by kernel_rfl)
              clear hF hD
              go_simp
              exact hK.out _ _ (Kp.refl _) rfl
            · intro a w' hk hF hD K hK
              have h18 : a.tmps[18]?.getD undef = .int .i64 due := hF 18 (by kernel_rfl)
              have h104 : a.tmps[104]?.getD undef = .bool false := hD 9 (by kernel_rfl)
              have g104 := guard_get h104
              clear hF hD
              go_simp
              exact hK.out _ _ (Kp.refl _) rfl
            · intro a w' hk hF hD K hK
              have h20 : a.tmps[20]?.getD undef = .int .i64 due := hF 20 (by kernel_rfl)
              have h104 : a.tmps[104]?.getD undef = .bool false := hD 9 (by kernel_rfl)
              have g104 := guard_get h104
              clear hF hD
              go_simp
              exact hK.out _ _ (Kp.refl _) rfl
            · intro a w' hk hF hD K hK
              have h105 : a.tmps[105]?.getD undef = .int .i64 due := hD 10 (by kernel_rfl)
              have h106 : a.tmps[106]?.getD undef = .int .i64 due := hD 11 (by kernel_rfl)
              have h104 : a.tmps[104]?.getD undef = .bool false := hD 9 (by kernel_rfl)
              have g104 := guard_get h104
              clear hF hD
              go_simp
              exact hK.out _ _ (Kp.refl _) rfl
            · intro a w' hk hF hD K hK
              have h104 : a.tmps[104]?.getD undef = .bool false := hD 9 (by kernel_rfl)
              have h107 : a.tmps[107]?.getD undef = .bool false := hD 12 (by kernel_rfl)
              clear hF hD
              go_simp
              exact hK.out _ _ (Kp.refl _) rfl
            · intro a w' hk hF hD K hK
              have h108 : a.tmps[108]?.getD undef = .bool false := hD 13 (by kernel_rfl)
              clear hF hD
              go_simp
              exact hK.out _ _ (Kp.refl _) rfl
            · intro a w' hk hF hD K hK
              have h19 : a.tmps[19]?.getD undef = .bool ok := hF 19 (by kernel_rfl)
              have h109 : a.tmps[109]?.getD undef = .bool false := hD 14 (by kernel_rfl)
              have g109 := guard_get h109
              clear hF hD
              go_simp
              exact hK.out _ _ (Kp.refl _) rfl
            · intro a w' hk hF hD K hK
              have h21 : a.tmps[21]?.getD undef = .bool ok := hF 21 (by kernel_rfl)
              have h109 : a.tmps[109]?.getD undef = .bool false := hD 14 (by kernel_rfl)
              have g109 := guard_get h109
              clear hF hD
              go_simp
              exact hK.out _ _ (Kp.refl _) rfl
            · intro a w' hk hF hD K hK
              have h110 : a.tmps[110]?.getD undef = .bool ok := hD 15 (by kernel_rfl)
              have h111 : a.tmps[111]?.getD undef = .bool ok := hD 16 (by kernel_rfl)
              have h109 : a.tmps[109]?.getD undef = .bool false := hD 14 (by kernel_rfl)
              have g109 := guard_get h109
              clear hF hD
              go_simp
              exact hK.out _ _ (Kp.refl _) rfl
            · intro a w' hk hF hD K hK
              have h109 : a.tmps[109]?.getD undef = .bool false := hD 14 (by kernel_rfl)
              have h112 : a.tmps[112]?.getD undef = .bool false := hD 17 (by kernel_rfl)
              clear hF hD
              go_simp
              exact hK.out _ _ (Kp.refl _) rfl
            · intro a w' hk hF hD K hK
              have h113 : a.tmps[113]?.getD undef = .bool false := hD 18 (by kernel_rfl)
              clear hF hD
              go_simp
              exact hK.out _ _ (Kp.refl _) rfl
            · intro a w' hk hF hD K hK
              have h7 : a.tmps[7]?.getD undef = .pointer (some ⟨nb, 0, none⟩) := hF 7 (by kernel_rfl)
              have h114 : a.tmps[114]?.getD undef = .bool false := hD 19 (by kernel_rfl)
              have g114 := guard_get h114
              clear hF hD
              go_simp
              exact hK.out _ _ (Kp.refl _) rfl
            · intro a w' hk hF hD K hK
              have h115 : a.tmps[115]?.getD undef = .pointer (some ⟨nb, 0, none⟩) := hD 20 (by kernel_rfl)
              have h114 : a.tmps[114]?.getD undef = .bool false := hD 19 (by kernel_rfl)
              have g114 := guard_get h114
              clear hF hD
              go_simp
              refine (nInFlight_any _ nb mb vf _ _ N' (N11.kp hk)).mono ?_
              rintro e w12 ⟨rfl, rfl⟩
              rw [HFY.out]
              exact hK.out _ _ (Kp.refl _) rfl
            · intro a w' hk hF hD K hK
              have h9 : a.tmps[9]?.getD undef = .pointer (some ⟨bs, 0, none⟩) := hF 9 (by kernel_rfl)
              have h114 : a.tmps[114]?.getD undef = .bool false := hD 19 (by kernel_rfl)
              have g114 := guard_get h114
              clear hF hD
              go_simp
              exact hK.out _ _ (Kp.refl _) rfl
            · intro a w' hk hF hD K hK
              have h117 : a.tmps[117]?.getD undef = .pointer (some ⟨bs, 3, none⟩) := hD 22 (by kernel_rfl)
              have h114 : a.tmps[114]?.getD undef = .bool false := hD 19 (by kernel_rfl)
              have g114 := guard_get h114
              clear hF hD
              have z := hk.cellS c3
              go_simp
              exact hK.out _ _ (Kp.refl _) rfl
            · intro a w' hk hF hD K hK
              have h118 : a.tmps[118]?.getD undef = .slice Al' s'.flight.length cl' := hD 23 (by kernel_rfl)
              have h114 : a.tmps[114]?.getD undef = .bool false := hD 19 (by kernel_rfl)
              have g114 := guard_get h114
              clear hF hD
              go_simp
              exact hK.out _ _ (Kp.refl _) rfl
            · intro a w' hk hF hD K hK
              have h116 : a.tmps[116]?.getD undef = .int .i64 (s'.flight.length : Int) := hD 21 (by kernel_rfl)
              have h119 : a.tmps[119]?.getD undef = .int .i64 (s'.flight.length : Int) := hD 24 (by kernel_rfl)
              have h114 : a.tmps[114]?.getD undef = .bool false := hD 19 (by kernel_rfl)
              have g114 := guard_get h114
              clear hF hD
              go_simp
              exact hK.out _ _ (Kp.refl _) rfl
            · intro a w' hk hF hD K hK
              have h114 : a.tmps[114]?.getD undef = .bool false := hD 19 (by kernel_rfl)
              have h120 : a.tmps[120]?.getD undef = .bool false := hD 25 (by kernel_rfl)
              clear hF hD
              go_simp
              exact hK.out _ _ (Kp.refl _) rfl
            · intro a w' hk hF hD K hK
              have h121 : a.tmps[121]?.getD undef = .bool false := hD 26 (by kernel_rfl)
              clear hF hD
              go_simp
              exact hK.out _ _ (Kp.refl _) rfl
            · intro a w' hk hF hD K hK
              have h22 : a.tmps[22]?.getD undef = .int .i64 s'.sent := hF 22 (by kernel_rfl)
              have h122 : a.tmps[122]?.getD undef = .bool false := hD 27 (by kernel_rfl)
              have g122 := guard_get h122
              clear hF hD
              go_simp
              exact hK.out _ _ (Kp.refl _) rfl
            · intro a w' hk hF hD K hK
              have h9 : a.tmps[9]?.getD undef = .pointer (some ⟨bs, 0, none⟩) := hF 9 (by kernel_rfl)
              have h122 : a.tmps[122]?.getD undef = .bool false := hD 27 (by kernel_rfl)
              have g122 := guard_get h122
              clear hF hD
              go_simp
              exact hK.out _ _ (Kp.refl _) rfl
            · intro a w' hk hF hD K hK
              have h124 : a.tmps[124]?.getD undef = .pointer (some ⟨bs, 5, none⟩) := hD 29 (by kernel_rfl)
              have h122 : a.tmps[122]?.getD undef = .bool false := hD 27 (by kernel_rfl)
              have g122 := guard_get h122
              clear hF hD
              have z := hk.cellS c5
              go_simp
              exact hK.out _ _ (Kp.refl _) rfl
            · intro a w' hk hF hD K hK
              have h123 : a.tmps[123]?.getD undef = .int .i64 s'.sent := hD 28 (by kernel_rfl)
              have h125 : a.tmps[125]?.getD undef = .int .i64 s'.sent := hD 30 (by kernel_rfl)
              have h122 : a.tmps[122]?.getD undef = .bool false := hD 27 (by kernel_rfl)
              have g122 := guard_get h122
              clear hF hD
              go_simp
              exact hK.out _ _ (Kp.refl _) rfl
            · intro a w' hk hF hD K hK
              have h122 : a.tmps[122]?.getD undef = .bool false := hD 27 (by kernel_rfl)
              have h126 : a.tmps[126]?.getD undef = .bool false := hD 31 (by kernel_rfl)
              clear hF hD
              go_simp
              exact hK.out _ _ (Kp.refl _) rfl
            · intro a w' hk hF hD K hK
              have h127 : a.tmps[127]?.getD undef = .bool false := hD 32 (by kernel_rfl)
              clear hF hD
              go_simp
              exact hK.out _ _ (Kp.refl _) rfl
            · intro a w' hk hF hD K hK
              have h23 : a.tmps[23]?.getD undef = .int .i64 s'.delivered := hF 23 (by kernel_rfl)
              have h128 : a.tmps[128]?.getD undef = .bool false := hD 33 (by kernel_rfl)
              have g128 := guard_get h128
              clear hF hD
              go_simp
              exact hK.out _ _ (Kp.refl _) rfl
            · intro a w' hk hF hD K hK
              have h9 : a.tmps[9]?.getD undef = .pointer (some ⟨bs, 0, none⟩) := hF 9 (by kernel_rfl)
              have h128 : a.tmps[128]?.getD undef = .bool false := hD 33 (by kernel_rfl)
              have g128 := guard_get h128
              clear hF hD
              go_simp
              exact hK.out _ _ (Kp.refl _) rfl
            · intro a w' hk hF hD K hK
              have h130 : a.tmps[130]?.getD undef = .pointer (some ⟨bs, 6, none⟩) := hD 35 (by kernel_rfl)
              have h128 : a.tmps[128]?.getD undef = .bool false := hD 33 (by kernel_rfl)
              have g128 := guard_get h128
              clear hF hD
              have z := hk.cellS c6
              go_simp
              exact hK.out _ _ (Kp.refl _) rfl
            · intro a w' hk hF hD K hK
              have h129 : a.tmps[129]?.getD undef = .int .i64 s'.delivered := hD 34 (by kernel_rfl)
              have h131 : a.tmps[131]?.getD undef = .int .i64 s'.delivered := hD 36 (by kernel_rfl)
              have h128 : a.tmps[128]?.getD undef = .bool false := hD 33 (by kernel_rfl)
              have g128 := guard_get h128
              clear hF hD
              go_simp
              exact hK.out _ _ (Kp.refl _) rfl
            · intro a w' hk hF hD K hK
              have h128 : a.tmps[128]?.getD undef = .bool false := hD 33 (by kernel_rfl)
              have h132 : a.tmps[132]?.getD undef = .bool false := hD 37 (by kernel_rfl)
              clear hF hD
              go_simp
              exact hK.out _ _ (Kp.refl _) rfl
            · intro a w' hk hF hD K hK
              have h133 : a.tmps[133]?.getD undef = .bool false := hD 38 (by kernel_rfl)
              clear hF hD
              go_simp
              exact hK.out _ _ (Kp.refl _) rfl
            · intro a w' hk hF hD K hK
              have h24 : a.tmps[24]?.getD undef = .int .i64 s'.lost := hF 24 (by kernel_rfl)
              have h134 : a.tmps[134]?.getD undef = .bool false := hD 39 (by kernel_rfl)
              have g134 := guard_get h134
              clear hF hD
              go_simp
              exact hK.out _ _ (Kp.refl _) rfl
            · intro a w' hk hF hD K hK
              have h9 : a.tmps[9]?.getD undef = .pointer (some ⟨bs, 0, none⟩) := hF 9 (by kernel_rfl)
              have h134 : a.tmps[134]?.getD undef = .bool false := hD 39 (by kernel_rfl)
              have g134 := guard_get h134
              clear hF hD
              go_simp
              exact hK.out _ _ (Kp.refl _) rfl
            · intro a w' hk hF hD K hK
              have h136 : a.tmps[136]?.getD undef = .pointer (some ⟨bs, 7, none⟩) := hD 41 (by kernel_rfl)
              have h134 : a.tmps[134]?.getD undef = .bool false := hD 39 (by kernel_rfl)
              have g134 := guard_get h134
              clear hF hD
              have z := hk.cellS c7
              go_simp
              exact hK.out _ _ (Kp.refl _) rfl
            · intro a w' hk hF hD K hK
              have h135 : a.tmps[135]?.getD undef = .int .i64 s'.lost := hD 40 (by kernel_rfl)
              have h137 : a.tmps[137]?.getD undef = .int .i64 s'.lost := hD 42 (by kernel_rfl)
              have h134 : a.tmps[134]?.getD undef = .bool false := hD 39 (by kernel_rfl)
              have g134 := guard_get h134
              clear hF hD
              go_simp
              exact hK.out _ _ (Kp.refl _) rfl
            · intro a w' hk hF hD K hK
              have h134 : a.tmps[134]?.getD undef = .bool false := hD 39 (by kernel_rfl)
              have h138 : a.tmps[138]?.getD undef = .bool false := hD 43 (by kernel_rfl)
              clear hF hD
              go_simp
              exact hK.out _ _ (Kp.refl _) rfl
            · intro a w' hk hF hD K hK
              have h139 : a.tmps[139]?.getD undef = .bool false := hD 44 (by kernel_rfl)
              clear hF hD
              go_simp
              exact hK.out _ _ (Kp.refl _) rfl
            · intro a w' hk hF hD K hK
              have h7 : a.tmps[7]?.getD undef = .pointer (some ⟨nb, 0, none⟩) := hF 7 (by kernel_rfl)
              have h140 : a.tmps[140]?.getD undef = .bool false := hD 45 (by kernel_rfl)
              have g140 := guard_get h140
              clear hF hD
              go_simp
              exact hK.out _ _ (Kp.refl _) rfl
            · intro a w' hk hF hD K hK
              have h12 : a.tmps[12]?.getD undef = .pointer (some ⟨b2, 0, none⟩) := hF 12 (by kernel_rfl)
              have h140 : a.tmps[140]?.getD undef = .bool false := hD 45 (by kernel_rfl)
              have g140 := guard_get h140
              clear hF hD
              go_simp
              exact hK.out _ _ (Kp.refl _) rfl
            · intro a w' hk hF hD K hK
              have h142 : a.tmps[142]?.getD undef = .pointer (some ⟨b2, 2, none⟩) := hD 47 (by kernel_rfl)
              have h140 : a.tmps[140]?.getD undef = .bool false := hD 45 (by kernel_rfl)
              have g140 := guard_get h140
              clear hF hD
              have z := hk.cellS y2
              go_simp
              exact hK.out _ _ (Kp.refl _) rfl
            · intro a w' hk hF hD K hK
              have h12 : a.tmps[12]?.getD undef = .pointer (some ⟨b2, 0, none⟩) := hF 12 (by kernel_rfl)
              have h140 : a.tmps[140]?.getD undef = .bool false := hD 45 (by kernel_rfl)
              have g140 := guard_get h140
              clear hF hD
              go_simp
              exact hK.out _ _ (Kp.refl _) rfl
            · intro a w' hk hF hD K hK
              have h144 : a.tmps[144]?.getD undef = .pointer (some ⟨b2, 3, none⟩) := hD 49 (by kernel_rfl)
              have h140 : a.tmps[140]?.getD undef = .bool false := hD 45 (by kernel_rfl)
              have g140 := guard_get h140
              clear hF hD
              have z := hk.cellS y3
              go_simp
              exact hK.out _ _ (Kp.refl _) rfl
            · intro a w' hk hF hD K hK
              have h141 : a.tmps[141]?.getD undef = .pointer (some ⟨nb, 0, none⟩) := hD 46 (by kernel_rfl)
              have h143 : a.tmps[143]?.getD undef = .int .i64 xa := hD 48 (by kernel_rfl)
              have h145 : a.tmps[145]?.getD undef = .int .i64 xb := hD 50 (by kernel_rfl)
              have h140 : a.tmps[140]?.getD undef = .bool false := hD 45 (by kernel_rfl)
              have g140 := guard_get h140
              clear hF hD
              go_simp
              refine (nLinkedW (N11.kp hk) xa xb).mono ?_
              rintro e w12 ⟨rfl, hk9⟩
              rw [hl1.out]
              exact hK.out _ _ hk9 rfl
            · intro a w' hk hF hD K hK
              have h9 : a.tmps[9]?.getD undef = .pointer (some ⟨bs, 0, none⟩) := hF 9 (by kernel_rfl)
              have h140 : a.tmps[140]?.getD undef = .bool false := hD 45 (by kernel_rfl)
              have g140 := guard_get h140
              clear hF hD
              have z0 := hk.cellS c0
              have z1 := hk.cellS c1
              have z2 := hk.cellS c2
              have z3 := hk.cellS c3
              have z4 := hk.cellS c4
              have z5 := hk.cellS c5
              have z6 := hk.cellS c6
              have z7 := hk.cellS c7
              have z8 := hk.cellS c8
              go_simp
              exact hK.out _ _ (Kp.refl _) rfl
            · intro a w' hk hF hD K hK
              have h12 : a.tmps[12]?.getD undef = .pointer (some ⟨b2, 0, none⟩) := hF 12 (by kernel_rfl)
              have h140 : a.tmps[140]?.getD undef = .bool false := hD 45 (by kernel_rfl)
              have g140 := guard_get h140
              clear hF hD
              go_simp
              exact hK.out _ _ (Kp.refl _) rfl
            · intro a w' hk hF hD K hK
              have h148 : a.tmps[148]?.getD undef = .pointer (some ⟨b2, 2, none⟩) := hD 53 (by kernel_rfl)
              have h140 : a.tmps[140]?.getD undef = .bool false := hD 45 (by kernel_rfl)
              have g140 := guard_get h140
              clear hF hD
              have z := hk.cellS y2
              go_simp
              exact hK.out _ _ (Kp.refl _) rfl
            · intro a w' hk hF hD K hK
              have h12 : a.tmps[12]?.getD undef = .pointer (some ⟨b2, 0, none⟩) := hF 12 (by kernel_rfl)
              have h140 : a.tmps[140]?.getD undef = .bool false := hD 45 (by kernel_rfl)
              have g140 := guard_get h140
              clear hF hD
              go_simp
              exact hK.out _ _ (Kp.refl _) rfl
            · intro a w' hk hF hD K hK
              have h150 : a.tmps[150]?.getD undef = .pointer (some ⟨b2, 3, none⟩) := hD 55 (by kernel_rfl)
              have h140 : a.tmps[140]?.getD undef = .bool false := hD 45 (by kernel_rfl)
              have g140 := guard_get h140
              clear hF hD
              have z := hk.cellS y3
              go_simp
              exact hK.out _ _ (Kp.refl _) rfl
            · intro a w' hk hF hD K hK
              have h147 : a.tmps[147]?.getD undef = .agg [.int .i64 s'.reps, .int .i64 s'.tick, .slice Af' s'.fates.length cf', .slice Al' s'.flight.length cl', .slice Ac' s'.cuts.length cc', .int .i64 s'.sent, .int .i64 s'.delivered, .int .i64 s'.lost, .int .i64 s'.made].toArray := hD 52 (by kernel_rfl)
              have h149 : a.tmps[149]?.getD undef = .int .i64 xa := hD 54 (by kernel_rfl)
              have h151 : a.tmps[151]?.getD undef = .int .i64 xb := hD 56 (by kernel_rfl)
              have h140 : a.tmps[140]?.getD undef = .bool false := hD 45 (by kernel_rfl)
              have g140 := guard_get h140
              clear hF hD
              go_simp
              refine (qLinked_any _ s' xa xb _ ((X11.stv K11).kp hk)).mono ?_
              rintro e w12 ⟨rfl, hk9⟩
              rw [hl3.out]
              exact hK.out _ _ hk9 rfl
            · intro a w' hk hF hD K hK
              have h146 : a.tmps[146]?.getD undef = .bool lk := hD 51 (by kernel_rfl)
              have h152 : a.tmps[152]?.getD undef = .bool lk := hD 57 (by kernel_rfl)
              have h140 : a.tmps[140]?.getD undef = .bool false := hD 45 (by kernel_rfl)
              have g140 := guard_get h140
              clear hF hD
              go_simp
              exact hK.out _ _ (Kp.refl _) rfl
            · intro a w' hk hF hD K hK
              have h140 : a.tmps[140]?.getD undef = .bool false := hD 45 (by kernel_rfl)
              have h153 : a.tmps[153]?.getD undef = .bool false := hD 58 (by kernel_rfl)
              clear hF hD
              go_simp
              exact hK.out _ _ (Kp.refl _) rfl
            · intro a w' hk hF hD K hK
              have h154 : a.tmps[154]?.getD undef = .bool false := hD 59 (by kernel_rfl)
              clear hF hD
              go_simp
              exact hK.out _ _ (Kp.refl _) rfl
            · intro a w' hk hF hD K hK
              have h7 : a.tmps[7]?.getD undef = .pointer (some ⟨nb, 0, none⟩) := hF 7 (by kernel_rfl)
              have h155 : a.tmps[155]?.getD undef = .bool false := hD 60 (by kernel_rfl)
              have g155 := guard_get h155
              clear hF hD
              go_simp
              exact hK.out _ _ (Kp.refl _) rfl
            · intro a w' hk hF hD K hK
              have h12 : a.tmps[12]?.getD undef = .pointer (some ⟨b2, 0, none⟩) := hF 12 (by kernel_rfl)
              have h155 : a.tmps[155]?.getD undef = .bool false := hD 60 (by kernel_rfl)
              have g155 := guard_get h155
              clear hF hD
              go_simp
              exact hK.out _ _ (Kp.refl _) rfl
            · intro a w' hk hF hD K hK
              have h157 : a.tmps[157]?.getD undef = .pointer (some ⟨b2, 3, none⟩) := hD 62 (by kernel_rfl)
              have h155 : a.tmps[155]?.getD undef = .bool false := hD 60 (by kernel_rfl)
              have g155 := guard_get h155
              clear hF hD
              have z := hk.cellS y3
              go_simp
              exact hK.out _ _ (Kp.refl _) rfl
            · intro a w' hk hF hD K hK
              have h12 : a.tmps[12]?.getD undef = .pointer (some ⟨b2, 0, none⟩) := hF 12 (by kernel_rfl)
              have h155 : a.tmps[155]?.getD undef = .bool false := hD 60 (by kernel_rfl)
              have g155 := guard_get h155
              clear hF hD
              go_simp
              exact hK.out _ _ (Kp.refl _) rfl
            · intro a w' hk hF hD K hK
              have h159 : a.tmps[159]?.getD undef = .pointer (some ⟨b2, 2, none⟩) := hD 64 (by kernel_rfl)
              have h155 : a.tmps[155]?.getD undef = .bool false := hD 60 (by kernel_rfl)
              have g155 := guard_get h155
              clear hF hD
              have z := hk.cellS y2
              go_simp
              exact hK.out _ _ (Kp.refl _) rfl
            · intro a w' hk hF hD K hK
              have h156 : a.tmps[156]?.getD undef = .pointer (some ⟨nb, 0, none⟩) := hD 61 (by kernel_rfl)
              have h158 : a.tmps[158]?.getD undef = .int .i64 xb := hD 63 (by kernel_rfl)
              have h160 : a.tmps[160]?.getD undef = .int .i64 xa := hD 65 (by kernel_rfl)
              have h155 : a.tmps[155]?.getD undef = .bool false := hD 60 (by kernel_rfl)
              have g155 := guard_get h155
              clear hF hD
              go_simp
              refine (nLinkedW (N11.kp hk) xb xa).mono ?_
              rintro e w12 ⟨rfl, hk9⟩
              rw [hl2.out]
              exact hK.out _ _ hk9 rfl
            · intro a w' hk hF hD K hK
              have h7 : a.tmps[7]?.getD undef = .pointer (some ⟨nb, 0, none⟩) := hF 7 (by kernel_rfl)
              have h155 : a.tmps[155]?.getD undef = .bool false := hD 60 (by kernel_rfl)
              have g155 := guard_get h155
              clear hF hD
              go_simp
              exact hK.out _ _ (Kp.refl _) rfl
            · intro a w' hk hF hD K hK
              have h12 : a.tmps[12]?.getD undef = .pointer (some ⟨b2, 0, none⟩) := hF 12 (by kernel_rfl)
              have h155 : a.tmps[155]?.getD undef = .bool false := hD 60 (by kernel_rfl)
              have g155 := guard_get h155
              clear hF hD
              go_simp
              exact hK.out _ _ (Kp.refl _) rfl
            · intro a w' hk hF hD K hK
              have h163 : a.tmps[163]?.getD undef = .pointer (some ⟨b2, 2, none⟩) := hD 68 (by kernel_rfl)
              have h155 : a.tmps[155]?.getD undef = .bool false := hD 60 (by kernel_rfl)
              have g155 := guard_get h155
              clear hF hD
              have z := hk.cellS y2
              go_simp
              exact hK.out _ _ (Kp.refl _) rfl
            · intro a w' hk hF hD K hK
              have h12 : a.tmps[12]?.getD undef = .pointer (some ⟨b2, 0, none⟩) := hF 12 (by kernel_rfl)
              have h155 : a.tmps[155]?.getD undef = .bool false := hD 60 (by kernel_rfl)
              have g155 := guard_get h155
              clear hF hD
              go_simp
              exact hK.out _ _ (Kp.refl _) rfl
            · intro a w' hk hF hD K hK
              have h165 : a.tmps[165]?.getD undef = .pointer (some ⟨b2, 3, none⟩) := hD 70 (by kernel_rfl)
              have h155 : a.tmps[155]?.getD undef = .bool false := hD 60 (by kernel_rfl)
              have g155 := guard_get h155
              clear hF hD
              have z := hk.cellS y3
              go_simp
              exact hK.out _ _ (Kp.refl _) rfl
            · intro a w' hk hF hD K hK
              have h162 : a.tmps[162]?.getD undef = .pointer (some ⟨nb, 0, none⟩) := hD 67 (by kernel_rfl)
              have h164 : a.tmps[164]?.getD undef = .int .i64 xa := hD 69 (by kernel_rfl)
              have h166 : a.tmps[166]?.getD undef = .int .i64 xb := hD 71 (by kernel_rfl)
              have h155 : a.tmps[155]?.getD undef = .bool false := hD 60 (by kernel_rfl)
              have g155 := guard_get h155
              clear hF hD
              go_simp
              refine (nLinkedW (N11.kp hk) xa xb).mono ?_
              rintro e w12 ⟨rfl, hk9⟩
              rw [hl1.out]
              exact hK.out _ _ hk9 rfl
            · intro a w' hk hF hD K hK
              have h161 : a.tmps[161]?.getD undef = .bool lk := hD 66 (by kernel_rfl)
              have h167 : a.tmps[167]?.getD undef = .bool lk := hD 72 (by kernel_rfl)
              have h155 : a.tmps[155]?.getD undef = .bool false := hD 60 (by kernel_rfl)
              have g155 := guard_get h155
              clear hF hD
              go_simp
              exact hK.out _ _ (Kp.refl _) rfl
            · exact fun i0 hi0 => by simp at hi0
            intro v w9 k9 hv
            have v60 : v 60 = .bool false := hv 60 (by omega)
            have v73 : v 73 = .bool false := hv 73 (by omega)
            clear hv
            simp only [G2.growPut, G2.gSlot, List.getElem?_toArray, List.getElem?_cons_zero, List.getElem?_cons_succ, Option.bind_some, List.setIfInBounds_toArray, List.set_cons_zero, List.set_cons_succ, List.drop_succ_cons, List.drop_zero, v60, v73]
            have hz12 := k9.size
            have N12 := N11.kp k9
            have X12 := X11.kp k9
            have K12 := K11.trans k9
            have hB12 := hB11.kp k9 (by omega)
            clear N11 X11 K11 B11 hB11 M11 MO11 k9 y2 y3 c0 c1 c2 c3 c4 c5 c6 c7 c8
            go_wp2_with fail
            go_roundw
            case rel => exact ⟨k + 1, N', s', sent', arr ++ out, sv', _, Af', cf', Al', cl', Ac', cc', by omega, by go_num, N12, K12, hB12, X12.fit, hid fun i hi => ⟨hi.2, by
              rcases hi.1 with h | h
              · exact ⟨(HT6.out i h).2.1, (HT6.out i h).2.2⟩
              · exact ⟨by have := HBs6.out.2; omega, fun hq => by have := HQ6.out i hq; omega⟩⟩, hid ⟨HBs6.out.1, by omega⟩, HSM, HSD, hid (by have := HC2.out; have := HCl.out; omega)⟩
            case measure => simp [intOf]; omega
          · have hlk : ¬ (k : Int) < (l.length : Int) := by omega
            have KF := KW
            clear NW hB hX
            go_wp2
            go_ret
            exact ⟨rfl, KF⟩
    · rw [decide_eq_false h300]
      go_wp2
      go_ret
      exact ⟨rfl, k1⟩
end Go.Proofs.Ytmokpnkpfodppaa
