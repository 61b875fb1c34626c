
/-
The causal buffer in memory; its clock, readiness, a delivery: the walks.
-/
import Derived.Test.YtcddllaljgfjbaaStR
import Derived.Test.YtcddllaljgfjbaaDlQ
import Derived.Test.YtcddllaljgfjbaaMapD
import Derived.Test.YtcddllaljgfjbaaOwX
namespace Go.Proofs.Ytcddllaljgfjbaa
set_option linter.unusedSimpArgs false
set_option linter.unusedVariables false
open Go.RowKit

/-! names as keys -/
abbrev dtV (d : Dt) : Value := .agg #[.int .i64 d.1, .int .i64 d.2]
set_option maxRecDepth 100000 in
theorem eqDt2 (w : World) (n : Nat) (a b d e : Int) : (Op.equalIn (n + 2) 66 (.agg #[.int .i64 a, .int .i64 b]) (.agg #[.int .i64 d, .int .i64 e])).run Try.prog w = .ok (a == d && b == e) w := by
  have hu : Try.prog.underlying 66 = some (.struct (Try.prog.fieldsOf 66)) := by kernel_rfl
  have hf := run_equalIn_struct (P := Try.prog) w (n + 1) 66 #[.int .i64 a, .int .i64 b] #[.int .i64 d, .int .i64 e] hu (by kernel_rfl)
  have hfs : (Try.prog.fieldsOf 66).toList = (match Try.prog.underlying 66 with | some (.struct fs) => fs.toList | _ => []) := rfl
  rw [Try.underlying66] at hfs
  rw [hf, hfs]
  go_simp
  by_cases h1 : a = d
  · by_cases h2 : b = e <;> simp [h1, h2]
  · simp [h1]
theorem eqDt (w : World) (n : Nat) (x y : Dt) : (Op.equalIn (n + 2) 66 (dtV x) (dtV y)).run Try.prog w = .ok (decide (x = y)) w := by
  rw [eqDt2]
  obtain ⟨a, b⟩ := x
  obtain ⟨d, e⟩ := y
  congr 1
  rw [Bool.eq_iff_iff]
  simp
theorem eqDtO (w : World) (x y : Dt) : Sem.run Try.prog (Op.equal 66 (dtV x) (dtV y)) w = .ok (decide (x = y)) w := eqDt w 9998 x y
theorem sameNow_dt (k : Value) (w : World) (z : MapEntry) (x : Dt) : Instr.sameNow (.struct (Try.prog.fieldsOf 66)) (dtV x) k = none := rfl
theorem keyDt : KeyT dtV 66 where
  find := fun x w zs h => by
    have hu : Try.prog.underlying 66 = some (.struct (Try.prog.fieldsOf 66)) := by kernel_rfl
    have key : ∀ (zs : List (MapEntry × Dt × Value)) (i : Nat), (∀ z ∈ zs, z.1.key = dtV z.2.1 ∧ z.1.val = z.2.2) → Sem.run Try.prog (Instr.findAsking 66 (dtV x) (zs.map (·.1)) i) w = .ok (findL x (zs.map (·.2)) i) w := by
      intro zs
      induction zs with
      | nil => intro i _; simp [Instr.findAsking, findL]
      | cons z zs ih =>
        intro i h
        obtain ⟨h1, h2⟩ := h z (by simp)
        rw [List.map_cons, List.map_cons, Instr.findAsking, Sem.run_bind, h1, eqDtO, findL]
        simp only [Result.andThen_ok]
        by_cases hx : x = z.2.1
        · rw [if_pos hx]
          simp [hx, h2]
        · rw [if_neg hx]
          simp only [hx, decide_false, Bool.false_eq_true, if_false]
          exact ih (i + 1) fun y hy => h y (by simp [hy])
    rw [Instr.findKey, Sem.run_bind, run_underlying hu, Result.andThen_ok]
    have hk := key zs 0 h
    cases zs with
    | nil => simp [Instr.findNow, findL]
    | cons z zs =>
      rw [List.map_cons, Instr.findNow, sameNow_dt _ w z.1]
      exact hk
  ck := fun e x w => by cases e <;> kernel_rfl
  bits := fun x => by
    show Instr.sameBits (9999 + 1) _ _ = true
    simp [Instr.sameBits]
/-! the buffer -/
abbrev esV (x : EvS) : Value := .agg (encEs x).toArray
/-- the entries of the map -/
def entL (M : List EvS) : List (Dt × Value) := M.map fun x => (nameE x.e, esV x)
def dropM (e : Ev) (M : List EvS) : List EvS := M.filter fun x => !decide (nameE x.e = nameE e)
theorem entL_del (e : Ev) (M : List EvS) : delL (nameE e) (entL M) = entL (dropM e M) := by
  unfold delL entL dropM
  rw [List.filter_map]
  rfl
structure BfW (S : Nat → Prop) (base : Nat) (w : World) (b cb cc mb n : Nat) (c : List Int) (M : List EvS) : Prop where
  box : Bx w b [.slice (some ⟨cb, 0, none⟩) n cc, .map (some mb)]
  len : c.length = n
  clk : Own encInt 3 1 base w (.slice (some ⟨cb, 0, none⟩) n cc) c
  map : MapL dtV w mb (entL M)
  past : ∀ x ∈ M, Own encInt 3 1 base w x.v x.e.past ∧ ∀ q, x.v.ownBlock = some q → S q ∧ q ≠ b ∧ q ≠ cb ∧ q ≠ mb
  n1 : b ≠ cb
  n2 : b ≠ mb
  n3 : cb ≠ mb
  lb : base ≤ b
  lm : base ≤ mb
  sb : S b
  sc : S cb
  sm : S mb
section
variable {S X : Nat → Prop} {base : Nat} {w w' : World} {b cb cc mb n : Nat} {c : List Int} {M : List EvS}
theorem BfW.clkI (h : BfW S base w b cb cc mb n c M) : Ints w (.slice (some ⟨cb, 0, none⟩) n cc) c := h.clk.sl encInt_len
theorem BfW.blt (h : BfW S base w b cb cc mb n c M) : b < w.heap.size := h.box.lt (by simp)
theorem BfW.mlt (h : BfW S base w b cb cc mb n c M) : mb < w.heap.size := h.map.lt
theorem BfW.clt (h : BfW S base w b cb cc mb n c M) : cb < w.heap.size := (World.ownsRow.lt h.clk cb (by simp [Value.ownBlock])).2
/-- while other blocks change -/
theorem BfW.fx (h : BfW S base w b cb cc mb n c M) (k : Fx X w w') (hX : ∀ q, S q → ¬ X q) : BfW S base w' b cb cc mb n c M where
  box := h.box.fx k h.blt (hX _ h.sb)
  len := h.len
  clk := h.clk.fx k fun q hq => by
    obtain rfl : cb = q := by simpa [Value.ownBlock] using hq
    exact hX _ h.sc
  map := h.map.keep (k.block mb h.mlt (hX _ h.sm))
  past := fun x hx => ⟨(h.past x hx).1.fx k fun q hq => hX q ((h.past x hx).2 q hq).1, (h.past x hx).2⟩
  n1 := h.n1
  n2 := h.n2
  n3 := h.n3
  lb := h.lb
  lm := h.lm
  sb := h.sb
  sc := h.sc
  sm := h.sm
theorem BfW.kp (h : BfW S base w b cb cc mb n c M) (k : Kp w w') : BfW S base w' b cb cc mb n c M := h.fx (k.fx fun _ => False) fun _ _ h => h
theorem BfW.mono {S' : Nat → Prop} (h : BfW S base w b cb cc mb n c M) (hS : ∀ q, S q → S' q) : BfW S' base w b cb cc mb n c M :=
  ⟨h.box, h.len, h.clk, h.map, fun x hx => ⟨(h.past x hx).1, fun q hq => ⟨hS q ((h.past x hx).2 q hq).1, ((h.past x hx).2 q hq).2⟩⟩, h.n1, h.n2, h.n3, h.lb, h.lm, hS _ h.sb, hS _ h.sc, hS _ h.sm⟩
end
/-! Clock -/
set_option maxHeartbeats 1000000 in
theorem bClock_any {S : Nat → Prop} {base : Nat} {w : World} {b cb cc mb n : Nat} {c : List Int} {M : List EvS} (h : BfW S base w b cb cc mb n c M) (hn : n ≤ 1000000) :
    Calls Try.prog 22 #[.pointer (some ⟨b, 0, none⟩)] w fun e w' => ∃ v, e = .returned v ∧ Own encInt 3 1 w.heap.size w' v c ∧ Kp w w' := by
  have b0 := h.box.cell (j := 0) rfl
  have C1 := hid (CloneI_any _ c w h.clkI (by rw [h.len]; omega))
  have hbl := h.blt
  clear h
  go_enter Try.func22, Try.ntmps22
  go_wp2_with fail
  refine C1.out.mono ?_
  rintro e w1 ⟨v1, rfl, own1, k1⟩
  go_wp2
  go_ret
  exact ⟨_, rfl, own1, k1⟩
/-! ready -/
theorem miss_nil {c p : List Int} (hc : validC c = true) (hp : validC p = true) (hl : p.length = c.length) : (missC c p).length = 0 ↔ insideC p c = true := by
  unfold missC
  rw [if_pos (alike2_iff.2 ⟨hc, hp, hl⟩), insideC_iff]
  unfold missT
  rw [List.length_eq_zero_iff, List.flatMap_eq_nil_iff]
  constructor
  · intro h k hk
    have h1 := h k (List.mem_range.2 (by omega))
    unfold missG at h1
    split at h1
    · cases h1
    · omega
  · intro h k hk
    have h1 := h k (by have := List.mem_range.1 hk; omega)
    unfold missG
    rw [if_neg (by omega)]
theorem iEv {L : List Value} (h : L.length = 13) : (Try.prog.info? 33).map (·.size) = some L.length := by rw [h]; kernel_rfl
theorem iEv2 {L : List Value} (h : L.length = 13) : (Try.prog.info? 33).map (·.size) = some L.toArray.size := by rw [List.size_toArray, h]; kernel_rfl
set_option maxRecDepth 8000 in
set_option maxHeartbeats 4000000 in
theorem bReady_any {S : Nat → Prop} {base : Nat} {w : World} {b cb cc mb n : Nat} {c : List Int} {M : List EvS} (h : BfW S base w b cb cc mb n c M) (hv : validC c = true) (e : Ev) (v : Value) (f : FE e) (hl : e.past.length = c.length) (hp : Ints w v e.past) :
    Calls Try.prog 41 #[.pointer (some ⟨b, 0, none⟩), evV e v] w fun x w' => x = .returned (.bool (readyE c e)) ∧ Kp w w' := by
  have HR : Hid (readyE c e = (!hasC c (nameE e) && insideC e.past c)) := hid rfl
  have HM := miss_nil hv f.past hl
  obtain ⟨L, hL⟩ : ∃ L, L = evL e v := ⟨_, rfl⟩
  have lL : L.length = 13 := by rw [hL]; rfl
  have k0 := (Kp.refl w).alloc (.cells L.toArray 33)
  have hE := Bx.new w L.toArray 33
  have b0 := k0.cellS (h.box.cell (j := 0) rfl)
  have hbl := Nat.lt_of_lt_of_le h.blt k0.size
  have hS1 := h.clkI.keep (pl_stable _) k0
  have hp1 := hp.keep (pl_stable _) k0
  rw [show evV e v = .agg L.toArray by rw [hL]]
  have hlen := h.len
  subst hlen
  clear h hp
  replace hL := hid hL
  go_enter Try.func41, Try.ntmps41
  go_upto_region 1 with (fail)
  generalize w.alloc (.cells L.toArray 33) = w1 at *
  rw [List.toList_toArray] at hE
  have hel := hE.lt (by omega)
  obtain ⟨eb, heb⟩ : ∃ eb, eb = w.heap.size := ⟨_, rfl⟩
  rw [← heb] at hE hel ⊢
  replace heb := hid heb
  have e3 := hE.cell (j := 3) (u := v) (by rw [hL.out]; rfl)
  have HN : Hid (∀ W, Calls Try.prog 39 #[.agg L.toArray] W fun x w' => x = .returned (.agg #[.int .i64 e.r, .int .i64 e.n]) ∧ Kp W w') := hid fun W => by
    rw [hL.out]
    exact dName_any e v W
  have HH : Hid (∀ W, Kp w1 W → Calls Try.prog 28 #[.slice (some ⟨cb, 0, none⟩) c.length cc, .agg #[.int .i64 e.r, .int .i64 e.n]] W fun x w' => x = .returned (.bool (hasC c (nameE e))) ∧ Kp W w') := hid fun W k => cHas_any c e.r e.n _ W (hS1.keep (pl_stable _) k)
  obtain ⟨m, hm⟩ : ∃ m, m = (missC c e.past).length := ⟨_, rfl⟩
  have HMs : Hid (∀ W, Kp w1 W → Calls Try.prog 72 #[.slice (some ⟨cb, 0, none⟩) c.length cc, v] W fun x w' => ∃ A c', x = .returned (.slice A m c') ∧ Kp W w') := hid fun W k => (cMissing_any c e.past _ v W (hS1.keep (pl_stable _) k) (hp1.keep (pl_stable _) k)).mono fun x w' ⟨u, h1, h2, h3⟩ => by
    obtain ⟨A, c', h4, -, -⟩ := h2.form
    exact ⟨A, c', by rw [h1, h4, hm], h3⟩
  rw [← hm] at HM
  replace hm := hid hm
  have hrE := hE.range
  have HrE : Hid (∀ W, Kp w1 W → W.rangeAt eb 0 L) := hid fun W k => (hE.kp k hel).range
  generalize hasC c (nameE e) = hs at *
  generalize e.r = er at *
  generalize e.n = en at *
  cases hs with
  | true =>
    have HX : Hid (readyE c e = false) := hid (by rw [HR.out]; rfl)
    clear HM HR hrE
    refine G2.wp_region_growT Kp [] 19 24 (G2.pvL [G2.eqv (.pointer (some ⟨b, 0, none⟩)), G2.eqv (.pointer (some ⟨b, 0, none⟩)), G2.eqv (.pointer (some ⟨b, 0, none⟩)), G2.eqv (.slice (some ⟨cb, 0, none⟩) c.length cc), G2.eqv (.agg L.toArray), G2.eqv (.agg #[.int .i64 er, .int .i64 en]), G2.eqv (.bool true), G2.eqv (.bool false), G2.eqv (.bool false), G2.eqv (undef), G2.eqv (undef), G2.eqv (undef), G2.eqv (undef), G2.eqv (undef), G2.eqv (undef), G2.eqv (undef), G2.eqv (undef), G2.eqv (undef), G2.eqv (.bool false)]) (by kernel_rfl) (by kernel_rfl) rfl (fun x => Kp.refl x) (fun _ _ _ h k => h.trans k) (Kp.refl _).drew (by intro _ _ _ _ _ h; exact h) (G2.pvL_keep (G2.stabL_cons (G2.stab_eq _) (G2.stabL_cons (G2.stab_eq _) (G2.stabL_cons (G2.stab_eq _) (G2.stabL_cons (G2.stab_eq _) (G2.stabL_cons (G2.stab_eq _) (G2.stabL_cons (G2.stab_eq _) (G2.stabL_cons (G2.stab_eq _) (G2.stabL_cons (G2.stab_eq _) (G2.stabL_cons (G2.stab_eq _) (G2.stabL_cons (G2.stab_eq _) (G2.stabL_cons (G2.stab_eq _) (G2.stabL_cons (G2.stab_eq _) (G2.stabL_cons (G2.stab_eq _) (G2.stabL_cons (G2.stab_eq _) (G2.stabL_cons (G2.stab_eq _) (G2.stabL_cons (G2.stab_eq _) (G2.stabL_cons (G2.stab_eq _) (G2.stabL_cons (G2.stab_eq _) (G2.stabL_cons (G2.stab_eq _) (G2.stabL_nil))))))))))))))))))))) (G2.stepsT_cons 0 ?_ (G2.stepsT_cons 1 ?_ (G2.stepsT_cons 2 ?_ (G2.stepsT_cons 3 ?_ (G2.stepsT_cons 4 ?_ (G2.stepsT_cons 5 ?_ (G2.stepsT_cons 6 ?_ (G2.stepsT_cons 7 ?_ (G2.stepsT_cons 8 ?_ (G2.stepsT_cons 9 ?_ (G2.stepsT_cons 10 ?_ (G2.stepsT_cons 11 ?_ (G2.stepsT_cons 12 ?_ (G2.stepsT_cons 13 ?_ (G2.stepsT_cons 14 ?_ (G2.stepsT_cons 15 ?_ (G2.stepsT_cons 16 ?_ (G2.stepsT_cons 17 ?_ (G2.stepsT_cons 18 ?_ (G2.stepsT_nil _ _ _)))))))))))))))))))) ?_ ?_
    · intro a w' hk hF hD K hK
      have h0 : a.tmps[0]?.getD undef = .pointer (some ⟨b, 0, none⟩) := hF 0 (by kernel_rfl)
      clear hF hD
      go_simp
      exact hK.out _ _ (Kp.refl _) rfl
    · intro a w' hk hF hD K hK
      have h5 : a.tmps[5]?.getD undef = .pointer (some ⟨b, 0, none⟩) := hD 0 (by kernel_rfl)
      clear hF hD
      go_simp
      exact hK.out _ _ (Kp.refl _) rfl
    · intro a w' hk hF hD K hK
      have h6 : a.tmps[6]?.getD undef = .pointer (some ⟨b, 0, none⟩) := hD 1 (by kernel_rfl)
      clear hF hD
      go_simp
      exact hK.out _ _ (Kp.refl _) rfl
    · intro a w' hk hF hD K hK
      have h7 : a.tmps[7]?.getD undef = .pointer (some ⟨b, 0, none⟩) := hD 2 (by kernel_rfl)
      clear hF hD
      have z0 := hk.cellS b0
      go_simp
      exact hK.out _ _ (Kp.refl _) rfl
    · intro a w' hk hF hD K hK
      have h3 : a.tmps[3]?.getD undef = .pointer (some ⟨eb, 0, none⟩) := hF 3 (by kernel_rfl)
      clear hF hD
      rw [if_pos (by simp [Region.wanted])]
      refine wp_load_mid 33 (.tmp 3) rfl eb 0 ((eval_tmp _ _).trans h3) L _ (HrE.out _ hk) Try.underlying33 rfl (iEv lL) ?_
      exact hK.out _ _ (Kp.refl _) rfl
    · intro a w' hk hF hD K hK
      have h9 : a.tmps[9]?.getD undef = .agg L.toArray := hD 4 (by kernel_rfl)
      clear hF hD
      go_simp
      refine (HN.out _).mono ?_
      rintro e w9 ⟨rfl, k9⟩
      exact hK.out _ _ k9 rfl
    · intro a w' hk hF hD K hK
      have h8 : a.tmps[8]?.getD undef = .slice (some ⟨cb, 0, none⟩) c.length cc := hD 3 (by kernel_rfl)
      have h10 : a.tmps[10]?.getD undef = .agg #[.int .i64 er, .int .i64 en] := hD 5 (by kernel_rfl)
      clear hF hD
      go_simp
      refine (HH.out _ hk).mono ?_
      rintro e w9 ⟨rfl, k9⟩
      exact hK.out _ _ k9 rfl
    · intro a w' hk hF hD K hK
      have h11 : a.tmps[11]?.getD undef = .bool true := hD 6 (by kernel_rfl)
      clear hF hD
      go_simp
      exact hK.out _ _ (Kp.refl _) rfl
    · intro a w' hk hF hD K hK
      have h12 : a.tmps[12]?.getD undef = .bool false := hD 7 (by kernel_rfl)
      clear hF hD
      go_simp
      exact hK.out _ _ (Kp.refl _) rfl
    · intro a w' hk hF hD K hK
      have h0 : a.tmps[0]?.getD undef = .pointer (some ⟨b, 0, none⟩) := hF 0 (by kernel_rfl)
      have h13 : a.tmps[13]?.getD undef = .bool false := hD 8 (by kernel_rfl)
      have g13 := guard_get h13
      clear hF hD
      go_simp
      exact hK.out _ _ (Kp.refl _) rfl
    · intro a w' hk hF hD K hK
      have h14 : a.tmps[14]?.getD undef = undef := hD 9 (by kernel_rfl)
      have h13 : a.tmps[13]?.getD undef = .bool false := hD 8 (by kernel_rfl)
      have g13 := guard_get h13
      clear hF hD
      go_simp
      exact hK.out _ _ (Kp.refl _) rfl
    · intro a w' hk hF hD K hK
      have h15 : a.tmps[15]?.getD undef = undef := hD 10 (by kernel_rfl)
      have h13 : a.tmps[13]?.getD undef = .bool false := hD 8 (by kernel_rfl)
      have g13 := guard_get h13
      clear hF hD
      go_simp
      exact hK.out _ _ (Kp.refl _) rfl
    · intro a w' hk hF hD K hK
      have h16 : a.tmps[16]?.getD undef = undef := hD 11 (by kernel_rfl)
      have h13 : a.tmps[13]?.getD undef = .bool false := hD 8 (by kernel_rfl)
      have g13 := guard_get h13
      clear hF hD
      go_simp
      exact hK.out _ _ (Kp.refl _) rfl
    · intro a w' hk hF hD K hK
      have h3 : a.tmps[3]?.getD undef = .pointer (some ⟨eb, 0, none⟩) := hF 3 (by kernel_rfl)
      have h13 : a.tmps[13]?.getD undef = .bool false := hD 8 (by kernel_rfl)
      have g13 := guard_get h13
      clear hF hD
      go_simp
      exact hK.out _ _ (Kp.refl _) rfl
    · intro a w' hk hF hD K hK
      have h18 : a.tmps[18]?.getD undef = undef := hD 13 (by kernel_rfl)
      have h13 : a.tmps[13]?.getD undef = .bool false := hD 8 (by kernel_rfl)
      have g13 := guard_get h13
      clear hF hD
      go_simp
      exact hK.out _ _ (Kp.refl _) rfl
    · intro a w' hk hF hD K hK
      have h17 : a.tmps[17]?.getD undef = undef := hD 12 (by kernel_rfl)
      have h19 : a.tmps[19]?.getD undef = undef := hD 14 (by kernel_rfl)
      have h13 : a.tmps[13]?.getD undef = .bool false := hD 8 (by kernel_rfl)
      have g13 := guard_get h13
      clear hF hD
      go_simp
      exact hK.out _ _ (Kp.refl _) rfl
    · intro a w' hk hF hD K hK
      have h20 : a.tmps[20]?.getD undef = undef := hD 15 (by kernel_rfl)
      have h13 : a.tmps[13]?.getD undef = .bool false := hD 8 (by kernel_rfl)
      have g13 := guard_get h13
      clear hF hD
      go_simp
      exact hK.out _ _ (Kp.refl _) rfl
    · intro a w' hk hF hD K hK
      have h21 : a.tmps[21]?.getD undef = undef := hD 16 (by kernel_rfl)
      have h13 : a.tmps[13]?.getD undef = .bool false := hD 8 (by kernel_rfl)
      have g13 := guard_get h13
      clear hF hD
      go_simp
      exact hK.out _ _ (Kp.refl _) rfl
    · intro a w' hk hF hD K hK
      have h13 : a.tmps[13]?.getD undef = .bool false := hD 8 (by kernel_rfl)
      have h22 : a.tmps[22]?.getD undef = undef := hD 17 (by kernel_rfl)
      clear hF hD
      go_simp
      exact hK.out _ _ (Kp.refl _) rfl
    · exact fun i0 hi0 => by simp at hi0
    intro v w9 k9 hv
    have v18 : v 18 = .bool false := hv 18 (by omega)
    clear hv
    simp only [G2.growPut, G2.gSlot, List.getElem?_toArray, List.getElem?_cons_zero, List.getElem?_cons_succ, Option.bind_some, List.setIfInBounds_toArray, List.set_cons_zero, List.set_cons_succ, List.drop_succ_cons, List.drop_zero, v18]
    have kf := k0.trans k9
    clear b0 e3 HN HH HMs HrE
    go_wp2
    go_ret
    exact ⟨ret_bool HX.out.symm, kf⟩
  | false =>
    obtain ⟨bl, hbl2⟩ : ∃ bl, bl = insideC e.past c := ⟨_, rfl⟩
    have HX : Hid (readyE c e = bl) := hid (by rw [HR.out, hbl2]; rfl)
    have hm0 : ((m : Int) == 0) = bl := by
      rw [hbl2, Bool.eq_iff_iff, ← HM]
      simp
    have hm1 : (m == 0) = bl := by
      rw [hbl2, Bool.eq_iff_iff, ← HM]
      simp
    have hm2 : decide (m = 0) = bl := by
      rw [hbl2, Bool.eq_iff_iff, ← HM]
      simp
    replace hbl2 := hid hbl2
    clear HM HR hrE
    refine G2.wp_region_growT Kp [] 19 24 (G2.pvL [G2.eqv (.pointer (some ⟨b, 0, none⟩)), G2.eqv (.pointer (some ⟨b, 0, none⟩)), G2.eqv (.pointer (some ⟨b, 0, none⟩)), G2.eqv (.slice (some ⟨cb, 0, none⟩) c.length cc), G2.eqv (.agg L.toArray), G2.eqv (.agg #[.int .i64 er, .int .i64 en]), G2.eqv (.bool false), G2.eqv (.bool true), G2.eqv (.bool true), G2.eqv (.pointer (some ⟨b, 0, none⟩)), G2.eqv (.pointer (some ⟨b, 0, none⟩)), G2.eqv (.pointer (some ⟨b, 0, none⟩)), G2.eqv (.slice (some ⟨cb, 0, none⟩) c.length cc), G2.eqv (.pointer (some ⟨eb, 3, none⟩)), G2.eqv (v), (fun x _ => ∃ A c', x = .slice A m c'), G2.eqv (.int .i64 (m : Int)), G2.eqv (.bool bl), G2.eqv (.bool bl)]) (by kernel_rfl) (by kernel_rfl) rfl (fun x => Kp.refl x) (fun _ _ _ h k => h.trans k) (Kp.refl _).drew (by intro _ _ _ _ _ h; exact h) (G2.pvL_keep (G2.stabL_cons (G2.stab_eq _) (G2.stabL_cons (G2.stab_eq _) (G2.stabL_cons (G2.stab_eq _) (G2.stabL_cons (G2.stab_eq _) (G2.stabL_cons (G2.stab_eq _) (G2.stabL_cons (G2.stab_eq _) (G2.stabL_cons (G2.stab_eq _) (G2.stabL_cons (G2.stab_eq _) (G2.stabL_cons (G2.stab_eq _) (G2.stabL_cons (G2.stab_eq _) (G2.stabL_cons (G2.stab_eq _) (G2.stabL_cons (G2.stab_eq _) (G2.stabL_cons (G2.stab_eq _) (G2.stabL_cons (G2.stab_eq _) (G2.stabL_cons (G2.stab_eq _) (G2.stabL_cons (fun _ _ _ h _ => h) (G2.stabL_cons (G2.stab_eq _) (G2.stabL_cons (G2.stab_eq _) (G2.stabL_cons (G2.stab_eq _) (G2.stabL_nil))))))))))))))))))))) (G2.stepsT_cons 0 ?_ (G2.stepsT_cons 1 ?_ (G2.stepsT_cons 2 ?_ (G2.stepsT_cons 3 ?_ (G2.stepsT_cons 4 ?_ (G2.stepsT_cons 5 ?_ (G2.stepsT_cons 6 ?_ (G2.stepsT_cons 7 ?_ (G2.stepsT_cons 8 ?_ (G2.stepsT_cons 9 ?_ (G2.stepsT_cons 10 ?_ (G2.stepsT_cons 11 ?_ (G2.stepsT_cons 12 ?_ (G2.stepsT_cons 13 ?_ (G2.stepsT_cons 14 ?_ (G2.stepsT_cons 15 ?_ (G2.stepsT_cons 16 ?_ (G2.stepsT_cons 17 ?_ (G2.stepsT_cons 18 ?_ (G2.stepsT_nil _ _ _)))))))))))))))))))) ?_ ?_
    · intro a w' hk hF hD K hK
      have h0 : a.tmps[0]?.getD undef = .pointer (some ⟨b, 0, none⟩) := hF 0 (by kernel_rfl)
      clear hF hD
      go_simp
      exact hK.out _ _ (Kp.refl _) rfl
    · intro a w' hk hF hD K hK
      have h5 : a.tmps[5]?.getD undef = .pointer (some ⟨b, 0, none⟩) := hD 0 (by kernel_rfl)
      clear hF hD
      go_simp
      exact hK.out _ _ (Kp.refl _) rfl
    · intro a w' hk hF hD K hK
      have h6 : a.tmps[6]?.getD undef = .pointer (some ⟨b, 0, none⟩) := hD 1 (by kernel_rfl)
      clear hF hD
      go_simp
      exact hK.out _ _ (Kp.refl _) rfl
    · intro a w' hk hF hD K hK
      have h7 : a.tmps[7]?.getD undef = .pointer (some ⟨b, 0, none⟩) := hD 2 (by kernel_rfl)
      clear hF hD
      have z0 := hk.cellS b0
      go_simp
      exact hK.out _ _ (Kp.refl _) rfl
    · intro a w' hk hF hD K hK
      have h3 : a.tmps[3]?.getD undef = .pointer (some ⟨eb, 0, none⟩) := hF 3 (by kernel_rfl)
      clear hF hD
      rw [if_pos (by simp [Region.wanted])]
      refine wp_load_mid 33 (.tmp 3) rfl eb 0 ((eval_tmp _ _).trans h3) L _ (HrE.out _ hk) Try.underlying33 rfl (iEv lL) ?_
      exact hK.out _ _ (Kp.refl _) rfl
    · intro a w' hk hF hD K hK
      have h9 : a.tmps[9]?.getD undef = .agg L.toArray := hD 4 (by kernel_rfl)
      clear hF hD
      go_simp
      refine (HN.out _).mono ?_
      rintro e w9 ⟨rfl, k9⟩
      exact hK.out _ _ k9 rfl
    · intro a w' hk hF hD K hK
      have h8 : a.tmps[8]?.getD undef = .slice (some ⟨cb, 0, none⟩) c.length cc := hD 3 (by kernel_rfl)
      have h10 : a.tmps[10]?.getD undef = .agg #[.int .i64 er, .int .i64 en] := hD 5 (by kernel_rfl)
      clear hF hD
      go_simp
      refine (HH.out _ hk).mono ?_
      rintro e w9 ⟨rfl, k9⟩
      exact hK.out _ _ k9 rfl
    · intro a w' hk hF hD K hK
      have h11 : a.tmps[11]?.getD undef = .bool false := hD 6 (by kernel_rfl)
      clear hF hD
      go_simp
      exact hK.out _ _ (Kp.refl _) rfl
    · intro a w' hk hF hD K hK
      have h12 : a.tmps[12]?.getD undef = .bool true := hD 7 (by kernel_rfl)
      clear hF hD
      go_simp
      exact hK.out _ _ (Kp.refl _) rfl
    · intro a w' hk hF hD K hK
      have h0 : a.tmps[0]?.getD undef = .pointer (some ⟨b, 0, none⟩) := hF 0 (by kernel_rfl)
      have h13 : a.tmps[13]?.getD undef = .bool true := hD 8 (by kernel_rfl)
      have g13 := guard_get h13
      clear hF hD
      go_simp
      exact hK.out _ _ (Kp.refl _) rfl
    · intro a w' hk hF hD K hK
      have h14 : a.tmps[14]?.getD undef = .pointer (some ⟨b, 0, none⟩) := hD 9 (by kernel_rfl)
      have h13 : a.tmps[13]?.getD undef = .bool true := hD 8 (by kernel_rfl)
      have g13 := guard_get h13
      clear hF hD
      go_simp
      exact hK.out _ _ (Kp.refl _) rfl
    · intro a w' hk hF hD K hK
      have h15 : a.tmps[15]?.getD undef = .pointer (some ⟨b, 0, none⟩) := hD 10 (by kernel_rfl)
      have h13 : a.tmps[13]?.getD undef = .bool true := hD 8 (by kernel_rfl)
      have g13 := guard_get h13
      clear hF hD
      go_simp
      exact hK.out _ _ (Kp.refl _) rfl
    · intro a w' hk hF hD K hK
      have h16 : a.tmps[16]?.getD undef = .pointer (some ⟨b, 0, none⟩) := hD 11 (by kernel_rfl)
      have h13 : a.tmps[13]?.getD undef = .bool true := hD 8 (by kernel_rfl)
      have g13 := guard_get h13
      clear hF hD
      have z0 := hk.cellS b0
      go_simp
      exact hK.out _ _ (Kp.refl _) rfl
    · intro a w' hk hF hD K hK
      have h3 : a.tmps[3]?.getD undef = .pointer (some ⟨eb, 0, none⟩) := hF 3 (by kernel_rfl)
      have h13 : a.tmps[13]?.getD undef = .bool true := hD 8 (by kernel_rfl)
      have g13 := guard_get h13
      clear hF hD
      go_simp
      exact hK.out _ _ (Kp.refl _) rfl
    · intro a w' hk hF hD K hK
      have h18 : a.tmps[18]?.getD undef = .pointer (some ⟨eb, 3, none⟩) := hD 13 (by kernel_rfl)
      have h13 : a.tmps[13]?.getD undef = .bool true := hD 8 (by kernel_rfl)
      have g13 := guard_get h13
      clear hF hD
      have z0 := hk.cellS e3
      go_simp
      exact hK.out _ _ (Kp.refl _) rfl
    · intro a w' hk hF hD K hK
      have h17 : a.tmps[17]?.getD undef = .slice (some ⟨cb, 0, none⟩) c.length cc := hD 12 (by kernel_rfl)
      have h19 : a.tmps[19]?.getD undef = v := hD 14 (by kernel_rfl)
      have h13 : a.tmps[13]?.getD undef = .bool true := hD 8 (by kernel_rfl)
      have g13 := guard_get h13
      clear hF hD
      go_simp
      refine (HMs.out _ hk).mono ?_
      rintro e w9 ⟨A9, c9, rfl, k9⟩
      exact hK.out _ _ k9 ⟨A9, c9, rfl⟩
    · intro a w' hk hF hD K hK
      have h20 : (fun x _ => ∃ A c', x = .slice A m c') (a.tmps[20]?.getD undef) w' := hD 15 (by kernel_rfl)
      have h13 : a.tmps[13]?.getD undef = .bool true := hD 8 (by kernel_rfl)
      have g13 := guard_get h13
      clear hF hD
      obtain ⟨A9, c9, h20⟩ := h20
      go_simp
      exact hK.out _ _ (Kp.refl _) rfl
    · intro a w' hk hF hD K hK
      have h21 : a.tmps[21]?.getD undef = .int .i64 (m : Int) := hD 16 (by kernel_rfl)
      have h13 : a.tmps[13]?.getD undef = .bool true := hD 8 (by kernel_rfl)
      have g13 := guard_get h13
      clear hF hD
      have q1 := hm0
      have q2 := hm1
      have q3 := hm2
      go_simp
      exact hK.out _ _ (Kp.refl _) rfl
    · intro a w' hk hF hD K hK
      have h13 : a.tmps[13]?.getD undef = .bool true := hD 8 (by kernel_rfl)
      have h22 : a.tmps[22]?.getD undef = .bool bl := hD 17 (by kernel_rfl)
      clear hF hD
      go_simp
      exact hK.out _ _ (Kp.refl _) rfl
    · exact fun i0 hi0 => by simp at hi0
    intro v w9 k9 hv
    have v18 : v 18 = .bool bl := hv 18 (by omega)
    clear hv
    simp only [G2.growPut, G2.gSlot, List.getElem?_toArray, List.getElem?_cons_zero, List.getElem?_cons_succ, Option.bind_some, List.setIfInBounds_toArray, List.set_cons_zero, List.set_cons_succ, List.drop_succ_cons, List.drop_zero, v18]
    have kf := k0.trans k9
    clear b0 e3 HN HH HMs HrE hm0 hm1 hm2
    go_wp2
    go_ret
    exact ⟨ret_bool HX.out.symm, kf⟩
end Go.Proofs.Ytcddllaljgfjbaa
