
/-
Graphs: Cycles, Cycle: the walks.
-/
import Derived.Test.YtlkabhjkncklnaaDgI
import Derived.Test.YtlkabhjkncklnaaDgQ
namespace Go.Proofs.Ytlkabhjkncklnaa
set_option linter.unusedSimpArgs false
set_option linter.unusedVariables false
open Go.RowKit
attribute [local go_sem] Oper.semAt_some

theorem flatMap_len {α β : Type} (f : α → List β) (B : Nat) : ∀ l : List α, (∀ x ∈ l, (f x).length ≤ B) → (l.flatMap f).length ≤ l.length * B
  | [], _ => by simp
  | x :: l, h => by
    have h1 := h x (by simp)
    have h2 := flatMap_len f B l fun y hy => h y (by simp [hy])
    rw [List.flatMap_cons, List.length_append, List.length_cons, Nat.add_mul, Nat.one_mul]
    omega
theorem visitF_len {n : Nat} (h6 : n ≤ 6) (es : List Bool) : ∀ (f : Nat) (l : List Nat), (visitF n es f l).length ≤ 7 ^ f
  | 0, l => by simp [visitF]
  | f + 1, l => by
    have h1 := flatMap_len (brF n es f l) (7 ^ f) (List.range n) fun b _ => by
      unfold brF
      split
      · exact visitF_len h6 es f _
      · simp
    rw [List.length_range] at h1
    have h2 : n * 7 ^ f ≤ 6 * 7 ^ f := Nat.mul_le_mul_right _ h6
    have h3 : 0 < 7 ^ f := Nat.pow_pos (by omega)
    rw [visitF_succ, List.length_append, Nat.pow_succ]
    unfold accF
    have h4 : (if hasE n es (l.getLastD 0) (l.headD 0) = true then [l] else []).length ≤ 1 := by split <;> simp
    omega
theorem allC_len {n : Nat} (h6 : n ≤ 6) (es : List Bool) : (allC n es n).length ≤ 705894 := by
  have h1 := flatMap_len (fun a => visitF n es n [a]) (7 ^ n) (List.range n) fun a _ => visitF_len h6 es n _
  rw [List.length_range] at h1
  have h2 : 7 ^ n ≤ 7 ^ 6 := Nat.pow_le_pow_right (by omega) h6
  have h3 : n * 7 ^ n ≤ 6 * 7 ^ 6 := Nat.mul_le_mul h6 h2
  unfold allC
  omega
section
variable {F : Fence} {n : Nat} {P : Program} {ops : Array Oper} {rest : List Oper} {o : Oper} {a : Act} {Q : Exit → Act → World → Prop} {w : World} {α : Type} {enc : α → List Value} {e size bytes base t : Nat} {v : Value} {l : List α}
theorem wplIn_append_flat (hgd : o.guard = none) (s x : Operand)
    (ho : o.op = .call { callee := .builtin .append, args := #[s, x], argTypes := #[t, t] }) (hT : SliceT P t e size bytes) (he : ∀ x, (enc x).length = size) (h1 : ∀ x, ∀ u ∈ enc x, u.oneCell' = true)
    (hs : a.eval s = v) (hown : Own enc e size base w v l)
    {v2 : Value} {m : List α} (hx : a.eval x = v2) (hsrc : Sl (Pl enc) size w v2 m) (hlen : l.length + m.length ≤ 4611686018427387904) (hby : (l.length + m.length) * bytes ≤ 140737488355328) (hbase : base ≤ w.heap.size)
    (h : ∀ v' w', Own enc e size base w' v' (l ++ m) → w.grownBy w' v.ownBlock → (v'.ownBlock = v.ownBlock ∨ v'.ownBlock = some w.heap.size) → (v' = .slice none 0 0 ↔ v = .slice none 0 0 ∧ m.length = 0) → wpListIn F n P ops Q rest (a.put o.dst v') w') : wpListIn F n P ops Q (o :: rest) a w := by
  refine wpListIn_plain hgd fun K hK => ?_
  obtain ⟨v', w', hr, h2, h3, h4, h5⟩ := run_append_flat hT he h1 o.type hown hsrc hlen hby hbase
  unfold Oper.wpIn
  refine ⟨?_, ?_⟩
  · simp [Oper.about, ho, resolve, Target.leads, Sem.run_pure]
  · rw [Oper.semAt_plain F _ _ (by rw [ho]; intro c hc'; cases hc')]
    unfold execOp
    simp only [ho, resolve, invoke, builtin, Sem.run_bind, Sem.run_pure, Result.andThen_ok, List.map_toArray, List.map_cons, List.map_nil, hs, hx, hr]
    exact hK _ _ (h v' w' h2 h3 h4 h5)
end
/-- what Cycles returns -/
def CycP (s : Int) (es : List Bool) (L : List (List Nat)) : Prop := (openB s es.length = false → L = []) ∧ (openB s es.length = true → L.Perm (allC s.toNat es s.toNat) ∧ L.Pairwise (fun a b => ¬ ltLL (castL b) (castL a)))
set_option maxRecDepth 100000 in
set_option maxHeartbeats 8000000 in
theorem dCycles_any (s : Int) (v : Value) (es : List Bool) (w : World) (hes : Bools w v es) : Calls Try.prog 24 #[.int .i64 s, v] w fun e w' => ∃ v' css L, e = .returned v' ∧ CycP s es L ∧ NL rdL 28 1 (fun q => w.heap.size ≤ q) w' v' css L ∧ Kp w w' := by
  obtain ⟨A, c, rfl, hc, hm⟩ := hes.form
  have HES := hid hes
  clear hes
  refine (callsIn_wide (n := 5)).1 ?_
  refine callsIn_of_wp_marks Try.func24 rfl trivial ?_ rfl
  simp only [Try.ntmps24, List.size_toArray, List.length_cons, List.length_nil, Nat.reduceAdd, Nat.reduceSub, Array.replicate_succ, Array.replicate_zero, List.push_toArray, List.append_toArray, List.nil_append, List.cons_append]
  refine wpIn_wide.2 ?_
  go_wp2_with fail
  refine (dOpen_any s A es.length c _ (by omega)).mono ?_
  rintro e w1 ⟨rfl, k1⟩
  have k2 := k1.alloc (.cells #[.int .i64 s, .slice A es.length c] 51)
  have hA := Bx.new w1 #[.int .i64 s, .slice A es.length c] 51
  have la := alloc_lt w1 (.cells #[.int .i64 s, .slice A es.length c] 51)
  have h1w := k1.size
  go_upto_region 2 with (fail)
  generalize hw2 : w1.alloc (.cells #[.int .i64 s, .slice A es.length c] 51) = w2 at *
  generalize hb0 : w1.heap.size = b0 at *
  clear hw2 k1
  cases ho : openB s es.length with
  | false =>
    have HF := hid ho
    replace ho := hid ho
    go_wp2
    exact ⟨_, results_tmp rfl _ _ _, _, [], [], rfl, ⟨fun _ => rfl, fun h => by rw [HF.out] at h; cases h⟩, NL.nil _ _ _ _ _, k2⟩
  | true =>
    have HO := hid ho
    obtain ⟨n, rfl, h1, h6, hl⟩ := openB_iff ho
    replace ho := hid ho
    have HG : Hid (GrV w (.agg #[.int .i64 (n : Int), .slice A es.length c]) n es) := hid ⟨_, rfl, HES.out, hl, h1, h6⟩
    replace hl := hid hl
    have HAL := hid (allC_len h6 es)
    go_upto_region 5 with (fail)
    have B2 := Bx.new w2 #[.slice none 0 0] 35
    have k3 := k2.alloc (.cells #[.slice none 0 0] 35)
    have hA3 := hA.kp ((Kp.refl w2).alloc (.cells #[.slice none 0 0] 35)) la
    have z3 := World.size_alloc w2 (.cells #[.slice none 0 0] 35)
    generalize w2.alloc (.cells #[.slice none 0 0] 35) = w3 at *
    have hbo := k2.size
    generalize w2.heap.size = bo at *
    have c1 := hA3.cell (j := 0) rfl
    have c2 := hA3.cell (j := 1) rfl
    go_wp2
    clear c1 c2 hA la h1w
    have hb2 := B2.lt (by simp)
    refine (wpIn_wide (n := 5)).1 ?_
    refine wpIn_rangeC (n := n) (es := es) (vg := (.agg #[.int .i64 (n : Int), .slice A es.length c])) (bn := bo) (Wz := w) rfl HG.out k3 hbo hb2 (fun q ⟨u, h1, h2⟩ => by rw [B2.cell (j := 0) rfl] at h1; cases h1; cases h2)
      (fun pre W => Kp w W ∧ ∃ vo css, Bx W bo [vo] ∧ NL rdL 28 1 (fun q => w3.heap.size + 2 ≤ q) W vo css pre) (fun _ => False) ?hI (fun _ _ _ _ h _ => h.elim) ?hIX ⟨k3, _, [], B2, NL.nil _ _ _ _ _⟩
      (fun v => { tmps := #[.int .i64 (n : Int), .slice A es.length c, undef, undef, .slice none 0 0, .pointer (some ⟨b0, 0, none⟩), .bool true, .pointer (some ⟨bo, 0, none⟩), v, .tuple #[(.agg #[.int .i64 (n : Int), .slice A es.length c]), .bool true], .int .i64 (n : Int), .slice A es.length c, .tuple #[(.agg #[.int .i64 (n : Int), .slice A es.length c]), .bool true], (.agg #[.int .i64 (n : Int), .slice A es.length c]), .bool true, .bool true, .bool false, (.agg #[.int .i64 (n : Int), .slice A es.length c]), .func (.func 43) #[(.agg #[.int .i64 (n : Int), .slice A es.length c])] #[], v, undef, undef, undef, undef, undef, undef, undef], defers := [] })
      ?assign ?body ?done (fun _ _ _ h => h.elim)
    case hI =>
      rintro l pre X Y hl ⟨i1, vo, css, i2, i3⟩ hk
      exact ⟨Kg.to_kp i1 hk (by have := k3.size; omega), vo, css, i2.keep (hk.block bo (i2.lt (by simp)) (by simp; omega)), i3.kg hk (by omega)⟩
    case hIX =>
      rintro pre X ⟨i1, vo, css, i2, i3⟩ q ⟨u, h1, h2⟩
      rw [i2.cell (j := 0) rfl] at h1
      injection h1 with h1
      subst h1
      have := i3.blk q h2
      exact ⟨by omega, by omega⟩
    case assign =>
      intro l m v W K hK
      gi_wp2
      exact hK
    case body =>
      rintro l m pre x v W0 W hl hl0 ⟨i1, vo, css, i2, i3⟩ hk hv ⟨rest, hall⟩
      have hpl : pre.length ≤ 705894 := by
        have := HAL.out
        rw [hall] at this
        simp at this
        omega
      have hcl : css.length = pre.length := i3.len
      have hlt0 : ∀ q, vo.ownBlock = some q → q < W0.heap.size := i3.own.blk_lt
      have hW0 := hk.size
      have i4 := i2.keep (hk.block bo (i2.lt (by simp)) (by simp; omega))
      have i5 := Kg.to_kp i1 hk (by have := k3.size; omega)
      have i6 := i3.kg hk (by omega)
      have hv0 := hv.owS
      have hvge := hv.ge
      have hvlt := hv.blk_lt
      obtain ⟨Av, cv, ev, -, -⟩ := hv.form
      rw [castL_len] at ev
      obtain ⟨Ao, co, eo, -, -⟩ := i6.form
      have hvone : v.oneCell' = true := by rw [ev]; rfl
      subst ev eo
      have HALL := hid hall
      have d0 := i4.cell (j := 0) rfl
      have kA := (Kp.refl W).alloc (.cells #[.slice Av x.length cv] 28)
      have zA := World.size_alloc W (.cells #[.slice Av x.length cv] 28)
      have hbW := i4.lt (by simp)
      have nlA := i6.kp kA
      have HXOF : Hid (∀ q, (Value.slice Ao pre.length co).ownBlock = some q → Xof bo W q) := hid fun q hq => ⟨_, d0, hq⟩
      have B6 := i4.kp kA hbW
      have hS0 : w3.heap.size + 2 ≤ W0.heap.size := by omega
      have HV0 := hid (hv0.kp kA)
      have hoblk := nlA.blk
      clear i1 i2 i3 hv hv0 hall HG
      gi_wp2_with (gi_at_builtin; refine wplIn_append_flat (base := 0) rfl (.tmp 20) (.tmp 22) rfl stIntsM encC_len encC_one rfl nlA.own rfl (Sl.one (R := Pl encC) W [.slice Av x.length cv] 28 1 (⟨[.slice Av x.length cv], rfl, by simp [Value.oneCell']⟩ : Elm 1) rfl rfl) (by rw [hcl]; simp; omega) (by rw [hcl]; simp; omega) (Nat.zero_le _) ?_; intro v9 w9 own9 hgr hat hnil; have B9 := B6.grown hgr (fun e => by have := hoblk bo e; omega) (by omega); have c9 := B9.cell (j := 0) rfl; have f9 := B9.free (j := 0) (by simp); obtain ⟨A9, n9, e9, -, -⟩ := own9.form; rw [List.length_append, List.length_singleton, hcl] at e9; subst e9)
      have hgr9 : (W.alloc (.cells #[.slice Av x.length cv] 28)).grownBy w9 (Value.slice Ao pre.length co).ownBlock := hgr
      have hat9 : (Value.slice A9 (pre.length + 1) n9).ownBlock = (Value.slice Ao pre.length co).ownBlock ∨ (Value.slice A9 (pre.length + 1) n9).ownBlock = some (W.alloc (.cells #[.slice Av x.length cv] 28)).heap.size := hat
      have hlt9 := own9.blk_lt
      have nl9 := nlA.snoc (S' := fun q => w3.heap.size + 2 ≤ q) (x := x) own9 hgr9 hat9 (fun q => (Value.slice Av x.length cv).ownBlock = some q) (fun q hq => ⟨by have := hvge q hq; show _ ≤ q; omega, fun e => by have h1 := hvge q hq; have h2 := hlt0 q e; omega, by have := hvlt q hq; omega⟩) (HV0.out.imp fun w' h => ⟨_, rfl, h.sl encInt_len⟩) (fun _ h => h) (by show _ ≤ _; omega)
      have kS : Kg w9 (w9.setCell ⟨bo, 0, none⟩ (.slice A9 (pre.length + 1) n9)) bo := (Kg.refl w9 bo).set (p := ⟨bo, 0, none⟩) (.inl rfl) _
      have BS := B9.set (j := 0) (by simp) (.slice A9 (pre.length + 1) n9)
      rw [List.set_cons_zero] at BS
      have kp9 : Kp w w9 := (i5.trans kA).grown hgr9 fun q hq => by have := hoblk q hq; have := k3.size; omega
      have zS := set_size w9 ⟨bo, 0, none⟩ (.slice A9 (pre.length + 1) n9)
      have z9 := hgr9.size
      refine ⟨⟨hgr9.os, hgr9.tape, hgr9.output, by rw [zS]; omega, fun k hk h1 _ h3 => ?_, fun q ⟨u, h1, h2⟩ => ?_⟩, kp9.set (p := ⟨bo, 0, none⟩) hbo _, _, BS, _, (nl9.kg kS (by omega)).mono fun q h => by have h' : w3.heap.size + 2 ≤ q := h; show bo + 1 + 2 ≤ q; omega⟩
      · rw [set_block w9 ⟨bo, 0, none⟩ _ k h1, hgr9.block k (by omega) (fun e => h3 (HXOF.out k e.symm))]
        exact kA.block hk
      · rw [BS.cell (j := 0) rfl] at h1
        injection h1 with h1
        subst h1
        rcases hat9 with h3 | h3
        · exact .inl (HXOF.out q (h3 ▸ h2))
        · have h4 := hlt9 q h2
          rw [h3] at h2
          injection h2 with h2
          exact .inr ⟨by omega, by rw [zS]; exact h4⟩
    case done =>
      rintro D W hD ⟨i1, vo, css, i2, i3⟩ hK
      have HD := hid hD
      have c0 := i2.cell (j := 0) rfl
      have hal : (allC n es n).length ≤ 705894 := HAL.out
      have hgl : ∀ q, vo.ownBlock = some q → w3.heap.size + 2 ≤ q := i3.blk
      have hbW := i2.lt (by simp)
      go_wp2_with fail
      refine (dSort_any i3 (by omega)).mono ?_
      rintro e W5 ⟨rfl, css', L, nl5, hperm, hpw, hgr⟩
      have B5 := i2.grown hgr (fun e => by have := hgl bo e; omega) hbW
      have c5 := B5.cell (j := 0) rfl
      have hK5 : W5.heap[D]? = some (.deferred (some [])) := (hgr.block D (Array.getElem?_eq_some_iff.1 hK).1 (fun e => by have := hgl D e.symm; omega)).trans hK
      have k5 : Kp w W5 := i1.grown hgr fun q hq => by have := hgl q hq; have := k3.size; omega
      clear c0 i2 i3 hgr hD
      go_wp2
      have hD := HD.out
      refine ⟨by simp, .inl ⟨_, _, rfl, run_takeDeferred hK5, ?_⟩⟩
      exact ⟨_, results_tmp rfl _ _ _, _, css', L, rfl, ⟨fun h => (by rw [HO.out] at h; cases h), fun _ => ⟨hperm, hpw⟩⟩, (nl5.kg (Kg.putObj W5 D _) (by omega)).mono (fun q h => by have h' : w3.heap.size + 2 ≤ q := h; have := k3.size; show w.heap.size ≤ q; omega), Kg.to_kp k5 (Kg.putObj W5 D _) (by have := k3.size; omega)⟩
set_option maxHeartbeats 1600000 in
theorem dCycle_any (s : Int) (v : Value) (es : List Bool) (w : World) (hes : Bools w v es) : Calls Try.prog 21 #[.int .i64 s, v] w fun e w' => ∃ v' L, e = .returned v' ∧ CycP s es L ∧ Ints w' v' (castL (L.headD [])) ∧ Kp w w' := by
  have HCY : Hid (∀ w0, w0 = w → Calls Try.prog 24 #[.int .i64 s, v] w0 fun e w' => ∃ v' css L, e = .returned v' ∧ CycP s es L ∧ NL rdL 28 1 (fun q => w0.heap.size ≤ q) w' v' css L ∧ Kp w0 w') := hid fun w0 e => by subst e; exact dCycles_any s v es w0 hes
  go_enter Try.func21, Try.ntmps21
  go_wp2_with fail
  refine (HCY.out _ rfl).mono ?_
  rintro e w1 ⟨v1, css, L, rfl, hP, nl, k1⟩
  have hsl := nl.sl
  obtain ⟨A1, c1, rfl, hlc, hcm⟩ := nl.form
  cases L with
  | nil =>
    go_wp2
    go_ret
    exact ⟨_, [], rfl, hP, Sl.nil _ _ _, k1⟩
  | cons x L =>
    obtain ⟨b, o, v, rfl, hb, i0, hv⟩ := hsl.rdL (k := 0) (by simp)
    generalize hll : (x :: L).length = m at *
    have hmp0 : (x :: L).length = L.length + 1 := rfl
    have hmp : (0 : Int) < (m : Int) := by omega
    have hmp2 : 0 < m := by rw [← hll]; simp
    have hm0 : ((m : Int) == 0) = false := beq_false_of_ne (by omega)
    have hm1 : (m == 0) = false := beq_false_of_ne (by omega)
    rw [Nat.add_zero] at i0
    obtain ⟨A2, c2, rfl, -, -⟩ := hv.form
    have HV := hid hv
    have HP := hid hP
    generalize (castL ((x :: L)[0]'(by simp))).length = lx at *
    clear hll hv hP nl hsl
    go_wp2
    go_ret
    exact ⟨_, x :: L, rfl, HP.out, HV.out, k1⟩
end Go.Proofs.Ytlkabhjkncklnaa
