
/-
Needs in memory: rights as keys of maps; valid needs and priorities: the walks.
-/
import Derived.Test.YtbcekihjcgnhkaaBkA
namespace Go.Proofs.Ytbcekihjcgnhkaa
set_option linter.unusedSimpArgs false
set_option linter.unusedVariables false
open Go.RowKit

abbrev rtV (r : Rt) : Value := .agg #[.int .i64 r.1, .int .i64 r.2.1, .int .i64 r.2.2]
def encNd (x : Nd) : List Value := [.int .i64 x.1.1, .int .i64 x.1.2.1, .int .i64 x.1.2.2, .int .i64 x.2]
theorem encNd_len (x : Nd) : (encNd x).length = 4 := rfl
theorem encNd_one (x : Nd) : ∀ u ∈ encNd x, u.oneCell' = true := by simp [encNd, Value.oneCell']
abbrev Nds := Sl (Pl encNd) 4
abbrev ndV (x : Nd) : Value := .agg #[.int .i64 x.1.1, .int .i64 x.1.2.1, .int .i64 x.1.2.2, .int .i64 x.2]
theorem Sl.nd {w : World} {A : Option Addr} {n c : Nat} {l : List Nd} (h : Nds w (.slice A n c) l) {k : Nat} (hk : k < l.length) :
    ∃ b o, A = some ⟨b, o, none⟩ ∧ b < w.heap.size ∧ w.cell? ⟨b, o + k * 4, none⟩ = some (.int .i64 l[k].1.1) ∧ w.cell? ⟨b, o + k * 4 + 1, none⟩ = some (.int .i64 l[k].1.2.1) ∧
      w.cell? ⟨b, o + k * 4 + 2, none⟩ = some (.int .i64 l[k].1.2.2) ∧ w.cell? ⟨b, o + k * 4 + 3, none⟩ = some (.int .i64 l[k].2) := by
  obtain ⟨b, o, cs, hA, had, hcs, hc, hr⟩ := h.at_ hk
  unfold Pl encNd at hr
  subst hr
  exact ⟨b, o, hA, had, by simpa using hc 0 _ rfl, hc 1 _ rfl, hc 2 _ rfl, hc 3 _ rfl⟩
theorem slnd : SliceT Try.prog 27 41 4 32 := SliceT.mk' Try.underlying27 (z := .agg #[.int .i64 0, .int .i64 0, .int .i64 0, .int .i64 0]) (by kernel_rfl) rfl (by omega)
/-! equality -/
set_option maxRecDepth 100000 in
theorem eqRt3 (w : World) (n : Nat) (a b c d e f : Int) : (Op.equalIn (n + 2) 39 (.agg #[.int .i64 a, .int .i64 b, .int .i64 c]) (.agg #[.int .i64 d, .int .i64 e, .int .i64 f])).run Try.prog w = .ok (a == d && b == e && c == f) w := by
  have hu : Try.prog.underlying 39 = some (.struct (Try.prog.fieldsOf 39)) := by kernel_rfl
  have hf := run_equalIn_struct (P := Try.prog) w (n + 1) 39 #[.int .i64 a, .int .i64 b, .int .i64 c] #[.int .i64 d, .int .i64 e, .int .i64 f] hu (by kernel_rfl)
  have hfs : (Try.prog.fieldsOf 39).toList = (match Try.prog.underlying 39 with | some (.struct fs) => fs.toList | _ => []) := rfl
  rw [Try.underlying39] at hfs
  rw [hf, hfs]
  go_simp
  by_cases h1 : a = d
  · by_cases h2 : b = e
    · by_cases h3 : c = f <;> simp [h1, h2, h3]
    · simp [h1, h2]
  · simp [h1]
theorem eqRt (w : World) (n : Nat) (x y : Rt) : (Op.equalIn (n + 2) 39 (rtV x) (rtV y)).run Try.prog w = .ok (decide (x = y)) w := by
  rw [eqRt3]
  obtain ⟨a, b, c⟩ := x
  obtain ⟨d, e, f⟩ := y
  congr 1
  rw [Bool.eq_iff_iff]
  simp [and_assoc]
theorem eqRtO (w : World) (x y : Rt) : Sem.run Try.prog (Op.equal 39 (rtV x) (rtV y)) w = .ok (decide (x = y)) w := eqRt w 9998 x y
theorem run_eql_rt (w : World) (x y : Rt) : (binOp .eql 39 (rtV x) (rtV y)).run Try.prog w = .ok (.bool (decide (x = y))) w := by
  simp only [binOp, Sem.run_bind, eqRtO, Result.andThen_ok, Sem.run_pure]
set_option maxRecDepth 100000 in
theorem eqPr4 (w : World) (n : Nat) (a b c d a' b' c' d' : Int) : (Op.equalIn (n + 2) 23 (.agg #[.int .i64 a, .int .i64 b, .int .i64 c, .int .i64 d]) (.agg #[.int .i64 a', .int .i64 b', .int .i64 c', .int .i64 d'])).run Try.prog w = .ok (a == a' && b == b' && c == c' && d == d') w := by
  have hu : Try.prog.underlying 23 = some (.struct (Try.prog.fieldsOf 23)) := by kernel_rfl
  have hf := run_equalIn_struct (P := Try.prog) w (n + 1) 23 #[.int .i64 a, .int .i64 b, .int .i64 c, .int .i64 d] #[.int .i64 a', .int .i64 b', .int .i64 c', .int .i64 d'] hu (by kernel_rfl)
  have hfs : (Try.prog.fieldsOf 23).toList = (match Try.prog.underlying 23 with | some (.struct fs) => fs.toList | _ => []) := rfl
  rw [Try.underlying23] at hfs
  rw [hf, hfs]
  go_simp
  by_cases h1 : a = a'
  · by_cases h2 : b = b'
    · by_cases h3 : c = c'
      · by_cases h4 : d = d' <;> simp [h1, h2, h3, h4]
      · simp [h1, h2, h3]
    · simp [h1, h2]
  · simp [h1]
theorem eqPr (w : World) (n : Nat) (x y : Pr) : (Op.equalIn (n + 2) 23 (prV x) (prV y)).run Try.prog w = .ok (decide (x = y)) w := by
  rw [eqPr4]
  obtain ⟨a, b, c, d⟩ := x
  obtain ⟨a', b', c', d'⟩ := y
  congr 1
  rw [Bool.eq_iff_iff]
  simp [and_assoc]
theorem eqPrO (w : World) (x y : Pr) : Sem.run Try.prog (Op.equal 23 (prV x) (prV y)) w = .ok (decide (x = y)) w := eqPr w 9998 x y
theorem run_eql_pr (w : World) (x y : Pr) : (binOp .eql 23 (prV x) (prV y)).run Try.prog w = .ok (.bool (decide (x = y))) w := by
  simp only [binOp, Sem.run_bind, eqPrO, Result.andThen_ok, Sem.run_pure]
theorem run_neq_pr (w : World) (x y : Pr) : (binOp .neq 23 (prV x) (prV y)).run Try.prog w = .ok (.bool (!decide (x = y))) w := by
  simp only [binOp, Sem.run_bind, eqPrO, Result.andThen_ok, Sem.run_pure]
/-! rights as keys -/
theorem sameNow_rt (k : Value) (w : World) (z : MapEntry) (x : Rt) : Instr.sameNow (.struct (Try.prog.fieldsOf 39)) (rtV x) k = none := rfl
theorem keyRt : KeyT rtV 39 where
  find := fun x w zs h => by
    have hu : Try.prog.underlying 39 = some (.struct (Try.prog.fieldsOf 39)) := by kernel_rfl
    have key : ∀ (zs : List (MapEntry × Rt × Value)) (i : Nat), (∀ z ∈ zs, z.1.key = rtV z.2.1 ∧ z.1.val = z.2.2) → Sem.run Try.prog (Instr.findAsking 39 (rtV x) (zs.map (·.1)) i) w = .ok (findL x (zs.map (·.2)) i) w := by
      intro zs
      induction zs with
      | nil => intro i _; simp [Instr.findAsking, findL]
      | cons z zs ih =>
        intro i h
        obtain ⟨h1, h2⟩ := h z (by simp)
        rw [List.map_cons, List.map_cons, Instr.findAsking, Sem.run_bind, h1, eqRtO, findL]
        simp only [Result.andThen_ok]
        by_cases hx : x = z.2.1
        · rw [if_pos hx]
          simp [hx, h2]
        · rw [if_neg hx]
          simp only [hx, decide_false, Bool.false_eq_true, if_false]
          exact ih (i + 1) fun y hy => h y (by simp [hy])
    rw [Instr.findKey, Sem.run_bind, run_underlying hu, Result.andThen_ok]
    have hk := key zs 0 h
    cases zs with
    | nil => simp [Instr.findNow, findL]
    | cons z zs =>
      rw [List.map_cons, Instr.findNow, sameNow_rt _ w z.1]
      exact hk
  ck := fun e x w => by cases e <;> kernel_rfl
  bits := fun x => by
    show Instr.sameBits (9999 + 1) _ _ = true
    simp [Instr.sameBits]
/-- a map of rights: what it holds at each -/
def MapF (w : World) (mb : Nat) (z : Value) (f : Rt → Value) : Prop := ∃ L, MapL rtV w mb L ∧ ∀ x, (getL x L).getD z = f x
theorem MapF.put {w : World} {mb : Nat} {z : Value} {f : Rt → Value} {mt et : TypeId} (h : MapF w mb z f) (ht : Try.prog.underlying mt = some (.map 39 et)) (x : Rt) (v : Value) :
    ∃ w', Sem.run Try.prog (Instr.mapUpdate mt (.map (some mb)) (rtV x) v) w = .ok () w' ∧ MapF w' mb z (fun y => if y = x then v else f y) ∧ Kg w w' mb ∧ w'.heap.size = w.heap.size := by
  obtain ⟨L, h1, h2⟩ := h
  obtain ⟨w', h3, h4, h5, h6⟩ := h1.put keyRt ht x v
  refine ⟨w', h3, ⟨_, h4, fun y => ?_⟩, h5, h6⟩
  rw [getL_put]
  by_cases hy : y = x
  · simp [hy]
  · simp [hy, h2]
theorem MapF.look {w : World} {mb : Nat} {z : Value} {f : Rt → Value} {mt et : TypeId} (h : MapF w mb z f) (ht : Try.prog.underlying mt = some (.map 39 et)) (hz : Sem.run Try.prog (zeroValue et) w = .ok z w) (x : Rt) :
    Sem.run Try.prog (Instr.lookup mt (.map (some mb)) (rtV x) false) w = .ok (f x) w := by
  obtain ⟨L, h1, h2⟩ := h
  have := h1.look keyRt ht hz x false
  rw [h2] at this
  exact this
theorem MapF.kp {w w' : World} {mb : Nat} {z : Value} {f : Rt → Value} (h : MapF w mb z f) (k : Kp w w') : MapF w' mb z f := by
  obtain ⟨L, h1, h2⟩ := h
  exact ⟨L, h1.kp k, h2⟩
theorem MapF.lt {w : World} {mb : Nat} {z : Value} {f : Rt → Value} (h : MapF w mb z f) : mb < w.heap.size := by
  obtain ⟨L, h1, h2⟩ := h
  exact h1.lt
theorem MapF.keep {w w' : World} {mb : Nat} {z : Value} {f : Rt → Value} (h : MapF w mb z f) (k : w'.heap[mb]? = w.heap[mb]?) : MapF w' mb z f := by
  obtain ⟨L, h1, h2⟩ := h
  exact ⟨L, h1.keep k, h2⟩
theorem MapF.new (w : World) (z : Value) : MapF (w.alloc (.map #[] 0)) w.heap.size z (fun _ => z) := ⟨[], MapL.new w, fun _ => rfl⟩
theorem zeroB (w : World) : Sem.run Try.prog (zeroValue 4) w = .ok (.bool false) w := by kernel_rfl
theorem zeroI (w : World) : Sem.run Try.prog (zeroValue 3) w = .ok (.int .i64 0) w := by kernel_rfl
/-- a store into a map, at the operation -/
theorem wpl_mapset {ops : Array Oper} {rest : List Oper} {o : Oper} {a : Act} {Q : Exit → Act → World → Prop} {w w' : World} (hgd : o.guard = none) (t : TypeId) (m k v : Operand) (ho : o.op = Op.mapUpdate t m k v)
    {vm vk vv : Value} (hm : a.eval m = vm) (hk : a.eval k = vk) (hv : a.eval v = vv) (hrun : Sem.run Try.prog (Instr.mapUpdate t vm vk vv) w = .ok () w') (h : wpList Try.prog ops Q rest (a.put o.dst undef) w') : wpList Try.prog ops Q (o :: rest) a w := by
  refine wpList_plain hgd fun K hK => ?_
  unfold Oper.wp
  simp [execOp, ho, hm, hk, hv, hrun, Result.andThen]
  exact hK _ _ h
end Go.Proofs.Ytbcekihjcgnhkaa
