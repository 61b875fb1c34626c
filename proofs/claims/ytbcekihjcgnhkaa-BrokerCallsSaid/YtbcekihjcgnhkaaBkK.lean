
/-
The requests of the others that have needs, by priority: the walk.
-/
import Derived.Test.YtbcekihjcgnhkaaBkJ
namespace Go.Proofs.Ytbcekihjcgnhkaa
set_option linter.unusedSimpArgs false
set_option linter.unusedVariables false
open Go.RowKit

theorem AR.sorted {base : Nat} {w w' : World} {v : Value} {l l' : List AV} (h : AR base w v l) (own : Own encAV 29 6 base w' v l') (hp : l'.Perm l) (hg : w.grownBy w' v.ownBlock) : AR base w' v l' :=
  ⟨own, fun x hx => World.ownsRow.kept (h.nds x (hp.mem_iff.1 hx)) hg (.inr (h.row x (hp.mem_iff.1 hx)).1), (hp.pairwise_iff (fun {_ _} h => Ne.symm h)).2 h.apart, fun x hx => h.row x (hp.mem_iff.1 hx)⟩
theorem AR.snoc {base : Nat} {w w' : World} {v v' : Value} {l : List AV} {x : AV} (h : AR base w v l) (ox : Own encNd 41 4 base w x.v x.a.needs) {m : Nat} (hm1 : ∀ g, x.v.ownBlock = some g → m ≤ g) (hm2 : ∀ y ∈ l, ∀ g, y.v.ownBlock = some g → g < m) (hm3 : ∀ g, v.ownBlock = some g → g < m) (hx : x.v.ownBlock ≠ none)
    (own' : Own encAV 29 6 base w' v' (l ++ [x])) (hg : w.grownBy w' v.ownBlock) (hat : v'.ownBlock = v.ownBlock ∨ v'.ownBlock = some w.heap.size) : AR base w' v' (l ++ [x]) := by
  have hxv : x.v.ownBlock ≠ v.ownBlock := fun e => by
    cases hb : x.v.ownBlock with
    | none => exact hx hb
    | some g =>
      have h1 := hm1 g hb
      have h2 := hm3 g (by rw [← e, hb])
      omega
  have hne : ∀ y : AV, y.v.ownBlock ≠ v.ownBlock → Own encNd 41 4 base w y.v y.a.needs → y.v.ownBlock ≠ none → y.v.ownBlock ≠ v'.ownBlock := fun y h1 h2 h3 e => by
    rcases hat with h4 | h4
    · exact h1 (e.trans h4)
    · have := h2.blk_lt w.heap.size (e.trans h4)
      omega
  refine ⟨own', fun y hy => ?_, ?_, fun y hy => ?_⟩
  · rcases List.mem_append.1 hy with hy | hy
    · exact World.ownsRow.kept (h.nds y hy) hg (.inr (h.row y hy).1)
    · simp only [List.mem_singleton] at hy
      subst hy
      exact World.ownsRow.kept ox hg (.inr hxv)
  · refine List.pairwise_append.2 ⟨h.apart, List.pairwise_singleton _ _, fun y hy z hz e => ?_⟩
    simp only [List.mem_singleton] at hz
    subst hz
    cases hb : y.v.ownBlock with
    | none => exact (h.row y hy).2 hb
    | some g =>
      have h1 := hm2 y hy g hb
      have h2 := hm1 g (by rw [← e, hb])
      omega
  · rcases List.mem_append.1 hy with hy | hy
    · exact ⟨hne y (h.row y hy).1 (h.nds y hy) (h.row y hy).2, (h.row y hy).2⟩
    · simp only [List.mem_singleton] at hy
      subst hy
      exact ⟨hne y hxv ox hx, hx⟩
theorem AR.kgn {base g : Nat} {w w' : World} {v : Value} {l : List AV} (h : AR base w v l) (k : Kg w w' g) (hv : v.ownBlock ≠ some g) (hl : ∀ x ∈ l, x.v.ownBlock ≠ some g) : AR base w' v l :=
  ⟨World.ownsRow.kept h.own k (.inr hv), fun x hx => World.ownsRow.kept (h.nds x hx) k (.inr (hl x hx)), h.apart, h.row⟩
/-- what Requests returns -/
def RequestsR (w : World) (s : Bk) (e : Ending) (w' : World) : Prop := ∃ v l, e = .returned v ∧ AR w.heap.size w' v l ∧ l.map (·.a) = reqL s ∧ Kp w w'
set_option maxRecDepth 8000 in
set_option maxHeartbeats 8000000 in
theorem bRequests_any {S : Nat → Prop} {b mb : Nat} {s : Bk} {w : World} (h : BrW S w b mb s) : Calls Try.prog 28 #[.pointer (some ⟨b, 0, none⟩)] w (RequestsR w s) := by
  obtain ⟨ov, hb, ho⟩ := h.box
  obtain ⟨L, hm, hh⟩ := h.mp
  have hlt := h.lt
  have hmlt := h.mlt
  have c4 := hb.cell (j := 4) rfl
  have hLn : L.length ≤ 5 := by
    have h1 := nodup_bound 5 (L.map (·.1)) hm.nodup fun k hk => by
      obtain ⟨p, hp, rfl⟩ := List.mem_map.1 hk
      have h2 := getL_of hm.nodup hp
      rcases hh p.1 with ⟨h3, -⟩ | ⟨a, v, h3, h4, -⟩
      · rw [h2] at h3; cases h3
      · have := h.ok.key _ _ h4
        have := h.ok.n1
        omega
    simpa using h1
  have hH := hid h
  have HH := hid hh
  have HM := hid hm
  clear h hb ho hh
  go_enter Try.func28, Try.ntmps28
  go_wp2_with (at_range; refine wpl_range rfl 91 (.tmp 9) rfl rfl hm Try.underlying91 ?_; intro ob hrg)
  go_frame
  have k1 := (Kp.refl w).alloc ob
  have hz1 : (w.alloc ob).heap.size = w.heap.size + 1 := by simp
  generalize w.alloc ob = w1 at *
  clear hm c4
  go_loopw [3] (fun s3 wr => ∃ (done left : List (Int × Value)) (l : List AV), Rng intV wr mb w.heap.size L left ∧ (done ++ left).Perm L ∧ l.map (·.a) = askOf s.heard done ∧ AR (w.heap.size + 1) wr s3 l ∧ Kp w wr ∧ w.heap.size + 1 ≤ wr.heap.size) (fun _ wr => leftN wr mb w.heap.size)
  case atStart => exact ⟨[], L, [], hrg, .refl _, rfl, AR.nil _ _, k1, by omega⟩
  case round =>
    clear hrg
    obtain ⟨done, left, l, hrg, hp, hla, har, hk, hzr⟩ := hrel
    have hlen : l.length ≤ 5 := by
      have h1 := congrArg List.length hla
      rw [List.length_map] at h1
      have h2 := askOf_len s.heard done
      have h3 := hp.length_eq
      rw [List.length_append] at h3
      omega
    obtain ⟨A, c, rfl, hc, hcm⟩ := har.own.form
    go_wp2_with (at_next; refine wpl_next rfl (.tmp 10) rfl rfl hrg ?_ ?_)
    · intro hl0
      have HP := hid hp
      have HLA := hid hla
      clear hp hla hrg
      go_wp2_with fail
      refine (bSort_any har.own (by omega)).mono ?_
      rintro e w3 ⟨rfl, l', own3, hp3, hs3, hg3⟩
      have har3 := har.sorted own3 hp3 hg3
      have HF : Hid (l'.length = l.length) := hid hp3.length_eq
      have k3 := hk.grown hg3 fun j hj => by have := har.own.ge j hj; omega
      go_wp2
      go_ret
      refine ⟨_, l', rfl, har3.less (by omega), ?_, k3⟩
      have hpd := HP.out
      rw [hl0, List.append_nil] at hpd
      exact reqs_eq hH.out.ok HH.out HM.out.nodup hpd HLA.out (hp3.map _) hs3
    · intro k v left' w2 hp2 hmem hrg2 kg2 hz2 hen
      have hget := getL_of HM.out.nodup hmem
      rcases HH.out k with ⟨g1, -⟩ | ⟨a, u, g1, g2, g3⟩
      · rw [g1] at hget; cases hget
      rw [g1] at hget
      injection hget with hget
      subst hget
      have kW2 := Kg.to_kp hk kg2 (Nat.le_refl _)
      have har2 := har.kg kg2 (Nat.lt_succ_self _)
      have hp2' : (done ++ (k, askV a u) :: left').Perm L := (hp2.symm.append_left done).trans hp
      have hpn : ((done ++ [(k, askV a u)]) ++ left').Perm L := by simpa using hp2'
      have HPN := hid hpn
      have HG2 := hid g2
      have HL2 : Hid (left.length = left'.length + 1) := hid (by have := hp2.length_eq; simpa using this)
      have hleft := hrg.leftN
      have HLA := hid hla
      have HZ2 := hid hz2
      clear hp2 hp2' hpn g2 hp hmem g1 hla har hrg hz2
      obtain ⟨num, ⟨p1, p2, p3, p4⟩, l0⟩ := a
      obtain ⟨A0, c0, rfl, h0c, h0m⟩ := g3.here.form
      dsimp only at h0c h0m g3 ⊢
      have hn0 : Nds w (.slice A0 l0.length c0) l0 := g3.here
      have hB := Bx.new w2 #[.int .i64 num, .int .i64 p1, .int .i64 p2, .int .i64 p3, .int .i64 p4, .slice A0 l0.length c0] 29
      have k3 := (Kp.refl w2).alloc (.cells #[.int .i64 num, .int .i64 p1, .int .i64 p2, .int .i64 p3, .int .i64 p4, .slice A0 l0.length c0] 29)
      go_upto_region 5 with (fail)
      have hz3 : (w2.alloc (.cells #[.int .i64 num, .int .i64 p1, .int .i64 p2, .int .i64 p3, .int .i64 p4, .slice A0 l0.length c0] 29)).heap.size = w2.heap.size + 1 := by simp
      have hrg3 := hrg2.keep (k3.block hrg2.map.lt) (k3.block hrg2.lt)
      generalize w2.alloc (.cells #[.int .i64 num, .int .i64 p1, .int .i64 p2, .int .i64 p3, .int .i64 p4, .slice A0 l0.length c0] 29) = w3 at *
      generalize hbx : w2.heap.size = bx at *
      have HBX := hid hbx
      have har3 := har2.kp k3
      have kW3 := kW2.trans k3
      have c5 := hB.cell (j := 5) rfl
      clear hrg2 hbx
      by_cases hn : l0.length = 0
      · have e1 : decide ((0 : Int) < (l0.length : Int)) = false := decide_eq_false (by omega)
        have e2 : decide (0 < l0.length) = false := decide_eq_false (by omega)
        have HA : Hid (l.map (·.a) = askOf s.heard (done ++ [(k, .agg #[.int .i64 num, .int .i64 p1, .int .i64 p2, .int .i64 p3, .int .i64 p4, .slice A0 l0.length c0])])) := hid (by
          rw [askOf_append, HLA.out]
          have : askOf s.heard [(k, .agg #[.int .i64 num, .int .i64 p1, .int .i64 p2, .int .i64 p3, .int .i64 p4, .slice A0 l0.length c0])] = [] := by
            unfold askOf
            rw [List.filterMap_cons]
            dsimp only
            rw [HG2.out]
            simp [Option.filter, hasN, hn]
          rw [this, List.append_nil])
        replace hn := hid hn
        go_wp2
        go_roundw
        case rel => exact ⟨_, left', l, hrg3, HPN.out, HA.out, har3, kW3, by have := HZ2.out; have := HBX.out; omega⟩
        case measure => rw [hrg3.leftN, hleft, HL2.out]; omega
      · have e1 : decide ((0 : Int) < (l0.length : Int)) = true := decide_eq_true (by omega)
        have e2 : decide (0 < l0.length) = true := decide_eq_true (by omega)
        have hl4 : l0.length ≤ 1024 := by
          have h1 := (hH.out.ok.key _ _ HG2.out).2.2.2
          unfold validA at h1
          simp only [Bool.and_eq_true] at h1
          exact ((validL_iff l0).1 h1.1.2).2.2
        go_wp2_with fail
        refine (CloneNd_any _ l0 _ (hn0.keep (pl_stable _) kW3) (by omega)).mono ?_
        rintro e w4 ⟨v4, rfl, own4, k4⟩
        obtain ⟨A4, c4, rfl, -, -⟩ := own4.form
        have hB4 := hB.keep (k4.block (by omega))
        have hrg4 := hrg3.keep (k4.block hrg3.map.lt) (k4.block hrg3.lt)
        have har4 := har3.kp k4
        have kW4 := kW3.trans k4
        have hz4 := k4.size
        clear c5 hB hrg3
        have d5 := hB4.cell (j := 5) rfl
        have f5 := hB4.free (j := 5) (by simp)
        have hB5 := hB4.set (j := 5) (by simp) (.slice A4 l0.length c4)
        simp only [List.set_cons_zero, List.set_cons_succ] at hB5
        have kb5 := (Kg.refl w4 bx).set (p := ⟨bx, 5, none⟩) (.inl rfl) (.slice A4 l0.length c4)
        have hbxz := HBX.out
        have hz2o := HZ2.out
        have hrg5 := hrg4.keep (kb5.block mb hrg4.map.lt (by simp; omega)) (kb5.block w.heap.size hrg4.lt (by simp; omega))
        have hbl1 : ∀ g, (Value.slice A l.length c).ownBlock = some g → g < bx := fun g hg => by have := har2.own.blk_lt g hg; omega
        have hbl2 : ∀ x ∈ l, ∀ g, x.v.ownBlock = some g → g < bx := fun x hx g hg => by have := (har2.nds x hx).blk_lt g hg; omega
        have har5 := har4.kgn kb5 (fun e => by have := hbl1 bx e; omega) fun x hx e => by have := hbl2 x hx bx e; omega
        have own5 := own4.kg kb5 (by omega)
        have kW5 := Kp.set kW4 (p := ⟨bx, 5, none⟩) (by show w.heap.size ≤ bx; omega) (.slice A4 l0.length c4)
        have hz5 := set_size w4 ⟨bx, 5, none⟩ (.slice A4 l0.length c4)
        have hzb : w.heap.size + 1 ≤ (w4.setCell ⟨bx, 5, none⟩ (.slice A4 l0.length c4)).heap.size := by omega
        have hzc : bx < (w4.setCell ⟨bx, 5, none⟩ (.slice A4 l0.length c4)).heap.size := by omega
        have hown5b : ∀ g, (Value.slice A4 l0.length c4).ownBlock = some g → bx < g := fun g hg => by have := own4.ge g hg; omega
        have HZ3 := hid hz3
        clear hz5 hz3 hz2o hbxz
        go_upto_region 7 with (fail)
        generalize w4.setCell ⟨bx, 5, none⟩ (.slice A4 l0.length c4) = w5 at *
        have q0 := hB5.cell (j := 0) rfl
        have q1 := hB5.cell (j := 1) rfl
        have q2 := hB5.cell (j := 2) rfl
        have q3 := hB5.cell (j := 3) rfl
        have q4 := hB5.cell (j := 4) rfl
        have q5 := hB5.cell (j := 5) rfl
        have k6 := (Kp.refl w5).alloc (.cells #[.int .i64 num, .int .i64 p1, .int .i64 p2, .int .i64 p3, .int .i64 p4, .slice A4 l0.length c4] 29)
        have har6 := har5.kp k6
        have own6 := own5.kp k6
        have hz6 : (w5.alloc (.cells #[.int .i64 num, .int .i64 p1, .int .i64 p2, .int .i64 p3, .int .i64 p4, .slice A4 l0.length c4] 29)).heap.size = w5.heap.size + 1 := by simp
        have hsrc : Sl (Pl encAV) 6 (w5.alloc (.cells #[.int .i64 num, .int .i64 p1, .int .i64 p2, .int .i64 p3, .int .i64 p4, .slice A4 l0.length c4] 29)) (.slice (some ⟨w5.heap.size, 0, none⟩) 1 1) [(⟨⟨num, (p1, p2, p3, p4), l0⟩, A4, l0.length, c4⟩ : AV)] :=
          Sl.one (R := Pl encAV) w5 [.int .i64 num, .int .i64 p1, .int .i64 p2, .int .i64 p3, .int .i64 p4, .slice A4 l0.length c4] 29 6 _ rfl rfl
        have HZ6 := hid hz6
        clear hz6
        go_wp2_with (at_builtin; refine wpl_append_flat rfl (.tmp 23) (.tmp 25) rfl stask encAV_len encAV_one rfl har6.own rfl hsrc (by simp; omega) (by simp; omega) (by simp; omega) ?_; intro v7 w7 hown7 hgrow7 hat7 hnil7)
        have hbase : w.heap.size + 1 ≤ w3.heap.size := by have := HZ3.out; have := HBX.out; have := HZ2.out; omega
        have har7 := har6.snoc (x := (⟨⟨num, (p1, p2, p3, p4), l0⟩, A4, l0.length, c4⟩ : AV)) (m := bx + 1) (own6.less hbase) (fun g hg => hown5b g hg) (fun y hy g hg => by have := hbl2 y hy g hg; omega) (fun g hg => by have := hbl1 g hg; omega) (own6.some (by omega)) hown7 hgrow7 hat7
        have hlt7 := hgrow7.size
        have hmbz := hrg5.map.lt
        have hitz := hrg5.lt
        have hrg7 := hrg5.keep (w' := w7) (by rw [hgrow7.block mb (by simp; omega) (fun e => by have := har6.own.ge mb e.symm; omega), heap_alloc_old _ _ hmbz]) (by rw [hgrow7.block w.heap.size (by simp; omega) (fun e => by have := har6.own.ge _ e.symm; omega), heap_alloc_old _ _ hitz])
        have kW7 := (kW5.trans k6).grown hgrow7 fun j hj => by have := har6.own.ge j hj; omega
        have hz7 : w5.heap.size + 1 ≤ w7.heap.size := by have := HZ6.out; omega
        have HA : Hid ((l ++ [(⟨⟨num, (p1, p2, p3, p4), l0⟩, A4, l0.length, c4⟩ : AV)]).map (·.a) = askOf s.heard (done ++ [(k, .agg #[.int .i64 num, .int .i64 p1, .int .i64 p2, .int .i64 p3, .int .i64 p4, .slice A0 l0.length c0])])) := hid (by
          rw [askOf_append, List.map_append, HLA.out]
          have : askOf s.heard [(k, .agg #[.int .i64 num, .int .i64 p1, .int .i64 p2, .int .i64 p3, .int .i64 p4, .slice A0 l0.length c0])] = [⟨num, (p1, p2, p3, p4), l0⟩] := by
            unfold askOf
            rw [List.filterMap_cons]
            dsimp only
            rw [HG2.out]
            simp [Option.filter, hasN, hn]
          rw [this]
          rfl)
        clear hgrow7 hat7 hnil7 har6 hsrc
        go_roundw
        case rel => exact ⟨_, left', _, hrg7, HPN.out, HA.out, har7, kW7, by omega⟩
        case measure => rw [hrg7.leftN, hleft, HL2.out]; omega
end Go.Proofs.Ytbcekihjcgnhkaa
