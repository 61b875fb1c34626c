
/-
What is answered when an event, a base, a message, a record is written.
-/
import Derived.Test.YtmeafoakbkjifaaCodB2
namespace Go.Proofs.Ytmeafoakbkjifaa
set_option linter.unusedSimpArgs false
set_option linter.unusedVariables false
open Go.RowKit

theorem EventV.kp {w w' : World} {val : Value} {x : Event} (h : EventV w val x) (hb : Kp w w') : EventV w' val x := by
  obtain ⟨v, rfl, h1⟩ := h
  exact ⟨v, rfl, h1.keep (pl_stable _) hb⟩
theorem BaseV.kp {w w' : World} {val : Value} {x : Base} (h : BaseV w val x) (hb : Kp w w') : BaseV w' val x := by
  obtain ⟨v0, v2, v3, v4, v5, v6, rfl, p0, p2, p3, p4, p5, p6⟩ := h
  exact ⟨v0, v2, v3, v4, v5, v6, rfl, p0.keep (pl_stable _) hb, p2.keep (pl_stable _) hb, p3.keep rdMerged_stable hb, p4.keep rdInts_stable hb, p5.keep rdIntss_stable hb, p6.keep (pl_stable _) hb⟩
theorem MessageV.kp {w w' : World} {val : Value} {x : Message} (h : MessageV w val x) (hb : Kp w w') : MessageV w' val x := by
  obtain ⟨v3, v4, v5, v6, v7, rfl, p3, p4, p5, p6, p7⟩ := h
  exact ⟨v3, v4, v5, v6, v7, rfl, p3.keep (pl_stable _) hb, p4.keep rdEvent_stable hb, p5.keep (pl_stable _) hb, p6.keep (pl_stable _) hb, p7.keep rdEntry_stable hb⟩
theorem EventV.cells {w : World} {val : Value} {x : Event} (h : EventV w val x) : ∃ cs : List Value, val = .agg cs.toArray ∧ cs.length = 13 := by
  obtain ⟨v, rfl, h1⟩ := h
  exact ⟨_, rfl, rfl⟩
theorem BaseV.cells {w : World} {val : Value} {x : Base} (h : BaseV w val x) : ∃ cs : List Value, val = .agg cs.toArray ∧ cs.length = 7 := by
  obtain ⟨v0, v2, v3, v4, v5, v6, rfl, p0, p2, p3, p4, p5, p6⟩ := h
  exact ⟨_, rfl, rfl⟩
theorem MessageV.cells {w : World} {val : Value} {x : Message} (h : MessageV w val x) : ∃ cs : List Value, val = .agg cs.toArray ∧ cs.length = 18 := by
  obtain ⟨v3, v4, v5, v6, v7, rfl, p3, p4, p5, p6, p7⟩ := h
  exact ⟨_, rfl, rfl⟩
theorem RecordV.cells {w : World} {val : Value} {x : Record} (h : RecordV w val x) : ∃ cs : List Value, val = .agg cs.toArray ∧ cs.length = 30 := by
  obtain ⟨v0, v1, v2, v3, v4, v5, v6, v7, rfl, p0, p1, p2, p3, p4, p5, p6, p7⟩ := h
  exact ⟨_, rfl, rfl⟩
theorem range_box (w : World) (cs : List Value) (t : TypeId) : (w.alloc (.cells cs.toArray t)).rangeAt w.heap.size 0 cs := fun j v hv => by rw [Nat.zero_add]; exact alloc_cell w _ t j (by simpa using hv)
theorem Kp.range {w w' : World} (hk : Kp w w') {b o : Nat} {cs : List Value} (h : w.rangeAt b o cs) : w'.rangeAt b o cs := fun j u hu => hk.cellS (h j u hu)
set_option maxHeartbeats 400000 in
theorem written_any (m : List Int) (F : FuncId) (cap : List Value) (w : World) (hr : Real Try.prog F)
    (hf : ∀ (w' : World) (g : Nat), Kp w w' → Wr w.heap.size w' g [] → Writes w g [] m F (.pointer (some ⟨g, 0, none⟩) :: cap).toArray w') :
    Calls Try.prog 49 #[.func (.func F) #[] cap.toArray] w fun e w' => e = retE (encE m) ∧ Kp w w' := by
  have HC := hid hf
  clear hf
  generalize hE : encE m = r
  have HE := hid hE
  clear hE
  have hcf := fun args w => hr.run args w
  have hw0 := wr_new w.heap.size w (Nat.le_refl _)
  have hk0 := (Kp.refl w).alloc (.cells #[.slice none 0 0] 135)
  go_enter Try.func49, Try.ntmps49
  go_wp2_with fail
  refine (HC.out _ _ hk0 hw0).mono ?_
  rintro e w1 ⟨rfl, hw1, hx1⟩
  have k1 := hx1.to_kp hk0 hw0
  clear hx1 hw0 hk0
  obtain ⟨v, f1, f2, f3, f4, own⟩ := hw1
  have hi := own.sl encInt_len
  clear own f4 f3
  rw [List.nil_append] at hi
  obtain ⟨A, c, rfl, hc, hm⟩ := hi.form
  go_wp2_with fail
  refine (Encode_any _ m _ hi).mono ?_
  rintro e w2 ⟨rfl, hk2⟩
  have k2 := k1.trans hk2
  clear hi f1
  rw [HE.out]
  obtain ⟨rb, re⟩ := r
  go_wp2
  go_ret2
  exact ⟨rfl, k2⟩
set_option maxHeartbeats 400000 in
theorem EncodeEvent1_any (W0 : World) (g b : Nat) (l : List Int) (cs : List Value) (x : Event) (w : World) (hk : Kp W0 w) (hw : Wr W0.heap.size w g l) (hv : EventV W0 (.agg cs.toArray) x) (hroom : Room l (numEvent x).length) (hrg : w.rangeAt b 0 cs)
    (hi : (Try.prog.info? 37).map (·.size) = some cs.length) : Writes W0 g l (numEvent x) 55 #[.pointer (some ⟨g, 0, none⟩), .pointer (some ⟨b, 0, none⟩)] w := by
  go_enter Try.func55, Try.ntmps55
  go_wp2_with (refine wpList_load_mid rfl 37 (.tmp 1) rfl b 0 rfl cs _ hrg Try.underlying37 rfl hi ?_)
  refine (wEvent_any W0 g l _ x w hk hw hv hroom).mono ?_
  rintro e w1 ⟨rfl, hw1, hx1⟩
  go_wp2
  go_end0
  exact ⟨rfl, hw1, hx1⟩
theorem EncodeEvent1_real : Real Try.prog 55 := ⟨_, Try.func55, by kernel_rfl, by kernel_rfl⟩
set_option maxHeartbeats 400000 in
theorem EncodeEvent_any (val : Value) (x : Event) (w : World) (hv : EventV w val x) (hroom : Room [] (numEvent x).length) :
    Calls Try.prog 25 #[val] w fun e w' => e = retE (encE (numEvent x)) ∧ Kp w w' := by
  obtain ⟨cs, rfl, hcs⟩ := hv.cells
  generalize hE : encE (numEvent x) = r
  have HE := hid hE
  clear hE
  have k0 := (Kp.refl w).alloc (.cells cs.toArray 37)
  have r0 := range_box w cs 37
  have hi : (Try.prog.info? 37).map (·.size) = some cs.length := by rw [hcs]; kernel_rfl
  go_enter Try.func25, Try.ntmps25
  go_wp2_with fail
  refine (written_any (numEvent x) 55 [.pointer (some ⟨w.heap.size, 0, none⟩)] (w.alloc (.cells cs.toArray 37)) EncodeEvent1_real (fun w' g hk' hw' => EncodeEvent1_any _ g _ [] cs x w' hk' hw' (hv.kp k0) hroom (hk'.range r0) hi)).mono ?_
  rintro e w1 ⟨rfl, hk1⟩
  have k1 := k0.trans hk1
  rw [HE.out]
  obtain ⟨rb, re⟩ := r
  go_wp2
  go_ret2
  exact ⟨rfl, k1⟩
set_option maxHeartbeats 400000 in
theorem EncodeBase1_any (W0 : World) (g b : Nat) (l : List Int) (cs : List Value) (x : Base) (w : World) (hk : Kp W0 w) (hw : Wr W0.heap.size w g l) (hv : BaseV W0 (.agg cs.toArray) x) (hroom : Room l (numBase x).length) (hrg : w.rangeAt b 0 cs)
    (hi : (Try.prog.info? 42).map (·.size) = some cs.length) : Writes W0 g l (numBase x) 57 #[.pointer (some ⟨g, 0, none⟩), .pointer (some ⟨b, 0, none⟩)] w := by
  go_enter Try.func57, Try.ntmps57
  go_wp2_with (refine wpList_load_mid rfl 42 (.tmp 1) rfl b 0 rfl cs _ hrg Try.underlying42 rfl hi ?_)
  refine (wBase_any W0 g l _ x w hk hw hv hroom).mono ?_
  rintro e w1 ⟨rfl, hw1, hx1⟩
  go_wp2
  go_end0
  exact ⟨rfl, hw1, hx1⟩
theorem EncodeBase1_real : Real Try.prog 57 := ⟨_, Try.func57, by kernel_rfl, by kernel_rfl⟩
set_option maxHeartbeats 400000 in
theorem EncodeBase_any (val : Value) (x : Base) (w : World) (hv : BaseV w val x) (hroom : Room [] (numBase x).length) :
    Calls Try.prog 26 #[val] w fun e w' => e = retE (encE (numBase x)) ∧ Kp w w' := by
  obtain ⟨cs, rfl, hcs⟩ := hv.cells
  generalize hE : encE (numBase x) = r
  have HE := hid hE
  clear hE
  have k0 := (Kp.refl w).alloc (.cells cs.toArray 42)
  have r0 := range_box w cs 42
  have hi : (Try.prog.info? 42).map (·.size) = some cs.length := by rw [hcs]; kernel_rfl
  go_enter Try.func26, Try.ntmps26
  go_wp2_with fail
  refine (written_any (numBase x) 57 [.pointer (some ⟨w.heap.size, 0, none⟩)] (w.alloc (.cells cs.toArray 42)) EncodeBase1_real (fun w' g hk' hw' => EncodeBase1_any _ g _ [] cs x w' hk' hw' (hv.kp k0) hroom (hk'.range r0) hi)).mono ?_
  rintro e w1 ⟨rfl, hk1⟩
  have k1 := k0.trans hk1
  rw [HE.out]
  obtain ⟨rb, re⟩ := r
  go_wp2
  go_ret2
  exact ⟨rfl, k1⟩
set_option maxHeartbeats 400000 in
theorem EncodeMessage1_any (W0 : World) (g b : Nat) (l : List Int) (cs : List Value) (x : Message) (w : World) (hk : Kp W0 w) (hw : Wr W0.heap.size w g l) (hv : MessageV W0 (.agg cs.toArray) x) (hroom : Room l (numMessage x).length) (hrg : w.rangeAt b 0 cs)
    (hi : (Try.prog.info? 78).map (·.size) = some cs.length) : Writes W0 g l (numMessage x) 77 #[.pointer (some ⟨g, 0, none⟩), .pointer (some ⟨b, 0, none⟩)] w := by
  go_enter Try.func77, Try.ntmps77
  go_wp2_with (refine wpList_load_mid rfl 78 (.tmp 1) rfl b 0 rfl cs _ hrg Try.underlying78 rfl hi ?_)
  refine (wMessage_any W0 g l _ x w hk hw hv hroom).mono ?_
  rintro e w1 ⟨rfl, hw1, hx1⟩
  go_wp2
  go_end0
  exact ⟨rfl, hw1, hx1⟩
theorem EncodeMessage1_real : Real Try.prog 77 := ⟨_, Try.func77, by kernel_rfl, by kernel_rfl⟩
set_option maxHeartbeats 400000 in
theorem EncodeMessage_any (val : Value) (x : Message) (w : World) (hv : MessageV w val x) (hroom : Room [] (numMessage x).length) :
    Calls Try.prog 41 #[val] w fun e w' => e = retE (encE (numMessage x)) ∧ Kp w w' := by
  obtain ⟨cs, rfl, hcs⟩ := hv.cells
  generalize hE : encE (numMessage x) = r
  have HE := hid hE
  clear hE
  have k0 := (Kp.refl w).alloc (.cells cs.toArray 78)
  have r0 := range_box w cs 78
  have hi : (Try.prog.info? 78).map (·.size) = some cs.length := by rw [hcs]; kernel_rfl
  go_enter Try.func41, Try.ntmps41
  go_wp2_with fail
  refine (written_any (numMessage x) 77 [.pointer (some ⟨w.heap.size, 0, none⟩)] (w.alloc (.cells cs.toArray 78)) EncodeMessage1_real (fun w' g hk' hw' => EncodeMessage1_any _ g _ [] cs x w' hk' hw' (hv.kp k0) hroom (hk'.range r0) hi)).mono ?_
  rintro e w1 ⟨rfl, hk1⟩
  have k1 := k0.trans hk1
  rw [HE.out]
  obtain ⟨rb, re⟩ := r
  go_wp2
  go_ret2
  exact ⟨rfl, k1⟩
set_option maxHeartbeats 400000 in
theorem EncodeRecord1_any (W0 : World) (g b : Nat) (l : List Int) (cs : List Value) (x : Record) (w : World) (hk : Kp W0 w) (hw : Wr W0.heap.size w g l) (hv : RecordV W0 (.agg cs.toArray) x) (hroom : Room l (numRecord x).length) (hrg : w.rangeAt b 0 cs)
    (hi : (Try.prog.info? 46).map (·.size) = some cs.length) : Writes W0 g l (numRecord x) 50 #[.pointer (some ⟨g, 0, none⟩), .pointer (some ⟨b, 0, none⟩)] w := by
  go_enter Try.func50, Try.ntmps50
  go_wp2_with (refine wpList_load_mid rfl 46 (.tmp 1) rfl b 0 rfl cs _ hrg Try.underlying46 rfl hi ?_)
  refine (wRecord_any W0 g l _ x w hk hw hv hroom).mono ?_
  rintro e w1 ⟨rfl, hw1, hx1⟩
  go_wp2
  go_end0
  exact ⟨rfl, hw1, hx1⟩
theorem EncodeRecord1_real : Real Try.prog 50 := ⟨_, Try.func50, by kernel_rfl, by kernel_rfl⟩
/-- what is answered when a record is written -/
def encR (x : Record) : List UInt8 × Int := if formedB x then encE (numRecord x) else ([], 1)
set_option maxHeartbeats 400000 in
theorem EncodeRecord_any (val : Value) (x : Record) (w : World) (hv : RecordV w val x) (hroom1 : Room [] (numPart x false).length) (hroom : Room [] (numRecord x).length) :
    Calls Try.prog 21 #[val] w fun e w' => e = retE (encR x) ∧ Kp w w' := by
  have HF : Hid (encR x = if formedB x then encE (numRecord x) else ([], 1)) := hid rfl
  generalize encR x = r at *
  obtain ⟨cs, rfl, hcs⟩ := hv.cells
  have k0 := (Kp.refl w).alloc (.cells cs.toArray 46)
  have r0 := range_box w cs 46
  have hi : (Try.prog.info? 46).map (·.size) = some cs.length := by rw [hcs]; kernel_rfl
  have hv0 := hv.kp k0
  go_enter Try.func21, Try.ntmps21
  go_wp2_with (refine wpList_load_mid rfl 46 (.tmp 1) rfl w.heap.size 0 rfl cs _ r0 Try.underlying46 rfl hi ?_)
  refine (formed_any _ x _ hv0 hroom1).mono ?_
  rintro e w1 ⟨rfl, hk1⟩
  have k1 := k0.trans hk1
  have r1 := hk1.range r0
  have hv1 := hv0.kp hk1
  clear k0 r0 hv0
  by_cases hb : formedB x = true
  · have HG : Hid (r = encE (numRecord x)) := hid (by rw [HF.out, if_pos hb])
    rw [hb]
    go_wp2_with fail
    refine (written_any (numRecord x) 50 [.pointer (some ⟨w.heap.size, 0, none⟩)] w1 EncodeRecord1_real (fun w' g hk' hw' => EncodeRecord1_any _ g _ [] cs x w' hk' hw' hv1 hroom (hk'.range r1) hi)).mono ?_
    rintro e w2 ⟨rfl, hk2⟩
    have k2 := k1.trans hk2
    rw [← HG.out]
    obtain ⟨rb, re⟩ := r
    go_wp2
    go_ret2
    exact ⟨rfl, k2⟩
  · have HG : Hid (r = ([], 1)) := hid (by rw [HF.out, if_neg hb])
    have hb' : formedB x = false := by simpa using hb
    rw [hb']
    go_wp2
    go_ret2
    exact ⟨by rw [HG.out]; rfl, k1⟩
end Go.Proofs.Ytmeafoakbkjifaa
