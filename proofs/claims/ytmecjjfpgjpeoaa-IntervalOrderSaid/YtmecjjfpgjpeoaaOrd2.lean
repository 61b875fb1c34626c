
/-
What slices.Reverse of rows of the call's own does, for any input.
-/
import Derived.Test.YtmecjjfpgjpeoaaOrd1
namespace Go.Proofs.Ytmecjjfpgjpeoaa
open Go.RowKit

theorem encS_form (x : RawRow) : ∃ A n c, encS x = [.slice A n c, .int .i64 x.bound] := by
  unfold encS
  split
  · exact ⟨_, _, _, rfl⟩
  · exact ⟨none, 0, 0, rfl⟩
section
variable {e base : Nat} {w : World} {g c n : Nat} {l : List RawRow}
theorem Own.rawSet (h : Own encS e 2 base w (.slice (some ⟨g, 0, none⟩) n c) l) (hn : n = l.length) {k : Nat} (hk : k < l.length) (x : RawRow) {A : Option Addr} {m d : Nat} {b : Int} (hx : encS x = [.slice A m d, .int .i64 b]) :
    Own encS e 2 base ((w.setCell ⟨g, k * 2, none⟩ (.slice A m d)).setCell ⟨g, k * 2 + 1, none⟩ (.int .i64 b)) (.slice (some ⟨g, 0, none⟩) n c) (l.set k x) := by
  subst hn
  have hb : b = x.bound := by obtain ⟨_, _, _, h2⟩ := encS_form x; rw [h2] at hx; simp at hx; exact hx.2.symm
  subst hb
  have h0 : encS ⟨.slice A m d, l[k].bound⟩ = [.slice A m d, .int .i64 l[k].bound] := rfl
  have h1 := Own.set (k := k) (j := 0) (u := .slice A m d) (x := ⟨.slice A m d, l[k].bound⟩) encS_len h hk (by omega) (fun _ => by rw [h0]; rfl)
  have h2 := Own.set (l := l.set k ⟨.slice A m d, l[k].bound⟩) (g := g) (c := c) (k := k) (j := 1) (u := .int .i64 x.bound) (x := x) encS_len (by simpa using h1) (by simpa using hk) (by omega) (fun _ => by rw [List.getElem_set_self, h0, hx]; rfl)
  simpa using h2
end

set_option maxHeartbeats 4000000 in
theorem Reverse_any (v : Value) (l : List RawRow) (w0 w : World) (hown : Own encS 41 2 w0.heap.size w v l) (hk : Kp w0 w) :
    Calls Try.prog 38 #[v] w fun e w' => e = .returned (.tuple #[]) ∧ Own encS 41 2 w0.heap.size w' v l.reverse ∧ Kp w0 w' := by
  rcases Nat.eq_zero_or_pos l.length with h0 | hpos
  · have h0' : l = [] := List.eq_nil_of_length_eq_zero h0
    subst h0'
    obtain ⟨A, c, rfl, hc, hm⟩ := hown.form
    rw [List.length_nil] at *
    go_enter Try.func38, Try.ntmps38
    go_wp2
    go_loopw [2, 3] (fun i j wr => i = .int .i64 0 ∧ j = .int .i64 (-1) ∧ wr = w) (fun _ _ _ => 0)
    case atStart => exact ⟨rfl, rfl, rfl⟩
    case round =>
      obtain ⟨rfl, rfl, rfl⟩ := hrel
      go_wp2
      go_end0
      exact ⟨rfl, hown, hk⟩
  · obtain ⟨g, c, rfl, hc, hm, hg, hgl⟩ := hown.row hpos
    have hn : l.length ≤ 9223372036854775807 := by omega
    generalize hnl : l.length = n at *
    have HN := hid hnl
    clear hnl
    go_enter Try.func38, Try.ntmps38
    go_wp2
    go_loopw [2, 3] (fun i j wr => ∃ (k : Nat) (dk : List RawRow), k ≤ n ∧ i = .int .i64 k ∧ j = .int .i64 ((n : Int) - 1 - k) ∧ Hid (dk.length = n) ∧ Own encS 41 2 w0.heap.size wr (.slice (some ⟨g, 0, none⟩) n c) dk ∧ Kp w0 wr ∧ Hid (∀ m, m < n → dk[m]? = if m < k ∨ n ≤ m + k then l[n - 1 - m]? else l[m]?)) (fun i _ _ => n - (intOf i).toNat)
    case atStart => exact ⟨0, l, Nat.zero_le _, rfl, by simp, HN, hown, hk, hid (fun m hm => by rw [if_neg (by omega)])⟩
    case round =>
      clear hk hown
      obtain ⟨k, dk, hkn, rfl, rfl, HL, hown, hk, HD⟩ := hrel
      by_cases hlt : 2 * k + 1 < n
      · obtain ⟨jn, hjn⟩ : ∃ jn : Nat, (n : Int) - 1 - k = jn := ⟨n - 1 - k, by omega⟩
        rw [hjn]
        have hj : jn < n := by omega
        have hkj : k < jn := by omega
        have hk' : k < n := by omega
        have Hjn := hid hjn
        clear hjn
        have hkd : k < dk.length := by rw [HL.out]; exact hk'
        have hjd : jn < dk.length := by rw [HL.out]; exact hj
        obtain ⟨A1, n1, c1, hE1⟩ := encS_form dk[k]
        obtain ⟨A2, n2, c2, hE2⟩ := encS_form dk[jn]
        have y1 := hown.cellAt encS_len HL.out.symm hkd (j := 0) (by omega)
        have y2 := hown.cellAt encS_len HL.out.symm hkd (j := 1) (by omega)
        have z1 := hown.cellAt encS_len HL.out.symm hjd (j := 0) (by omega)
        have z2 := hown.cellAt encS_len HL.out.symm hjd (j := 1) (by omega)
        have fr := hown.frozen HL.out.symm
        rw [hE1] at y1 y2
        rw [hE2] at z1 z2
        have y1 : wr.cell? ⟨g, k * 2, none⟩ = some (.slice A1 n1 c1) := y1
        have y2 : wr.cell? ⟨g, k * 2 + 1, none⟩ = some (.int .i64 dk[k].bound) := y2
        have z1 : wr.cell? ⟨g, jn * 2, none⟩ = some (.slice A2 n2 c2) := z1
        have z2 : wr.cell? ⟨g, jn * 2 + 1, none⟩ = some (.int .i64 dk[jn].bound) := z2
        have m1 : ¬ k * 2 = jn * 2 := by omega
        have m2 : ¬ k * 2 + 1 = jn * 2 := by omega
        have m3 : ¬ k * 2 = jn * 2 + 1 := by omega
        have m4 : ¬ k * 2 + 1 = jn * 2 + 1 := by omega
        have m5 : ¬ k = jn := by omega
        have O1 := hown.drew.rawSet HL.out.symm hkd dk[jn] hE2
        have O2 := O1.rawSet (by rw [List.length_set]; exact HL.out.symm) (k := jn) (by rw [List.length_set]; exact hjd) dk[k] hE1
        have HD2 : Hid (∀ m, m < n → ((dk.set k dk[jn]).set jn dk[k])[m]? = if m < k + 1 ∨ n ≤ m + (k + 1) then l[n - 1 - m]? else l[m]?) := hid (fun m hm => by
          have e1 := HD.out k hk'
          have e2 := HD.out jn hj
          have e3 := HD.out m hm
          have := Hjn.out
          rw [List.getElem?_eq_getElem hkd, if_neg (by omega)] at e1
          rw [List.getElem?_eq_getElem hjd, if_neg (by omega)] at e2
          rw [List.getElem?_set, List.getElem?_set]
          by_cases hmj : jn = m
          · subst hmj
            rw [if_pos rfl, if_pos (by rw [List.length_set]; exact hjd), if_pos (by omega), e1]
            congr 1
            omega
          · rw [if_neg hmj]
            by_cases hmk : k = m
            · subst hmk
              rw [if_pos rfl, if_pos hkd, if_pos (by omega), e2]
              congr 1
              omega
            · rw [if_neg hmk, e3]
              by_cases hc : m < k ∨ n ≤ m + k
              · rw [if_pos hc, if_pos (by omega)]
              · rw [if_neg hc, if_neg (by omega)])
        have HL2 : Hid (((dk.set k dk[jn]).set jn dk[k]).length = n) := hid (by rw [List.length_set, List.length_set]; exact HL.out)
        have HO := hid O2
        clear O1 O2 HD hE1 hE2 hown
        generalize (dk.set k dk[jn]).set jn dk[k] = dk2 at *
        generalize dk[k].bound = b1 at *
        generalize dk[jn].bound = b2 at *
        have q1 : (k : Int) < jn := by omega
        have hgk : w0.heap.size ≤ g := hg
        go_wp2_with fail
        go_region
        all_goals go_wp2
        go_roundw
        case rel => exact ⟨k + 1, dk2, by omega, by go_num, by have := Hjn.out; go_num, HL2, HO.out, (((((hk.drew).set (p := ⟨g, _, none⟩) hgk _).set (p := ⟨g, _, none⟩) hgk _).set (p := ⟨g, _, none⟩) hgk _).set (p := ⟨g, _, none⟩) hgk _), HD2⟩
        case measure => simp [intOf]; omega
      · have d1 : decide ((k : Int) < (n : Int) - 1 - k) = false := by simp; omega
        have HF : Hid (dk = l.reverse) := hid (by
          apply List.ext_getElem?
          intro m
          by_cases hm : m < n
          · rw [HD.out m hm, List.getElem?_reverse (by rw [HN.out]; exact hm), HN.out]
            by_cases hc : m < k ∨ n ≤ m + k
            · rw [if_pos hc]
            · rw [if_neg hc]
              congr 1
              omega
          · rw [List.getElem?_eq_none (by rw [HL.out]; omega), List.getElem?_eq_none (by rw [List.length_reverse, HN.out]; omega)])
        go_wp2
        go_end0
        exact ⟨rfl, by rw [← HF.out]; exact hown, hk⟩
end Go.Proofs.Ytmecjjfpgjpeoaa
