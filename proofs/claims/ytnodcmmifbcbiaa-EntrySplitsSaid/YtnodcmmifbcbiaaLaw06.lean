/- The laws of layer 6 return true, by walks over their text. -/
import Derived.Test.YtnodcmmifbcbiaaRef06
namespace Go.Proofs.Ytnodcmmifbcbiaa
set_option linter.unusedSimpArgs false
set_option linter.unusedVariables false
open Go.RowKit
set_option maxHeartbeats 1000000

theorem awake06 (w : World) : Calls Try.prog 12 #[] w fun e w' => e = .returned (.bool true) ∧ Below w.heap.size w w' := by
  have h1 : wI true true false 3 = 771 := by decide
  have h2 : wE true true false 3 = 0 := by decide
  have h3 : idxI 2748 1 = 11 := by decide
  have H1 := Lib.hid h1; have H2 := Lib.hid h2; have H3 := Lib.hid h3; clear h1 h2 h3
  go_enter Try.func12, Try.ntmps12
  go_wp2_with (first
    | (go_at_call 18; refine (word_any _ _ _ _ _).mono ?_; rintro e w1 ⟨rfl, hb⟩; rw [H1.out, H2.out])
    | (go_at_call 14; refine (index_yes _ _ _ (by omega) (by omega) (by omega) (by omega)).mono ?_; rintro e w2 ⟨rfl, rfl⟩; rw [H3.out])
    | (go_at_call 13; refine (split_yes _ _ (by omega) (by omega)).mono ?_; rintro e w3 ⟨rfl, rfl⟩))
  go_ret
  exact ⟨rfl, hb⟩

/-- The words of an int. -/
def I64 (a : Int) : Prop := -9223372036854775808 ≤ a ∧ a ≤ 9223372036854775807

theorem entrySplits_walk (a : Int) (ha : I64 a) (w : World) : Calls Try.prog 3 #[.int .i64 a] w fun e w' => e = .returned (.bool true) ∧ Below w.heap.size w w' := by
  obtain ⟨ha0, ha1⟩ := ha
  by_cases h : 0 ≤ a ∧ a < 65536
  · obtain ⟨h0, h1⟩ := h
    have e1 : idxI (a / 16) 0 = a / 16 / 256 := rfl
    have e2 : idxI (a / 16) 1 = a / 16 / 16 % 16 := rfl
    have e3 : idxI (a / 16) 2 = a / 16 % 16 := rfl
    have b1 : 0 ≤ a / 16 / 256 ∧ a / 16 / 256 < 16 := by omega
    have b2 : 0 ≤ a / 16 / 16 % 16 ∧ a / 16 / 16 % 16 < 16 := by omega
    have b3 : 0 ≤ a / 16 % 16 ∧ a / 16 % 16 < 16 := by omega
    have b4 : 0 ≤ a % 16 ∧ a % 16 < 16 := by omega
    have b5 : (4096 * (a / 16 / 256) + 256 * (a / 16 / 16 % 16) + 16 * (a / 16 % 16) + a % 16 == a) = true := by rw [beq_iff_eq]; omega
    have H1 := Lib.hid e1; have H2 := Lib.hid e2; have H3 := Lib.hid e3; clear e1 e2 e3
    go_enter Try.func3, Try.ntmps3
    go_wp2_with (fail)
    refine (awake06 _).mono ?_
    rintro e w1 ⟨rfl, hb⟩
    go_wp2_with (fail)
    refine (split_yes _ _ (by omega) (by omega)).mono ?_
    rintro e w2 ⟨rfl, rfl⟩
    go_wp2_with (fail)
    refine (index_yes _ _ _ (by omega) (by omega) (by omega) (by omega)).mono ?_
    rintro e w2 ⟨rfl, rfl⟩
    rw [H1.out]
    go_wp2_with (fail)
    refine (index_yes _ _ _ (by omega) (by omega) (by omega) (by omega)).mono ?_
    rintro e w2 ⟨rfl, rfl⟩
    rw [H2.out]
    go_wp2_with (fail)
    refine (index_yes _ _ _ (by omega) (by omega) (by omega) (by omega)).mono ?_
    rintro e w2 ⟨rfl, rfl⟩
    rw [H3.out]
    go_wp2_with (fail)
    go_ret
    exact ⟨rfl, hb⟩
  · have hh : a < 0 ∨ (¬ a < 0 ∧ 65535 < a) := by omega
    rcases hh with h' | ⟨h', h''⟩
    all_goals
      go_enter Try.func3, Try.ntmps3
      go_wp2_with (first
        | (go_at_call 12; refine (awake06 _).mono ?_; rintro e w1 ⟨rfl, hb⟩)
        | (go_at_call 13; refine (split_no _ _ (by omega)).mono ?_; rintro e w2 ⟨rfl, rfl⟩))
      go_ret
      exact ⟨rfl, hb⟩

/-- What entry.Index returns: the place, and the error. -/
def ixP (p l : Int) : Int := if 0 ≤ p ∧ p < 4096 ∧ 0 ≤ l ∧ l < 3 then idxI p l else 0
def ixE (p l : Int) : Int := if 0 ≤ p ∧ p < 4096 ∧ 0 ≤ l ∧ l < 3 then 0 else 1
theorem index_any (p l : Int) (w : World) :
    Calls Try.prog 14 #[.int .i64 p, .int .i64 l] w fun e w' => e = .returned (.tuple #[.int .i64 (ixP p l), .int .i64 (ixE p l)]) ∧ w = w' := by
  unfold ixP ixE
  by_cases h : 0 ≤ p ∧ p < 4096 ∧ 0 ≤ l ∧ l < 3
  · rw [if_pos h, if_pos h]; exact index_yes p l w h.1 h.2.1 h.2.2.1 h.2.2.2
  · rw [if_neg h, if_neg h]; exact index_no p l w h
theorem r06_index_any (p l : Int) (w : World) :
    Calls Try.prog 15 #[.int .i64 p, .int .i64 l] w fun e w' => e = .returned (.tuple #[.int .i64 (ixP p l), .int .i64 (ixE p l)]) ∧ w = w' := by
  unfold ixP ixE
  by_cases h : 0 ≤ p ∧ p < 4096 ∧ 0 ≤ l ∧ l < 3
  · rw [if_pos h, if_pos h]; exact r06_index p l w h.1 h.2.1 h.2.2.1 h.2.2.2
  · rw [if_neg h, if_neg h]; exact r06_index_no p l w h

theorem entryPages_walk (p l a b c : Int) (hp : I64 p) (hl : I64 l) (ha : I64 a) (hb : I64 b) (hc : I64 c) (w : World) :
    Calls Try.prog 4 #[.int .i64 p, .int .i64 l, .agg #[.int .i64 a, .int .i64 b, .int .i64 c]] w fun e w' => e = .returned (.bool true) ∧ Below w.heap.size w w' := by
  have hp2 := hp; have hl2 := hl
  obtain ⟨hp0, hp1⟩ := hp2
  obtain ⟨hl0, hl1⟩ := hl2
  have hh : (p < 0) ∨ (0 ≤ p ∧ p < 65536) ∨ (¬ p < 0 ∧ 65535 < p) := by omega
  rcases hh with h | ⟨h0, h1⟩ | ⟨h0, h1⟩
  all_goals
    go_enter Try.func4, Try.ntmps4
    go_wp2_with (fail)
    refine (awake06 _).mono ?_
    rintro e w1 ⟨rfl, hb1⟩
    have z1 : w.heap.size < w1.heap.size := by have := hb1.size; simp at this; omega
    have c0 : w1.cell? ⟨w.heap.size, 0, none⟩ = some (.int .i64 a) := keep hb1 (by simp) (by simp [go_sem])
    have c1 : w1.cell? ⟨w.heap.size, 1, none⟩ = some (.int .i64 b) := keep hb1 (by simp) (by simp [go_sem])
    have c2 : w1.cell? ⟨w.heap.size, 2, none⟩ = some (.int .i64 c) := keep hb1 (by simp) (by simp [go_sem])
    go_wp2_with (fail)
    refine (index_any _ _ _).mono ?_
    rintro e w2 ⟨rfl, rfl⟩
    go_wp2_with (fail)
    refine (r06_index_any _ _ _).mono ?_
    rintro e w2 ⟨rfl, rfl⟩
    go_wp2_with (fail)
    refine (page_any _ _ _ _ ha hb hc).mono ?_
    rintro e w2 ⟨rfl, hb2⟩
    have d0 := keep hb2 z1 c0
    have d1 := keep hb2 z1 c1
    have d2 := keep hb2 z1 c2
    go_wp2_with (fail)
    refine (r06_page _ _ _ _ ha hb hc).mono ?_
    rintro e w3 ⟨rfl, hb3⟩
    go_wp2_with (fail)
    first
      | (refine (split_yes _ _ (by omega) (by omega)).mono ?_; rintro e w4 ⟨rfl, rfl⟩)
      | (refine (split_no _ _ (by omega)).mono ?_; rintro e w4 ⟨rfl, rfl⟩)
    go_wp2_with (fail)
    go_ret
    refine ⟨by simp, ?_⟩
    have z2 := hb2.size
    refine Below.trans (Below.trans (Below.trans ?_ (hb1.mono (by simp))) (hb2.mono ?_)) (hb3.mono ?_)
    · exact (Below.refl _ _).alloc (Nat.le_refl _) _
    · omega
    · omega

theorem entryWords_walk (v wr tb : Bool) (fr x : Int) (hx : 0 ≤ x) (hx' : x < 18446744073709551616) (w : World) :
    Calls Try.prog 6 #[.agg #[.bool v, .bool wr, .bool tb, .int .i64 fr], .int .u64 x] w fun e w' => e = .returned (.bool true) ∧ Below w.heap.size w w' := by
  go_enter Try.func6, Try.ntmps6
  go_wp2_with (fail)
  refine (awake06 _).mono ?_
  rintro e w1 ⟨rfl, hb1⟩
  have z1 : w.heap.size < w1.heap.size := by have := hb1.size; simp at this; omega
  have c0 : w1.cell? ⟨w.heap.size, 0, none⟩ = some (.bool v) := keep hb1 (by simp) (by simp [go_sem])
  have c1 : w1.cell? ⟨w.heap.size, 1, none⟩ = some (.bool wr) := keep hb1 (by simp) (by simp [go_sem])
  have c2 : w1.cell? ⟨w.heap.size, 2, none⟩ = some (.bool tb) := keep hb1 (by simp) (by simp [go_sem])
  have c3 : w1.cell? ⟨w.heap.size, 3, none⟩ = some (.int .i64 fr) := keep hb1 (by simp) (by simp [go_sem])
  go_wp2_with (fail)
  refine (word_any _ _ _ _ _).mono ?_
  rintro e w2 ⟨rfl, hb2⟩
  have d0 := keep hb2 z1 c0
  have d1 := keep hb2 z1 c1
  have d2 := keep hb2 z1 c2
  have d3 := keep hb2 z1 c3
  go_wp2_with (fail)
  refine (r06_word _ _ _ _ _).mono ?_
  rintro e w3 ⟨rfl, hb3⟩
  go_wp2_with (fail)
  refine (of_any _ _ hx hx').mono ?_
  rintro e w4 ⟨rfl, hb4⟩
  go_wp2_with (fail)
  refine (r06_of _ _ hx hx').mono ?_
  rintro e w5 ⟨rfl, hb5⟩
  have f0 : w5.cell? ⟨w4.heap.size, 0, none⟩ = some (.bool (oV x)) := keep hb5 (by simp) (by simp [go_sem])
  have f1 : w5.cell? ⟨w4.heap.size, 1, none⟩ = some (.bool (oW x)) := keep hb5 (by simp) (by simp [go_sem])
  have f2 : w5.cell? ⟨w4.heap.size, 2, none⟩ = some (.bool (oT x)) := keep hb5 (by simp) (by simp [go_sem])
  have f3 : w5.cell? ⟨w4.heap.size, 3, none⟩ = some (.int .i64 (oF x)) := keep hb5 (by simp) (by simp [go_sem])
  have z5 : w4.heap.size < w5.heap.size := by have := hb5.size; simp at this; omega
  go_wp2_with (fail)
  go_ret
  refine ⟨by simp, ?_⟩
  have k1 : Below w.heap.size w w1 := ((Below.refl _ _).alloc (Nat.le_refl _) _).trans (hb1.mono (by simp))
  have k2 := k1.trans (hb2.mono k1.size)
  have k3 := k2.trans (hb3.mono k2.size)
  have k4 := k3.trans (hb4.mono k3.size)
  have k5 := (k4.alloc k4.size _).trans (hb5.mono (by have := k4.size; simp; omega))
  exact k5.alloc k5.size _

theorem b_eq (a b : Bool) : (a == b) = true ↔ a = b := by cases a <;> cases b <;> simp

/-- What was read of a word, as a word: it is that word. -/
theorem of_right (x : Int) (h : ofB x = true) : rightB (pV x) (pW x) (pT x) (pF x) = true ∧ wordI (pV x) (pW x) (pT x) (pF x) = x := by
  simpa [ofB] using h
/-- An entry that may be is read of its word as it was. -/
theorem parts_of_word (v wr tb : Bool) (fr : Int) (h : rightB v wr tb fr = true) :
    pV (wordI v wr tb fr) = v ∧ pW (wordI v wr tb fr) = wr ∧ pT (wordI v wr tb fr) = tb ∧ pF (wordI v wr tb fr) = fr := by
  obtain ⟨h0, h1⟩ := right_bd h
  cases v <;> cases wr <;> cases tb <;> simp [pV, pW, pT, pF, wordI, flagI] <;> omega
theorem word_ofB (v wr tb : Bool) (fr : Int) (h : rightB v wr tb fr = true) : ofB (wordI v wr tb fr) = true := by
  obtain ⟨a, b, c, d⟩ := parts_of_word v wr tb fr h
  simp [ofB, a, b, c, d, h]
theorem word_bd (v wr tb : Bool) (fr : Int) (h : rightB v wr tb fr = true) : 0 ≤ wordI v wr tb fr ∧ wordI v wr tb fr < 65536 := by
  obtain ⟨h0, h1⟩ := right_bd h
  cases v <;> cases wr <;> cases tb <;> simp [wordI, flagI] <;> omega
theorem wI_bd (v wr tb : Bool) (fr : Int) : 0 ≤ wI v wr tb fr ∧ wI v wr tb fr < 65536 := by
  unfold wI
  cases h : rightB v wr tb fr
  · simp
  · simpa using word_bd v wr tb fr h

theorem entryBack_walk (v wr tb : Bool) (fr x : Int) (hx : 0 ≤ x) (hx' : x < 18446744073709551616) (w : World) :
    Calls Try.prog 7 #[.agg #[.bool v, .bool wr, .bool tb, .int .i64 fr], .int .u64 x] w fun e w' => e = .returned (.bool true) ∧ Below w.heap.size w w' := by
  have hwb := wI_bd v wr tb fr
  go_enter Try.func7, Try.ntmps7
  go_wp2_with (fail)
  refine (awake06 _).mono ?_
  rintro e w1 ⟨rfl, hb1⟩
  have k1 : Below w.heap.size w w1 := ((Below.refl _ _).alloc (Nat.le_refl _) _).trans (hb1.mono (by simp))
  have z1 : w.heap.size < w1.heap.size := by have := hb1.size; simp at this; omega
  have c0 : w1.cell? ⟨w.heap.size, 0, none⟩ = some (.bool v) := keep hb1 (by simp) (by simp [go_sem])
  have c1 : w1.cell? ⟨w.heap.size, 1, none⟩ = some (.bool wr) := keep hb1 (by simp) (by simp [go_sem])
  have c2 : w1.cell? ⟨w.heap.size, 2, none⟩ = some (.bool tb) := keep hb1 (by simp) (by simp [go_sem])
  have c3 : w1.cell? ⟨w.heap.size, 3, none⟩ = some (.int .i64 fr) := keep hb1 (by simp) (by simp [go_sem])
  go_wp2_with (fail)
  refine (word_any _ _ _ _ _).mono ?_
  rintro e w2 ⟨rfl, hb2⟩
  have z2 : w.heap.size < w2.heap.size := by have := hb2.size; omega
  have k2 := k1.trans (hb2.mono k1.size)
  have d0 := keep hb2 z1 c0
  have d1 := keep hb2 z1 c1
  have d2 := keep hb2 z1 c2
  have d3 := keep hb2 z1 c3
  go_wp2_with (fail)
  refine (of_any _ _ (by omega) (by omega)).mono ?_
  rintro e w3 ⟨rfl, hb3⟩
  have k3 := k2.trans (hb3.mono k2.size)
  have e0 := keep hb3 z2 d0
  have e1 := keep hb3 z2 d1
  have e2 := keep hb3 z2 d2
  have e3 := keep hb3 z2 d3
  have z3 : w.heap.size < w3.heap.size := by have := hb3.size; omega
  clear c0 c1 c2 c3 d0 d1 d2 d3
  cases hr : rightB v wr tb fr
  · have hE : (wE v wr tb fr == 0) = false := by simp [wE, hr]
    go_wp2_with (fail)
    refine (of_any _ _ hx hx').mono ?_
    rintro e w4 ⟨rfl, hb4⟩
    have z4 := hb4.size
    have k4 : Below w.heap.size w w4 := ((k3.alloc k3.size _)).trans (hb4.mono (by have := k3.size; simp; omega))
    cases ho : ofB x
    · have g0 : oE x = 1 := by simp [oE, ho]
      rw [g0]
      clear g0
      go_wp2_with (fail)
      refine (word_any _ _ _ _ _).mono ?_
      rintro e w5 ⟨rfl, hb5⟩
      go_wp2_with (fail)
      go_ret
      exact ⟨rfl, (k4.alloc k4.size _).trans (hb5.mono (by have := k4.size; simp; omega))⟩
    · obtain ⟨r1, r2⟩ := of_right x ho
      have g0 : oE x = 0 := by simp [oE, ho]
      have g1 : wI (oV x) (oW x) (oT x) (oF x) = x := by simp [oV, oW, oT, oF, ho, wI, r1, r2]
      have g2 : wE (oV x) (oW x) (oT x) (oF x) = 0 := by simp [oV, oW, oT, oF, ho, wE, r1]
      have G1 := Lib.hid g1
      have G2 := Lib.hid g2
      rw [g0]
      clear g0 g1 g2 r1 r2
      go_wp2_with (fail)
      refine (word_any _ _ _ _ _).mono ?_
      rintro e w5 ⟨rfl, hb5⟩
      rw [G1.out, G2.out]
      go_wp2_with (fail)
      go_ret
      exact ⟨rfl, (k4.alloc k4.size _).trans (hb5.mono (by have := k4.size; simp; omega))⟩
  · have hE : (wE v wr tb fr == 0) = true := by simp [wE, hr]
    have hW : wI v wr tb fr = wordI v wr tb fr := by simp [wI, hr]
    have hB := word_ofB v wr tb fr hr
    obtain ⟨p1, p2, p3, p4⟩ := parts_of_word v wr tb fr hr
    have q0 : oE (wI v wr tb fr) = 0 := by simp [hW, oE, hB]
    have q1 : oV (wI v wr tb fr) = v := by simp [hW, oV, hB, p1]
    have q2 : oW (wI v wr tb fr) = wr := by simp [hW, oW, hB, p2]
    have q3 : oT (wI v wr tb fr) = tb := by simp [hW, oT, hB, p3]
    have q4 : oF (wI v wr tb fr) = fr := by simp [hW, oF, hB, p4]
    rw [q0, q1, q2, q3, q4]
    clear p1 p2 p3 p4 q0 q1 q2 q3 q4 hW hB
    go_wp2_with (fail)
    refine (of_any _ _ hx hx').mono ?_
    rintro e w4 ⟨rfl, hb4⟩
    have z4 := hb4.size
    have k4 : Below w.heap.size w w4 := ((k3.alloc k3.size _)).trans (hb4.mono (by have := k3.size; simp; omega))
    cases ho : ofB x
    · have g0 : oE x = 1 := by simp [oE, ho]
      rw [g0]
      clear g0
      go_wp2_with (fail)
      refine (word_any _ _ _ _ _).mono ?_
      rintro e w5 ⟨rfl, hb5⟩
      go_wp2_with (fail)
      go_ret
      exact ⟨rfl, (k4.alloc k4.size _).trans (hb5.mono (by have := k4.size; simp; omega))⟩
    · obtain ⟨r1, r2⟩ := of_right x ho
      have g0 : oE x = 0 := by simp [oE, ho]
      have g1 : wI (oV x) (oW x) (oT x) (oF x) = x := by simp [oV, oW, oT, oF, ho, wI, r1, r2]
      have g2 : wE (oV x) (oW x) (oT x) (oF x) = 0 := by simp [oV, oW, oT, oF, ho, wE, r1]
      have G1 := Lib.hid g1
      have G2 := Lib.hid g2
      rw [g0]
      clear g0 g1 g2 r1 r2
      go_wp2_with (fail)
      refine (word_any _ _ _ _ _).mono ?_
      rintro e w5 ⟨rfl, hb5⟩
      rw [G1.out, G2.out]
      go_wp2_with (fail)
      go_ret
      exact ⟨rfl, (k4.alloc k4.size _).trans (hb5.mono (by have := k4.size; simp; omega))⟩


theorem entryPlaces_walk (p a b c : Int) (hp : I64 p) (ha : I64 a) (hb : I64 b) (hc : I64 c) (w : World) :
    Calls Try.prog 5 #[.int .i64 p, .agg #[.int .i64 a, .int .i64 b, .int .i64 c]] w fun e w' => e = .returned (.bool true) ∧ Below w.heap.size w w' := by
  have hp2 := hp
  obtain ⟨hp0, hp1⟩ := hp2
  by_cases h : 0 ≤ p ∧ p < 4096
  · obtain ⟨h0, h1⟩ := h
    have hq : decide (p ≤ 4095) = true := by simp; omega
    have P1 : Hid (pageP (idxI p 0) (idxI p 1) (idxI p 2) = p) := by
      have : pageB (idxI p 0) (idxI p 1) (idxI p 2) = true := by rw [pageB_iff]; simp [idxI]; omega
      show _ = _
      rw [pageP, if_pos this]; simp [idxI]; omega
    have P2 : Hid (pageE (idxI p 0) (idxI p 1) (idxI p 2) = 0) := by
      have : pageB (idxI p 0) (idxI p 1) (idxI p 2) = true := by rw [pageB_iff]; simp [idxI]; omega
      show _ = _
      rw [pageE, if_pos this]
    go_enter Try.func5, Try.ntmps5
    go_wp2_with (fail)
    refine (awake06 _).mono ?_
    rintro e w1 ⟨rfl, hb1⟩
    have z1 : w.heap.size < w1.heap.size := by have := hb1.size; simp at this; omega
    have c0 : w1.cell? ⟨w.heap.size, 0, none⟩ = some (.int .i64 a) := keep hb1 (by simp) (by simp [go_sem])
    have c1 : w1.cell? ⟨w.heap.size, 1, none⟩ = some (.int .i64 b) := keep hb1 (by simp) (by simp [go_sem])
    have c2 : w1.cell? ⟨w.heap.size, 2, none⟩ = some (.int .i64 c) := keep hb1 (by simp) (by simp [go_sem])
    go_wp2_with (fail)
    refine wp_loop_rounds 4 ?_
    iterate 3
      rw [rounds_succ]
      go_wp2_with (fail)
      refine (index_yes _ _ _ h0 h1 (by omega) (by omega)).mono ?_
      rintro e w2 ⟨rfl, rfl⟩
      go_wp2_with (fail)
    rw [rounds_succ]
    go_wp2_with (fail)
    refine (page_any _ _ _ _ (by unfold idxI; simp; omega) (by unfold idxI; simp; omega) (by unfold idxI; simp; omega)).mono ?_
    rintro e w2 ⟨rfl, hb2⟩
    rw [P1.out, P2.out]
    have z2 : w.heap.size < w2.heap.size := by have := hb2.size; simp at this; omega
    have d0 : w2.cell? ⟨w.heap.size, 0, none⟩ = some (.int .i64 a) := keep hb2 (by simp; omega) (by simp [go_sem, c0, z1])
    have d1 : w2.cell? ⟨w.heap.size, 1, none⟩ = some (.int .i64 b) := keep hb2 (by simp; omega) (by simp [go_sem, c1, z1])
    have d2 : w2.cell? ⟨w.heap.size, 2, none⟩ = some (.int .i64 c) := keep hb2 (by simp; omega) (by simp [go_sem, c2, z1])
    go_wp2_with (fail)
    have k2 : Below w.heap.size w w2 := (((Below.refl _ _).alloc (Nat.le_refl _) _).trans (hb1.mono (by simp))).alloc (by omega) _ |>.trans (hb2.mono (by simp; omega))
    refine (page_any _ _ _ _ ha hb hc).mono ?_
    rintro e w3 ⟨rfl, hb3⟩
    have k3 := k2.trans (hb3.mono k2.size)
    have e0 := keep hb3 z2 d0
    have e1 := keep hb3 z2 d1
    have e2 := keep hb3 z2 d2
    cases hB : pageB a b c
    · have q1 : pageP a b c = 0 := by simp [pageP, hB]
      have q2 : pageE a b c = 1 := by simp [pageE, hB]
      rw [q1, q2]
      clear q1 q2
      go_wp2_with (fail)
      refine wp_loop_rounds 1 ?_
      rw [rounds_succ]
      go_wp2_with (fail)
      go_ret
      exact ⟨rfl, k3⟩
    · have hB' := (pageB_iff a b c).1 hB
      obtain ⟨⟨a0, a1⟩, ⟨b0, b1⟩, ⟨g0, g1⟩⟩ := hB'
      have q1 : pageP a b c = 256 * a + 16 * b + c := by simp [pageP, hB]
      have q2 : pageE a b c = 0 := by simp [pageE, hB]
      have r0 : Hid (idxI (256 * a + 16 * b + c) 0 = a) := by show _ = _; simp [idxI]; omega
      have r1 : Hid (idxI (256 * a + 16 * b + c) 1 = b) := by show _ = _; simp [idxI]; omega
      have r2 : Hid (idxI (256 * a + 16 * b + c) 2 = c) := by show _ = _; simp [idxI]; omega
      rw [q1, q2]
      clear q1 q2
      go_wp2_with (fail)
      refine wp_loop_rounds 4 ?_
      rw [rounds_succ]
      go_wp2_with (fail)
      refine (index_yes _ _ _ (by omega) (by omega) (by omega) (by omega)).mono ?_
      rintro e w4 ⟨rfl, rfl⟩
      rw [r0.out]
      go_wp2_with (fail)
      rw [rounds_succ]
      go_wp2_with (fail)
      refine (index_yes _ _ _ (by omega) (by omega) (by omega) (by omega)).mono ?_
      rintro e w4 ⟨rfl, rfl⟩
      rw [r1.out]
      go_wp2_with (fail)
      rw [rounds_succ]
      go_wp2_with (fail)
      refine (index_yes _ _ _ (by omega) (by omega) (by omega) (by omega)).mono ?_
      rintro e w4 ⟨rfl, rfl⟩
      rw [r2.out]
      go_wp2_with (fail)
      rw [rounds_succ]
      go_wp2_with (fail)
      go_ret
      exact ⟨rfl, k3⟩
  · have hh : p < 0 ∨ (¬ p < 0 ∧ 4095 < p) := by omega
    have P1 : Hid (pageP 0 0 0 = 0) := rfl
    have P2 : Hid (pageE 0 0 0 = 0) := rfl
    have hq : decide (0 ≤ p) = true → decide (p ≤ 4095) = false := by simp; omega
    go_enter Try.func5, Try.ntmps5
    go_wp2_with (fail)
    refine (awake06 _).mono ?_
    rintro e w1 ⟨rfl, hb1⟩
    have z1 : w.heap.size < w1.heap.size := by have := hb1.size; simp at this; omega
    have c0 : w1.cell? ⟨w.heap.size, 0, none⟩ = some (.int .i64 a) := keep hb1 (by simp) (by simp [go_sem])
    have c1 : w1.cell? ⟨w.heap.size, 1, none⟩ = some (.int .i64 b) := keep hb1 (by simp) (by simp [go_sem])
    have c2 : w1.cell? ⟨w.heap.size, 2, none⟩ = some (.int .i64 c) := keep hb1 (by simp) (by simp [go_sem])
    go_wp2_with (fail)
    refine wp_loop_rounds 4 ?_
    iterate 3
      rw [rounds_succ]
      go_wp2_with (fail)
      refine (index_no _ _ _ (by omega)).mono ?_
      rintro e w2 ⟨rfl, rfl⟩
      go_wp2_with (fail)
    rw [rounds_succ]
    have hx : (false != (decide (0 ≤ p) && decide (p ≤ 4095))) = false := by simp; omega
    rcases hh with hp3 | ⟨hp3, hp4⟩
    all_goals
      go_wp2_with (fail)
      refine (page_any _ _ _ _ (by omega) (by omega) (by omega)).mono ?_
      rintro e w2 ⟨rfl, hb2⟩
      rw [P1.out, P2.out]
      have z2 : w.heap.size < w2.heap.size := by have := hb2.size; simp at this; omega
      have d0 : w2.cell? ⟨w.heap.size, 0, none⟩ = some (.int .i64 a) := keep hb2 (by simp; omega) (by simp [go_sem, c0, z1])
      have d1 : w2.cell? ⟨w.heap.size, 1, none⟩ = some (.int .i64 b) := keep hb2 (by simp; omega) (by simp [go_sem, c1, z1])
      have d2 : w2.cell? ⟨w.heap.size, 2, none⟩ = some (.int .i64 c) := keep hb2 (by simp; omega) (by simp [go_sem, c2, z1])
      go_wp2_with (fail)
      have k2 : Below w.heap.size w w2 := (((Below.refl _ _).alloc (Nat.le_refl _) _).trans (hb1.mono (by simp))).alloc (by omega) _ |>.trans (hb2.mono (by simp; omega))
      refine (page_any _ _ _ _ ha hb hc).mono ?_
      rintro e w3 ⟨rfl, hb3⟩
      have k3 := k2.trans (hb3.mono k2.size)
      have e0 := keep hb3 z2 d0
      have e1 := keep hb3 z2 d1
      have e2 := keep hb3 z2 d2
      cases hB : pageB a b c
      · have q1 : pageP a b c = 0 := by simp [pageP, hB]
        have q2 : pageE a b c = 1 := by simp [pageE, hB]
        rw [q1, q2]
        clear q1 q2
        go_wp2_with (fail)
        refine wp_loop_rounds 1 ?_
        rw [rounds_succ]
        go_wp2_with (fail)
        go_ret
        exact ⟨rfl, k3⟩
      · have hB' := (pageB_iff a b c).1 hB
        obtain ⟨⟨a0, a1⟩, ⟨b0, b1⟩, ⟨g0, g1⟩⟩ := hB'
        have q1 : pageP a b c = 256 * a + 16 * b + c := by simp [pageP, hB]
        have q2 : pageE a b c = 0 := by simp [pageE, hB]
        have r0 : Hid (idxI (256 * a + 16 * b + c) 0 = a) := by show _ = _; simp [idxI]; omega
        have r1 : Hid (idxI (256 * a + 16 * b + c) 1 = b) := by show _ = _; simp [idxI]; omega
        have r2 : Hid (idxI (256 * a + 16 * b + c) 2 = c) := by show _ = _; simp [idxI]; omega
        rw [q1, q2]
        clear q1 q2
        go_wp2_with (fail)
        refine wp_loop_rounds 4 ?_
        rw [rounds_succ]
        go_wp2_with (fail)
        refine (index_yes _ _ _ (by omega) (by omega) (by omega) (by omega)).mono ?_
        rintro e w4 ⟨rfl, rfl⟩
        rw [r0.out]
        go_wp2_with (fail)
        rw [rounds_succ]
        go_wp2_with (fail)
        refine (index_yes _ _ _ (by omega) (by omega) (by omega) (by omega)).mono ?_
        rintro e w4 ⟨rfl, rfl⟩
        rw [r1.out]
        go_wp2_with (fail)
        rw [rounds_succ]
        go_wp2_with (fail)
        refine (index_yes _ _ _ (by omega) (by omega) (by omega) (by omega)).mono ?_
        rintro e w4 ⟨rfl, rfl⟩
        rw [r2.out]
        go_wp2_with (fail)
        rw [rounds_succ]
        go_wp2_with (fail)
        go_ret
        exact ⟨rfl, k3⟩

end Go.Proofs.Ytnodcmmifbcbiaa
