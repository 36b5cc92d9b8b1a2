/- WiresLead: always true. -/
import Derived.Test.YtffacjbnjcolgaaLaw19
namespace Go.Proofs.Ytffacjbnjcolgaa
set_option linter.unusedSimpArgs false
set_option linter.unusedVariables false
set_option maxRecDepth 100000
open Go.RowKit
set_option maxHeartbeats 40000000

/-- May a wire be laid? As the law asks. -/
def mayW (fr to_ kind : Int) : Prop := okW 5 fr to_ ∧ (kind = 0 ∨ kind = 1)
theorem bind_bad (pw : Nat) (id fr to_ kind : Int) (hno : newPort kind = none ∨ ¬ okW id fr to_) (g w : World) (R : HP) (h : Sat g w (wiP pw [] * R)) :
    Calls Try.prog 9 #[.pointer (some ⟨pw, 0, none⟩), .int .i64 id, .int .i64 fr, .int .i64 to_, .int .i64 kind] w fun e w' => e = .returned (.int .i64 1) ∧ Sat g w' (wiP pw [] * R) := by
  refine (s_bind pw [] id fr to_ kind g w R h).mono fun e w' hp => ?_
  cases hp with
  | bad h he hs => exact ⟨he, hs⟩
  | twice _ _ _ hm => obtain ⟨y, hy, e⟩ := hm; cases hy
  | ok x' hx' ho _ he hs => exact hno.elim (fun h => by rw [h] at hx'; cases hx') (fun h => absurd ho h)
theorem unbind_no (pw : Nat) (id : Int) (g w : World) (R : HP) (h : Sat g w (wiP pw [] * R)) :
    Calls Try.prog 10 #[.pointer (some ⟨pw, 0, none⟩), .int .i64 id] w fun e w' => e = .returned (.int .i64 2) ∧ Sat g w' (wiP pw [] * R) := by
  refine (s_unbind pw [] id g w R h).mono fun e w' hp => ?_
  rcases hp with ⟨_, he, hs⟩ | ⟨j, hj, _⟩
  · exact ⟨he, hs⟩
  · simp at hj
theorem new_none (kind : Int) (h0 : (kind == 0) = false) (h1 : (kind == 1) = false) : newPort kind = none := by
  unfold newPort
  rw [if_neg (by simpa using h0), if_neg (by simpa using h1)]
theorem split_no {fr to_ kind : Int} (h : ¬ mayW fr to_ kind) : (decide (0 ≤ fr) = false) ∨ (decide (0 ≤ fr) = true ∧ decide (fr ≤ 7) = false) ∨ (decide (0 ≤ fr) = true ∧ decide (fr ≤ 7) = true ∧ decide (0 ≤ to_) = false) ∨
    (decide (0 ≤ fr) = true ∧ decide (fr ≤ 7) = true ∧ decide (0 ≤ to_) = true ∧ decide (to_ ≤ 7) = false) ∨ (decide (0 ≤ fr) = true ∧ decide (fr ≤ 7) = true ∧ decide (0 ≤ to_) = true ∧ decide (to_ ≤ 7) = true ∧ (fr != to_) = false) ∨
    (decide (0 ≤ fr) = true ∧ decide (fr ≤ 7) = true ∧ decide (0 ≤ to_) = true ∧ decide (to_ ≤ 7) = true ∧ (fr != to_) = true ∧ (kind == 0) = false ∧ (kind == 1) = false) := by
  unfold mayW okW at h
  simp only [decide_eq_true_eq, decide_eq_false_iff_not, bne_iff_ne, bne_eq_false_iff_eq, beq_eq_false_iff_ne, ne_eq]
  omega
theorem no_of {fr to_ kind : Int} (h : ¬ mayW fr to_ kind) : newPort kind = none ∨ ¬ okW 5 fr to_ := by
  by_cases ho : okW 5 fr to_
  · left
    refine new_none kind ?_ ?_ <;> rw [beq_eq_false_iff_ne] <;> intro e <;> exact h ⟨ho, by omega⟩
  · exact Or.inr ho
theorem two_cells {g w : World} {b : Nat} {x y : Int} {R : HP} (h : Sat g w (Ytffacjbnjcolgaa.pt b (.cells #[.int .i64 x, .int .i64 y] 22) * R)) : w.cell? ⟨b, 0, none⟩ = some (.int .i64 x) ∧ w.cell? ⟨b, 1, none⟩ = some (.int .i64 y) := by
  have hh := Sat.pt_heap h
  exact ⟨by simp [World.cell?, hh], by simp [World.cell?, hh]⟩
theorem one_nd (x : Wr) : (([x] : List Wr).map (·.id)).Nodup := by simp

theorem lead_no (fr to_ oth kind : Int) (w : World) (hno : ¬ mayW fr to_ kind) :
    Calls Try.prog 3 #[.int .i64 fr, .int .i64 to_, .agg #[.int .i64 oth, .int .i64 kind]] w fun e w' => e = .returned (.bool true) ∧ Below w.heap.size w w' := by
  have HN := Lib.hid (no_of hno)
  have hs := split_no hno
  clear hno
  rcases hs with g1 | ⟨g1, g2⟩ | ⟨g1, g2, g3⟩ | ⟨g1, g2, g3, g4⟩ | ⟨g1, g2, g3, g4, g5⟩ | ⟨g1, g2, g3, g4, g5, g6, g7⟩
  all_goals (
    go_enter Try.func3, Try.ntmps3
    go_wp2_with (fail)
    refine (awake19 w _ _ ((Sat.start w).pt_new (.cells #[.int .i64 oth, .int .i64 kind] 22))).mono ?_
    rintro e w1 ⟨rfl, S0⟩
    obtain ⟨q0, q1⟩ := two_cells S0
    go_wp2_with (fail)
    refine (s_wnew w _ _ S0).mono ?_
    rintro e w2 ⟨pw, rfl, S1⟩
    go_wp2_with (fail)
    refine (bind_bad pw 5 fr to_ kind HN.out w w2 _ S1).mono ?_
    rintro e w3 ⟨rfl, S2⟩
    go_wp2_with (fail)
    refine (unbind_no pw 5 w w3 _ S2).mono ?_
    rintro e w4 ⟨rfl, S3⟩
    go_wp2_with (fail)
    go_ret
    exact ⟨rfl, Sat.ends (S3.right.right.emp.perm (star_comm _ _))⟩)


theorem lead_fr_0 (fr to_ : Int) (w : World) (ho : okW 5 fr to_) :
    Calls Try.prog 3 #[.int .i64 fr, .int .i64 to_, .agg #[.int .i64 fr, .int .i64 0]] w fun e w' => e = .returned (.bool true) ∧ Below w.heap.size w w' := by
  have g1 : decide (0 ≤ fr) = true := decide_eq_true (by have := ho.2.1; omega)
  have g2 : decide (fr ≤ 7) = true := decide_eq_true (by have := ho.2.1; omega)
  have g3 : decide (0 ≤ to_) = true := decide_eq_true (by have := ho.2.2.1; omega)
  have g4 : decide (to_ ≤ 7) = true := decide_eq_true (by have := ho.2.2.1; omega)
  have hne : fr ≠ to_ := ho.2.2.2
  have hne' : to_ ≠ fr := Ne.symm hne
  have g5 : (fr != to_) = true := by simpa using hne
  have g5' : (to_ != fr) = true := by simpa using hne'
  have g6 : (fr == to_) = false := by simpa using hne
  have g6' : (to_ == fr) = false := by simpa using hne'

  have HO := Lib.hid (And.intro ho (And.intro hne hne'))
  clear ho hne hne'
  go_enter Try.func3, Try.ntmps3
  go_wp2_with (fail)
  refine (awake19 w _ _ ((Sat.start w).pt_new (.cells #[.int .i64 fr, .int .i64 0] 22))).mono ?_
  rintro e w1 ⟨rfl, S0⟩
  obtain ⟨q0, q1⟩ := two_cells S0
  go_wp2_with (fail)
  refine (s_wnew w _ _ S0).mono ?_
  rintro e w2 ⟨pw, rfl, S1⟩
  go_wp2_with (fail)
  refine (bind_ok pw [] 5 fr to_ 0 (.samp none) rfl HO.out.1 (by simp) w w2 _ S1).mono ?_
  rintro e w3 ⟨rfl, S2⟩
  rw [List.nil_append] at S2
  clear S0 S1 q0 q1
  go_wp2_with (fail)
  refine (send_at pw _ 5 fr _ [9, 8] 3 w _ _ (S2.alloc _) (src_u2 9 8 _ _ rfl) (one_nd _) 0 (by simp) rfl rfl).mono ?_
  rintro e w4 ⟨rfl, S3⟩
  rw [show sendE ([⟨5, fr, to_, .samp none⟩] : List Wr)[0].pt [9, 8] 3 = 0 from rfl]
  rw [show ([⟨5, fr, to_, .samp none⟩] : List Wr).set 0 (([⟨5, fr, to_, .samp none⟩] : List Wr)[0].with (sendS ([⟨5, fr, to_, .samp none⟩] : List Wr)[0].pt [9, 8] 3)) = [⟨5, fr, to_, .samp (some ([9, 8], 3))⟩] from rfl] at S3
  clear S2
  go_wp2_with (fail)
  refine (recv_not pw _ 5 fr 4 w _ _ S3 (by omega) (one_nd _) 0 (by simp) rfl HO.out.2.2).mono ?_
  rintro e w6 ⟨rfl, S5⟩
  clear S3
  go_wp2_with (fail)
  refine (recv_samp pw _ 5 to_ 4 [9, 8] 3 w _ _ S5 (by omega) (one_nd _) 0 (by simp) rfl rfl rfl (by omega)).mono ?_
  rintro e w7 ⟨v, rfl, S6⟩
  obtain ⟨b, c, rfl, hb, hc⟩ := words_cells S6.words (by simp)
  have c0 := hc 0 (by simp)
  have c1 := hc 1 (by simp)
  rw [show ([9, 8] : List Int)[0] = 9 from rfl] at c0
  rw [show ([9, 8] : List Int)[1] = 8 from rfl] at c1
  clear hc
  go_wp2_with (fail)
  go_ret
  exact ⟨rfl, Sat.ends (S6.right.right.right.emp.perm (star_comm _ _))⟩

theorem lead_to_0 (fr to_ : Int) (w : World) (ho : okW 5 fr to_) :
    Calls Try.prog 3 #[.int .i64 fr, .int .i64 to_, .agg #[.int .i64 to_, .int .i64 0]] w fun e w' => e = .returned (.bool true) ∧ Below w.heap.size w w' := by
  have g1 : decide (0 ≤ fr) = true := decide_eq_true (by have := ho.2.1; omega)
  have g2 : decide (fr ≤ 7) = true := decide_eq_true (by have := ho.2.1; omega)
  have g3 : decide (0 ≤ to_) = true := decide_eq_true (by have := ho.2.2.1; omega)
  have g4 : decide (to_ ≤ 7) = true := decide_eq_true (by have := ho.2.2.1; omega)
  have hne : fr ≠ to_ := ho.2.2.2
  have hne' : to_ ≠ fr := Ne.symm hne
  have g5 : (fr != to_) = true := by simpa using hne
  have g5' : (to_ != fr) = true := by simpa using hne'
  have g6 : (fr == to_) = false := by simpa using hne
  have g6' : (to_ == fr) = false := by simpa using hne'

  have HO := Lib.hid (And.intro ho (And.intro hne hne'))
  clear ho hne hne'
  go_enter Try.func3, Try.ntmps3
  go_wp2_with (fail)
  refine (awake19 w _ _ ((Sat.start w).pt_new (.cells #[.int .i64 to_, .int .i64 0] 22))).mono ?_
  rintro e w1 ⟨rfl, S0⟩
  obtain ⟨q0, q1⟩ := two_cells S0
  go_wp2_with (fail)
  refine (s_wnew w _ _ S0).mono ?_
  rintro e w2 ⟨pw, rfl, S1⟩
  go_wp2_with (fail)
  refine (bind_ok pw [] 5 fr to_ 0 (.samp none) rfl HO.out.1 (by simp) w w2 _ S1).mono ?_
  rintro e w3 ⟨rfl, S2⟩
  rw [List.nil_append] at S2
  clear S0 S1 q0 q1
  go_wp2_with (fail)
  refine (send_at pw _ 5 fr _ [9, 8] 3 w _ _ (S2.alloc _) (src_u2 9 8 _ _ rfl) (one_nd _) 0 (by simp) rfl rfl).mono ?_
  rintro e w4 ⟨rfl, S3⟩
  rw [show sendE ([⟨5, fr, to_, .samp none⟩] : List Wr)[0].pt [9, 8] 3 = 0 from rfl]
  rw [show ([⟨5, fr, to_, .samp none⟩] : List Wr).set 0 (([⟨5, fr, to_, .samp none⟩] : List Wr)[0].with (sendS ([⟨5, fr, to_, .samp none⟩] : List Wr)[0].pt [9, 8] 3)) = [⟨5, fr, to_, .samp (some ([9, 8], 3))⟩] from rfl] at S3
  clear S2
  go_wp2_with (fail)
  refine (send_no pw _ 5 to_ _ [1] 3 w _ _ (S3.alloc _) (src_u1 1 _ _ rfl) (one_nd _) 0 (by simp) rfl HO.out.2.1).mono ?_
  rintro e w5 ⟨rfl, S4⟩
  clear S3
  go_wp2_with (fail)
  refine (recv_samp pw _ 5 to_ 4 [9, 8] 3 w _ _ S4 (by omega) (one_nd _) 0 (by simp) rfl rfl rfl (by omega)).mono ?_
  rintro e w6 ⟨v, rfl, S5a⟩
  have S5 := S5a.swap
  clear S4 S5a
  go_wp2_with (fail)
  refine (recv_samp pw _ 5 to_ 4 [9, 8] 3 w _ _ S5 (by omega) (one_nd _) 0 (by simp) rfl rfl rfl (by omega)).mono ?_
  rintro e w7 ⟨v, rfl, S6⟩
  obtain ⟨b, c, rfl, hb, hc⟩ := words_cells S6.words (by simp)
  have c0 := hc 0 (by simp)
  have c1 := hc 1 (by simp)
  rw [show ([9, 8] : List Int)[0] = 9 from rfl] at c0
  rw [show ([9, 8] : List Int)[1] = 8 from rfl] at c1
  clear hc
  go_wp2_with (fail)
  go_ret
  exact ⟨rfl, Sat.ends (S6.right.right.right.right.emp.perm (star_comm _ _))⟩

theorem lead_no_0 (fr to_ oth : Int) (w : World) (ho : okW 5 fr to_) (ha : oth ≠ fr) (hb : oth ≠ to_) :
    Calls Try.prog 3 #[.int .i64 fr, .int .i64 to_, .agg #[.int .i64 oth, .int .i64 0]] w fun e w' => e = .returned (.bool true) ∧ Below w.heap.size w w' := by
  have g1 : decide (0 ≤ fr) = true := decide_eq_true (by have := ho.2.1; omega)
  have g2 : decide (fr ≤ 7) = true := decide_eq_true (by have := ho.2.1; omega)
  have g3 : decide (0 ≤ to_) = true := decide_eq_true (by have := ho.2.2.1; omega)
  have g4 : decide (to_ ≤ 7) = true := decide_eq_true (by have := ho.2.2.1; omega)
  have hne : fr ≠ to_ := ho.2.2.2
  have hne' : to_ ≠ fr := Ne.symm hne
  have g5 : (fr != to_) = true := by simpa using hne
  have g5' : (to_ != fr) = true := by simpa using hne'
  have g6 : (fr == to_) = false := by simpa using hne
  have g6' : (to_ == fr) = false := by simpa using hne'

  have g7 : (oth != fr) = true := by simpa using ha
  have g8 : (oth != to_) = true := by simpa using hb
  have g9 : (oth == to_) = false := by simpa using hb
  have HAB := Lib.hid (And.intro ha hb)
  clear ha hb
  have HO := Lib.hid (And.intro ho (And.intro hne hne'))
  clear ho hne hne'
  go_enter Try.func3, Try.ntmps3
  go_wp2_with (fail)
  refine (awake19 w _ _ ((Sat.start w).pt_new (.cells #[.int .i64 oth, .int .i64 0] 22))).mono ?_
  rintro e w1 ⟨rfl, S0⟩
  obtain ⟨q0, q1⟩ := two_cells S0
  go_wp2_with (fail)
  refine (s_wnew w _ _ S0).mono ?_
  rintro e w2 ⟨pw, rfl, S1⟩
  go_wp2_with (fail)
  refine (bind_ok pw [] 5 fr to_ 0 (.samp none) rfl HO.out.1 (by simp) w w2 _ S1).mono ?_
  rintro e w3 ⟨rfl, S2⟩
  rw [List.nil_append] at S2
  clear S0 S1 q0 q1
  go_wp2_with (fail)
  refine (send_at pw _ 5 fr _ [9, 8] 3 w _ _ (S2.alloc _) (src_u2 9 8 _ _ rfl) (one_nd _) 0 (by simp) rfl rfl).mono ?_
  rintro e w4 ⟨rfl, S3⟩
  rw [show sendE ([⟨5, fr, to_, .samp none⟩] : List Wr)[0].pt [9, 8] 3 = 0 from rfl]
  rw [show ([⟨5, fr, to_, .samp none⟩] : List Wr).set 0 (([⟨5, fr, to_, .samp none⟩] : List Wr)[0].with (sendS ([⟨5, fr, to_, .samp none⟩] : List Wr)[0].pt [9, 8] 3)) = [⟨5, fr, to_, .samp (some ([9, 8], 3))⟩] from rfl] at S3
  clear S2
  go_wp2_with (fail)
  refine (send_no pw _ 5 oth _ [1] 3 w _ _ (S3.alloc _) (src_u1 1 _ _ rfl) (one_nd _) 0 (by simp) rfl (Ne.symm HAB.out.1)).mono ?_
  rintro e w5 ⟨rfl, S4⟩
  clear S3
  go_wp2_with (fail)
  refine (recv_not pw _ 5 oth 4 w _ _ S4 (by omega) (one_nd _) 0 (by simp) rfl (Ne.symm HAB.out.2)).mono ?_
  rintro e w6 ⟨rfl, S5⟩
  clear S4
  go_wp2_with (fail)
  refine (recv_samp pw _ 5 to_ 4 [9, 8] 3 w _ _ S5 (by omega) (one_nd _) 0 (by simp) rfl rfl rfl (by omega)).mono ?_
  rintro e w7 ⟨v, rfl, S6⟩
  obtain ⟨b, c, rfl, hb, hc⟩ := words_cells S6.words (by simp)
  have c0 := hc 0 (by simp)
  have c1 := hc 1 (by simp)
  rw [show ([9, 8] : List Int)[0] = 9 from rfl] at c0
  rw [show ([9, 8] : List Int)[1] = 8 from rfl] at c1
  clear hc
  go_wp2_with (fail)
  go_ret
  exact ⟨rfl, Sat.ends (S6.right.right.right.emp.perm (star_comm _ _))⟩

theorem lead_fr_1 (fr to_ : Int) (w : World) (ho : okW 5 fr to_) :
    Calls Try.prog 3 #[.int .i64 fr, .int .i64 to_, .agg #[.int .i64 fr, .int .i64 1]] w fun e w' => e = .returned (.bool true) ∧ Below w.heap.size w w' := by
  have g1 : decide (0 ≤ fr) = true := decide_eq_true (by have := ho.2.1; omega)
  have g2 : decide (fr ≤ 7) = true := decide_eq_true (by have := ho.2.1; omega)
  have g3 : decide (0 ≤ to_) = true := decide_eq_true (by have := ho.2.2.1; omega)
  have g4 : decide (to_ ≤ 7) = true := decide_eq_true (by have := ho.2.2.1; omega)
  have hne : fr ≠ to_ := ho.2.2.2
  have hne' : to_ ≠ fr := Ne.symm hne
  have g5 : (fr != to_) = true := by simpa using hne
  have g5' : (to_ != fr) = true := by simpa using hne'
  have g6 : (fr == to_) = false := by simpa using hne
  have g6' : (to_ == fr) = false := by simpa using hne'

  have HO := Lib.hid (And.intro ho (And.intro hne hne'))
  clear ho hne hne'
  go_enter Try.func3, Try.ntmps3
  go_wp2_with (fail)
  refine (awake19 w _ _ ((Sat.start w).pt_new (.cells #[.int .i64 fr, .int .i64 1] 22))).mono ?_
  rintro e w1 ⟨rfl, S0⟩
  obtain ⟨q0, q1⟩ := two_cells S0
  go_wp2_with (fail)
  refine (s_wnew w _ _ S0).mono ?_
  rintro e w2 ⟨pw, rfl, S1⟩
  go_wp2_with (fail)
  refine (bind_ok pw [] 5 fr to_ 1 (.queue []) rfl HO.out.1 (by simp) w w2 _ S1).mono ?_
  rintro e w3 ⟨rfl, S2⟩
  rw [List.nil_append] at S2
  clear S0 S1 q0 q1
  go_wp2_with (fail)
  refine (send_at pw _ 5 fr _ [9, 8] 3 w _ _ (S2.alloc _) (src_u2 9 8 _ _ rfl) (one_nd _) 0 (by simp) rfl rfl).mono ?_
  rintro e w4 ⟨rfl, S3⟩
  rw [show sendE ([⟨5, fr, to_, .queue []⟩] : List Wr)[0].pt [9, 8] 3 = 0 from rfl]
  rw [show ([⟨5, fr, to_, .queue []⟩] : List Wr).set 0 (([⟨5, fr, to_, .queue []⟩] : List Wr)[0].with (sendS ([⟨5, fr, to_, .queue []⟩] : List Wr)[0].pt [9, 8] 3)) = [⟨5, fr, to_, .queue [[9, 8]]⟩] from rfl] at S3
  clear S2
  go_wp2_with (fail)
  refine (recv_not pw _ 5 fr 4 w _ _ S3 (by omega) (one_nd _) 0 (by simp) rfl HO.out.2.2).mono ?_
  rintro e w6 ⟨rfl, S5⟩
  clear S3
  go_wp2_with (fail)
  refine (recv_queue pw _ 5 to_ 4 [9, 8] [] w _ _ S5 (by omega) (one_nd _) 0 (by simp) rfl rfl rfl).mono ?_
  rintro e w7 ⟨v, rfl, S6⟩
  obtain ⟨b, c, rfl, hb, hc⟩ := words_cells S6.words (by simp)
  have c0 := hc 0 (by simp)
  have c1 := hc 1 (by simp)
  rw [show ([9, 8] : List Int)[0] = 9 from rfl] at c0
  rw [show ([9, 8] : List Int)[1] = 8 from rfl] at c1
  clear hc
  go_wp2_with (fail)
  go_ret
  exact ⟨rfl, Sat.ends (S6.right.right.right.emp.perm (star_comm _ _))⟩

theorem lead_to_1 (fr to_ : Int) (w : World) (ho : okW 5 fr to_) :
    Calls Try.prog 3 #[.int .i64 fr, .int .i64 to_, .agg #[.int .i64 to_, .int .i64 1]] w fun e w' => e = .returned (.bool true) ∧ Below w.heap.size w w' := by
  have g1 : decide (0 ≤ fr) = true := decide_eq_true (by have := ho.2.1; omega)
  have g2 : decide (fr ≤ 7) = true := decide_eq_true (by have := ho.2.1; omega)
  have g3 : decide (0 ≤ to_) = true := decide_eq_true (by have := ho.2.2.1; omega)
  have g4 : decide (to_ ≤ 7) = true := decide_eq_true (by have := ho.2.2.1; omega)
  have hne : fr ≠ to_ := ho.2.2.2
  have hne' : to_ ≠ fr := Ne.symm hne
  have g5 : (fr != to_) = true := by simpa using hne
  have g5' : (to_ != fr) = true := by simpa using hne'
  have g6 : (fr == to_) = false := by simpa using hne
  have g6' : (to_ == fr) = false := by simpa using hne'

  have HO := Lib.hid (And.intro ho (And.intro hne hne'))
  clear ho hne hne'
  go_enter Try.func3, Try.ntmps3
  go_wp2_with (fail)
  refine (awake19 w _ _ ((Sat.start w).pt_new (.cells #[.int .i64 to_, .int .i64 1] 22))).mono ?_
  rintro e w1 ⟨rfl, S0⟩
  obtain ⟨q0, q1⟩ := two_cells S0
  go_wp2_with (fail)
  refine (s_wnew w _ _ S0).mono ?_
  rintro e w2 ⟨pw, rfl, S1⟩
  go_wp2_with (fail)
  refine (bind_ok pw [] 5 fr to_ 1 (.queue []) rfl HO.out.1 (by simp) w w2 _ S1).mono ?_
  rintro e w3 ⟨rfl, S2⟩
  rw [List.nil_append] at S2
  clear S0 S1 q0 q1
  go_wp2_with (fail)
  refine (send_at pw _ 5 fr _ [9, 8] 3 w _ _ (S2.alloc _) (src_u2 9 8 _ _ rfl) (one_nd _) 0 (by simp) rfl rfl).mono ?_
  rintro e w4 ⟨rfl, S3⟩
  rw [show sendE ([⟨5, fr, to_, .queue []⟩] : List Wr)[0].pt [9, 8] 3 = 0 from rfl]
  rw [show ([⟨5, fr, to_, .queue []⟩] : List Wr).set 0 (([⟨5, fr, to_, .queue []⟩] : List Wr)[0].with (sendS ([⟨5, fr, to_, .queue []⟩] : List Wr)[0].pt [9, 8] 3)) = [⟨5, fr, to_, .queue [[9, 8]]⟩] from rfl] at S3
  clear S2
  go_wp2_with (fail)
  refine (send_no pw _ 5 to_ _ [1] 3 w _ _ (S3.alloc _) (src_u1 1 _ _ rfl) (one_nd _) 0 (by simp) rfl HO.out.2.1).mono ?_
  rintro e w5 ⟨rfl, S4⟩
  clear S3
  go_wp2_with (fail)
  refine (recv_queue pw _ 5 to_ 4 [9, 8] [] w _ _ S4 (by omega) (one_nd _) 0 (by simp) rfl rfl rfl).mono ?_
  rintro e w6 ⟨v, rfl, S5a⟩
  have S5 := S5a.swap
  rw [show ([⟨5, fr, to_, .queue [[9, 8]]⟩] : List Wr).set 0 (([⟨5, fr, to_, .queue [[9, 8]]⟩] : List Wr)[0].with (.queue [])) = [⟨5, fr, to_, .queue []⟩] from rfl] at S5
  clear S4 S5a
  go_wp2_with (fail)
  refine (recv_empty pw _ 5 to_ 4 2 w _ _ S5 (by omega) (one_nd _) 0 (by simp) rfl rfl rfl (by omega)).mono ?_
  rintro e w7 ⟨rfl, S6⟩
  go_wp2_with (fail)
  go_ret
  exact ⟨rfl, Sat.ends (S6.right.right.right.emp.perm (star_comm _ _))⟩

theorem lead_no_1 (fr to_ oth : Int) (w : World) (ho : okW 5 fr to_) (ha : oth ≠ fr) (hb : oth ≠ to_) :
    Calls Try.prog 3 #[.int .i64 fr, .int .i64 to_, .agg #[.int .i64 oth, .int .i64 1]] w fun e w' => e = .returned (.bool true) ∧ Below w.heap.size w w' := by
  have g1 : decide (0 ≤ fr) = true := decide_eq_true (by have := ho.2.1; omega)
  have g2 : decide (fr ≤ 7) = true := decide_eq_true (by have := ho.2.1; omega)
  have g3 : decide (0 ≤ to_) = true := decide_eq_true (by have := ho.2.2.1; omega)
  have g4 : decide (to_ ≤ 7) = true := decide_eq_true (by have := ho.2.2.1; omega)
  have hne : fr ≠ to_ := ho.2.2.2
  have hne' : to_ ≠ fr := Ne.symm hne
  have g5 : (fr != to_) = true := by simpa using hne
  have g5' : (to_ != fr) = true := by simpa using hne'
  have g6 : (fr == to_) = false := by simpa using hne
  have g6' : (to_ == fr) = false := by simpa using hne'

  have g7 : (oth != fr) = true := by simpa using ha
  have g8 : (oth != to_) = true := by simpa using hb
  have g9 : (oth == to_) = false := by simpa using hb
  have HAB := Lib.hid (And.intro ha hb)
  clear ha hb
  have HO := Lib.hid (And.intro ho (And.intro hne hne'))
  clear ho hne hne'
  go_enter Try.func3, Try.ntmps3
  go_wp2_with (fail)
  refine (awake19 w _ _ ((Sat.start w).pt_new (.cells #[.int .i64 oth, .int .i64 1] 22))).mono ?_
  rintro e w1 ⟨rfl, S0⟩
  obtain ⟨q0, q1⟩ := two_cells S0
  go_wp2_with (fail)
  refine (s_wnew w _ _ S0).mono ?_
  rintro e w2 ⟨pw, rfl, S1⟩
  go_wp2_with (fail)
  refine (bind_ok pw [] 5 fr to_ 1 (.queue []) rfl HO.out.1 (by simp) w w2 _ S1).mono ?_
  rintro e w3 ⟨rfl, S2⟩
  rw [List.nil_append] at S2
  clear S0 S1 q0 q1
  go_wp2_with (fail)
  refine (send_at pw _ 5 fr _ [9, 8] 3 w _ _ (S2.alloc _) (src_u2 9 8 _ _ rfl) (one_nd _) 0 (by simp) rfl rfl).mono ?_
  rintro e w4 ⟨rfl, S3⟩
  rw [show sendE ([⟨5, fr, to_, .queue []⟩] : List Wr)[0].pt [9, 8] 3 = 0 from rfl]
  rw [show ([⟨5, fr, to_, .queue []⟩] : List Wr).set 0 (([⟨5, fr, to_, .queue []⟩] : List Wr)[0].with (sendS ([⟨5, fr, to_, .queue []⟩] : List Wr)[0].pt [9, 8] 3)) = [⟨5, fr, to_, .queue [[9, 8]]⟩] from rfl] at S3
  clear S2
  go_wp2_with (fail)
  refine (send_no pw _ 5 oth _ [1] 3 w _ _ (S3.alloc _) (src_u1 1 _ _ rfl) (one_nd _) 0 (by simp) rfl (Ne.symm HAB.out.1)).mono ?_
  rintro e w5 ⟨rfl, S4⟩
  clear S3
  go_wp2_with (fail)
  refine (recv_not pw _ 5 oth 4 w _ _ S4 (by omega) (one_nd _) 0 (by simp) rfl (Ne.symm HAB.out.2)).mono ?_
  rintro e w6 ⟨rfl, S5⟩
  clear S4
  go_wp2_with (fail)
  refine (recv_queue pw _ 5 to_ 4 [9, 8] [] w _ _ S5 (by omega) (one_nd _) 0 (by simp) rfl rfl rfl).mono ?_
  rintro e w7 ⟨v, rfl, S6⟩
  obtain ⟨b, c, rfl, hb, hc⟩ := words_cells S6.words (by simp)
  have c0 := hc 0 (by simp)
  have c1 := hc 1 (by simp)
  rw [show ([9, 8] : List Int)[0] = 9 from rfl] at c0
  rw [show ([9, 8] : List Int)[1] = 8 from rfl] at c1
  clear hc
  go_wp2_with (fail)
  go_ret
  exact ⟨rfl, Sat.ends (S6.right.right.right.emp.perm (star_comm _ _))⟩

theorem lead_walk (fr to_ oth kind : Int) (w : World) :
    Calls Try.prog 3 #[.int .i64 fr, .int .i64 to_, .agg #[.int .i64 oth, .int .i64 kind]] w fun e w' => e = .returned (.bool true) ∧ Below w.heap.size w w' := by
  by_cases hm : mayW fr to_ kind
  · obtain ⟨ho, rfl | rfl⟩ := hm
    · by_cases h1 : oth = fr
      · subst h1; exact lead_fr_0 _ _ w ho
      by_cases h2 : oth = to_
      · subst h2; exact lead_to_0 _ _ w ho
      exact lead_no_0 _ _ _ w ho h1 h2
    · by_cases h1 : oth = fr
      · subst h1; exact lead_fr_1 _ _ w ho
      by_cases h2 : oth = to_
      · subst h2; exact lead_to_1 _ _ w ho
      exact lead_no_1 _ _ _ w ho h1 h2
  · exact lead_no fr to_ oth kind w hm

end Go.Proofs.Ytffacjbnjcolgaa