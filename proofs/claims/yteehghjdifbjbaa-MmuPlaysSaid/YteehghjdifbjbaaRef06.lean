/- What the reference of layer 6 returns, by walks over its text. -/
import Derived.Test.YteehghjdifbjbaaEntryOf
namespace Go.Proofs.Yteehghjdifbjbaa
set_option linter.unusedSimpArgs false
set_option linter.unusedVariables false
set_option maxRecDepth 100000
open Go.RowKit
set_option maxHeartbeats 1000000

theorem r06_right (v wr tb : Bool) (fr : Int) (w : World) :
    Calls Try.prog 77 #[.agg #[.bool v, .bool wr, .bool tb, .int .i64 fr]] w fun e w' => e = .returned (.bool (rightB v wr tb fr)) ∧ Below w.heap.size w w' := by
  go_enter Try.func77, Try.ntmps77
  cases v <;> go_wp2 <;> go_ret <;> exact ⟨by first | (simp [rightB, *]; done) | (have h1 : fr < 256 := (by omega); simp [rightB, *]; done) | (have h1 : ¬ fr < 256 := (by omega); simp [rightB, h1]; done) | (have h1 : ¬ 0 ≤ fr := (by omega); simp [rightB, h1]; done), by repeat (first | exact Below.refl _ _ | refine Below.alloc ?_ (by simp <;> omega) _)⟩

theorem r06_word (v wr tb : Bool) (fr : Int) (w : World) :
    Calls Try.prog 45 #[.agg #[.bool v, .bool wr, .bool tb, .int .i64 fr]] w fun e w' => e = .returned (.tuple #[.int .u64 (wI v wr tb fr), .int .i64 (wE v wr tb fr)]) ∧ Below w.heap.size w w' := by
  cases h : rightB v wr tb fr
  · go_enter Try.func45, Try.ntmps45
    go_wp2_with (go_at_call 77; refine (r06_right _ _ _ _ _).mono ?_; rintro e w' ⟨rfl, hb⟩; rw [h])
    go_ret2
    exact ⟨by simp [wI, wE, h], ((Below.refl _ _).alloc (Nat.le_refl _) _).trans (hb.mono (by simp))⟩
  · obtain ⟨hfr0, hfr1⟩ := right_bd h
    cases v
    · obtain ⟨rfl, rfl, rfl⟩ : wr = false ∧ tb = false ∧ fr = 0 := by simpa [rightB, and_assoc] using h
      go_enter Try.func45, Try.ntmps45
      go_wp2_with (go_at_call 77; refine (r06_right _ _ _ _ _).mono ?_; rintro e w' ⟨rfl, hb⟩; rw [h]; have c0 : w'.cell? ⟨w.heap.size, 0, none⟩ = some (.bool false) := by rw [(bcell hb).1 _ _ (by simp <;> omega)]; simp [go_sem, World.cell?_alloc_past])
      go_ret2
      exact ⟨by simp [wI, wE, h, wordI, flagI], ((Below.refl _ _).alloc (Nat.le_refl _) _).trans (hb.mono (by simp))⟩
    · cases wr <;> cases tb
      all_goals
        go_enter Try.func45, Try.ntmps45
        go_wp2_with (go_at_call 77; refine (r06_right _ _ _ _ _).mono ?_; rintro e w' ⟨rfl, hb⟩; rw [h]; obtain ⟨hc, hf⟩ := bcell hb; have c0 := hc w.heap.size 0 (by simp <;> omega); have c1 := hc w.heap.size 1 (by simp <;> omega); have c2 := hc w.heap.size 2 (by simp <;> omega); have c3 := hc w.heap.size 3 (by simp <;> omega); simp [go_sem, World.cell?_alloc_past] at c0 c1 c2 c3)
        go_ret2
        exact ⟨by simp [wI, wE, h, wordI, flagI] <;> omega, ((Below.refl _ _).alloc (Nat.le_refl _) _).trans (hb.mono (by simp))⟩

theorem r06_of_yes (x : Int) (w : World) (hx : 0 ≤ x) (hx' : x < 18446744073709551616) (hE : (wE (pV x) (pW x) (pT x) (pF x) != 0) = false) (hX : (wI (pV x) (pW x) (pT x) (pF x) != x) = false) :
    Calls Try.prog 90 #[.int .u64 x] w fun e w' => e = .returned (.tuple #[.agg #[.bool (pV x), .bool (pW x), .bool (pT x), .int .i64 (pF x)], .int .i64 0]) ∧ Below w.heap.size w w' := by
  have hpF0 : 0 ≤ x / 256 % 256 := by omega
  have hpF1 : x / 256 % 256 < 256 := by omega
  go_enter Try.func90, Try.ntmps90
  go_wp2_with (fail)
  simp only [pW_eq, pT_eq]
  simp only [pV_eq, pF_eq]
  refine (r06_word _ _ _ _ _).mono ?_
  rintro e w3 ⟨rfl, hb⟩
  obtain ⟨hc, hf⟩ := bcell hb
  have c0 := hc w.heap.size 0 (by simp <;> omega)
  have c1 := hc w.heap.size 1 (by simp <;> omega)
  have c2 := hc w.heap.size 2 (by simp <;> omega)
  have c3 := hc w.heap.size 3 (by simp <;> omega)
  simp [go_sem, World.cell?_alloc_past] at c0 c1 c2 c3
  go_wp2_with (fail)
  refine bodyPost_ret (v := .tuple #[.agg #[.bool (pV x), .bool (pW x), .bool (pT x), .int .i64 (pF x)], .int .i64 0]) (by simp [results, Try.results90, go_sem, c0, c1, c2, c3]) rfl ⟨rfl, ?_⟩
  have hz := hb.size
  have hb' : Below w.heap.size w w3 := by
    refine Below.trans ?_ (hb.mono ?_)
    · repeat (first | exact Below.refl _ _ | refine Below.alloc ?_ (by simp <;> omega) _)
    · simp <;> omega
  repeat (first | exact hb' | refine Below.setCell ?_ (by simp) _ | refine Below.alloc ?_ (by simp at hz ⊢ <;> omega) _)

theorem r06_of_no1 (x : Int) (w : World) (hx : 0 ≤ x) (hx' : x < 18446744073709551616) (hE : (wE (pV x) (pW x) (pT x) (pF x) != 0) = true) :
    Calls Try.prog 90 #[.int .u64 x] w fun e w' => e = .returned (.tuple #[.agg #[.bool false, .bool false, .bool false, .int .i64 0], .int .i64 1]) ∧ Below w.heap.size w w' := by
  have hpF0 : 0 ≤ x / 256 % 256 := by omega
  have hpF1 : x / 256 % 256 < 256 := by omega
  go_enter Try.func90, Try.ntmps90
  go_wp2_with (fail)
  simp only [pW_eq, pT_eq]
  simp only [pV_eq, pF_eq]
  refine (r06_word _ _ _ _ _).mono ?_
  rintro e w3 ⟨rfl, hb⟩
  obtain ⟨hc, hf⟩ := bcell hb
  have c0 := hc w.heap.size 0 (by simp <;> omega)
  have c1 := hc w.heap.size 1 (by simp <;> omega)
  have c2 := hc w.heap.size 2 (by simp <;> omega)
  have c3 := hc w.heap.size 3 (by simp <;> omega)
  simp [go_sem, World.cell?_alloc_past] at c0 c1 c2 c3
  go_wp2_with (fail)
  refine bodyPost_ret (v := .tuple #[.agg #[.bool false, .bool false, .bool false, .int .i64 0], .int .i64 1]) (by simp [results, Try.results90, go_sem, c0, c1, c2, c3]) rfl ⟨rfl, ?_⟩
  have hz := hb.size
  have hb' : Below w.heap.size w w3 := by
    refine Below.trans ?_ (hb.mono ?_)
    · repeat (first | exact Below.refl _ _ | refine Below.alloc ?_ (by simp <;> omega) _)
    · simp <;> omega
  repeat (first | exact hb' | refine Below.setCell ?_ (by simp) _ | refine Below.alloc ?_ (by simp at hz ⊢ <;> omega) _)

theorem r06_of_no2 (x : Int) (w : World) (hx : 0 ≤ x) (hx' : x < 18446744073709551616) (hE : (wE (pV x) (pW x) (pT x) (pF x) != 0) = false) (hX : (wI (pV x) (pW x) (pT x) (pF x) != x) = true) :
    Calls Try.prog 90 #[.int .u64 x] w fun e w' => e = .returned (.tuple #[.agg #[.bool false, .bool false, .bool false, .int .i64 0], .int .i64 1]) ∧ Below w.heap.size w w' := by
  have hpF0 : 0 ≤ x / 256 % 256 := by omega
  have hpF1 : x / 256 % 256 < 256 := by omega
  go_enter Try.func90, Try.ntmps90
  go_wp2_with (fail)
  simp only [pW_eq, pT_eq]
  simp only [pV_eq, pF_eq]
  refine (r06_word _ _ _ _ _).mono ?_
  rintro e w3 ⟨rfl, hb⟩
  obtain ⟨hc, hf⟩ := bcell hb
  have c0 := hc w.heap.size 0 (by simp <;> omega)
  have c1 := hc w.heap.size 1 (by simp <;> omega)
  have c2 := hc w.heap.size 2 (by simp <;> omega)
  have c3 := hc w.heap.size 3 (by simp <;> omega)
  simp [go_sem, World.cell?_alloc_past] at c0 c1 c2 c3
  go_wp2_with (fail)
  refine bodyPost_ret (v := .tuple #[.agg #[.bool false, .bool false, .bool false, .int .i64 0], .int .i64 1]) (by simp [results, Try.results90, go_sem, c0, c1, c2, c3]) rfl ⟨rfl, ?_⟩
  have hz := hb.size
  have hb' : Below w.heap.size w w3 := by
    refine Below.trans ?_ (hb.mono ?_)
    · repeat (first | exact Below.refl _ _ | refine Below.alloc ?_ (by simp <;> omega) _)
    · simp <;> omega
  repeat (first | exact hb' | refine Below.setCell ?_ (by simp) _ | refine Below.alloc ?_ (by simp at hz ⊢ <;> omega) _)

theorem r06_of (x : Int) (w : World) (hx : 0 ≤ x) (hx' : x < 18446744073709551616) :
    Calls Try.prog 90 #[.int .u64 x] w fun e w' => e = .returned (.tuple #[.agg #[.bool (oV x), .bool (oW x), .bool (oT x), .int .i64 (oF x)], .int .i64 (oE x)]) ∧ Below w.heap.size w w' := by
  unfold oV oW oT oF oE
  cases hr : rightB (pV x) (pW x) (pT x) (pF x)
  · have h : ofB x = false := by simp [ofB, hr]
    rw [h]
    exact r06_of_no1 x w hx hx' (by simp [wE, hr])
  · by_cases hw : wordI (pV x) (pW x) (pT x) (pF x) = x
    · have h : ofB x = true := by simp [ofB, hr, hw]
      rw [h]
      exact r06_of_yes x w hx hx' (by simp [wE, hr]) (by simp [wI, hr, hw])
    · have h : ofB x = false := by simp [ofB, hr, hw]
      rw [h]
      exact r06_of_no2 x w hx hx' (by simp [wE, hr]) (by simp [wI, hr, hw])

theorem r06_index (p l : Int) (w : World) (h0 : 0 ≤ p) (h1 : p < 4096) (h2 : 0 ≤ l) (h3 : l < 3) :
    Calls Try.prog 83 #[.int .i64 p, .int .i64 l] w fun e w' => e = .returned (.tuple #[.int .i64 (idxI p l), .int .i64 0]) ∧ w = w' := by
  have : l = 0 ∨ l = 1 ∨ l = 2 := by omega
  rcases this with rfl | rfl | rfl
  all_goals
    go_enter Try.func83, Try.ntmps83
    go_wp2
    go_ret2
    exact ⟨by simp [idxI], rfl⟩
theorem r06_index_no (p l : Int) (w : World) (h : ¬ (0 ≤ p ∧ p < 4096 ∧ 0 ≤ l ∧ l < 3)) :
    Calls Try.prog 83 #[.int .i64 p, .int .i64 l] w fun e w' => e = .returned (.tuple #[.int .i64 0, .int .i64 1]) ∧ w = w' := by
  have h' : p < 0 ∨ (¬ p < 0 ∧ 4095 < p) ∨ (¬ p < 0 ∧ ¬ 4095 < p ∧ l < 0) ∨ (¬ p < 0 ∧ ¬ 4095 < p ∧ ¬ l < 0 ∧ 2 < l) := by omega
  clear h
  rcases h' with a | ⟨a, b⟩ | ⟨a, b, c⟩ | ⟨a, b, c, d⟩
  all_goals
    go_enter Try.func83, Try.ntmps83
    go_wp2
    go_ret2
    exact ⟨rfl, rfl⟩

end Go.Proofs.Yteehghjdifbjbaa
