/- What entry.Of, Index, Page and Split return, by walks over their text (entry.Of's written by gen_of.py). -/
import Derived.Test.YteehghjdifbjbaaEntryWord
namespace Go.Proofs.Yteehghjdifbjbaa
set_option linter.unusedSimpArgs false
set_option linter.unusedVariables false
set_option maxRecDepth 100000
open Go.RowKit
set_option maxHeartbeats 2000000

/-- The parts of a word. -/
def pV (x : Int) : Bool := decide (x % 2 = 1)
def pW (x : Int) : Bool := decide (x / 2 % 2 = 1)
def pT (x : Int) : Bool := decide (x / 4 % 2 = 1)
def pF (x : Int) : Int := x / 256 % 256
/-- Is a word an entry's? -/
def ofB (x : Int) : Bool := rightB (pV x) (pW x) (pT x) (pF x) && decide (wordI (pV x) (pW x) (pT x) (pF x) = x)

theorem of_g0 (x : Int) : x / 2 ^ Int.toNat 0 % 2 ^ Int.toNat 1 = x % 2 := by simp
theorem of_g1 (x : Int) : x / 2 ^ Int.toNat 1 % 2 ^ Int.toNat 1 = x / 2 % 2 := by simp
theorem of_g2 (x : Int) : x / 2 ^ Int.toNat 2 % 2 ^ Int.toNat 1 = x / 4 % 2 := by simp
theorem of_g3 (x : Int) : x / 2 ^ Int.toNat 8 % 2 ^ Int.toNat 8 = x / 256 % 256 := by simp
theorem pV_eq (x : Int) : (x % 2 == 1) = pV x := by unfold pV; rw [Bool.eq_iff_iff]; simp
theorem pW_eq (x : Int) : (x / 2 % 2 == 1) = pW x := by unfold pW; rw [Bool.eq_iff_iff]; simp
theorem pF_eq (x : Int) : x / 256 % 256 = pF x := rfl
theorem pT_eq (x : Int) : (x / 4 % 2 == 1) = pT x := by unfold pT; rw [Bool.eq_iff_iff]; simp

theorem of_yes (x : Int) (w : World) (hx : 0 ≤ x) (hx' : x < 18446744073709551616) (hE : (wE (pV x) (pW x) (pT x) (pF x) != 0) = false) (hX : (wI (pV x) (pW x) (pT x) (pF x) != x) = false) :
    Calls Try.prog 44 #[.int .u64 x] w fun e w' => e = .returned (.tuple #[.agg #[.bool (pV x), .bool (pW x), .bool (pT x), .int .i64 (pF x)], .int .i64 0]) ∧ Below w.heap.size w w' := by
  have i0 : ∀ w, (Instr.index 148 (.agg #[.int .i64 0, .int .i64 1, .int .i64 1, .int .i64 1, .int .i64 2, .int .i64 1, .int .i64 8, .int .i64 8]) (.int .i64 0)).run Try.prog w = .ok (.agg #[.int .i64 0, .int .i64 1]) w := fun _ => by kernel_rfl
  have i1 : ∀ w, (Instr.index 148 (.agg #[.int .i64 0, .int .i64 1, .int .i64 1, .int .i64 1, .int .i64 2, .int .i64 1, .int .i64 8, .int .i64 8]) (.int .i64 1)).run Try.prog w = .ok (.agg #[.int .i64 1, .int .i64 1]) w := fun _ => by kernel_rfl
  have i2 : ∀ w, (Instr.index 148 (.agg #[.int .i64 0, .int .i64 1, .int .i64 1, .int .i64 1, .int .i64 2, .int .i64 1, .int .i64 8, .int .i64 8]) (.int .i64 2)).run Try.prog w = .ok (.agg #[.int .i64 2, .int .i64 1]) w := fun _ => by kernel_rfl
  have i3 : ∀ w, (Instr.index 148 (.agg #[.int .i64 0, .int .i64 1, .int .i64 1, .int .i64 1, .int .i64 2, .int .i64 1, .int .i64 8, .int .i64 8]) (.int .i64 3)).run Try.prog w = .ok (.agg #[.int .i64 8, .int .i64 8]) w := fun _ => by kernel_rfl
  have hpF0 : 0 ≤ x / 256 % 256 := by omega
  have hpF1 : x / 256 % 256 < 256 := by omega
  go_enter Try.func44, Try.ntmps44
  go_wp2_with (go_at_call 75; refine (fields_any _).mono ?_; rintro e w' ⟨rfl, o1, rfl⟩)
  refine wp_loop_rounds 5 ?_
  rw [rounds_succ]
  go_wp2_with (fail)
  refine (get_yes _ _ _ _ (by omega) (by omega) (by omega) (by omega) (by omega)).mono ?_
  rintro e w2 ⟨rfl, rfl⟩
  rw [of_g0]
  go_wp2_with (fail)
  rw [rounds_succ]
  go_wp2_with (fail)
  refine (get_yes _ _ _ _ (by omega) (by omega) (by omega) (by omega) (by omega)).mono ?_
  rintro e w2 ⟨rfl, rfl⟩
  rw [of_g1]
  go_wp2_with (fail)
  rw [rounds_succ]
  go_wp2_with (fail)
  refine (get_yes _ _ _ _ (by omega) (by omega) (by omega) (by omega) (by omega)).mono ?_
  rintro e w2 ⟨rfl, rfl⟩
  rw [of_g2]
  go_wp2_with (fail)
  rw [rounds_succ]
  go_wp2_with (fail)
  refine (get_yes _ _ _ _ (by omega) (by omega) (by omega) (by omega) (by omega)).mono ?_
  rintro e w2 ⟨rfl, rfl⟩
  rw [of_g3]
  go_wp2_with (fail)
  rw [rounds_succ]
  go_wp2_with (fail)
  simp only [pW_eq, pT_eq]
  simp only [pV_eq, pF_eq]
  refine (word_any _ _ _ _ _).mono ?_
  rintro e w3 ⟨rfl, hb⟩
  obtain ⟨hc, hf⟩ := bcell hb
  have c0 : w3.cell? ⟨w.heap.size, 0, none⟩ = some (.bool false) := by rw [hc _ _ (by simp <;> omega)]; simp [go_sem, World.cell?_alloc_past]
  have c1 : w3.cell? ⟨w.heap.size, 1, none⟩ = some (.bool false) := by rw [hc _ _ (by simp <;> omega)]; simp [go_sem, World.cell?_alloc_past]
  have c2 : w3.cell? ⟨w.heap.size, 2, none⟩ = some (.bool false) := by rw [hc _ _ (by simp <;> omega)]; simp [go_sem, World.cell?_alloc_past]
  have c3 : w3.cell? ⟨w.heap.size, 3, none⟩ = some (.int .i64 0) := by rw [hc _ _ (by simp <;> omega)]; simp [go_sem, World.cell?_alloc_past]
  go_wp2_with (fail)
  refine bodyPost_ret (v := .tuple #[.agg #[.bool (pV x), .bool (pW x), .bool (pT x), .int .i64 (pF x)], .int .i64 0]) (by simp [results, Try.results44, go_sem, c0, c1, c2, c3]) rfl ⟨rfl, ?_⟩
  have hz := hb.size
  have hb' : Below w.heap.size w w3 := by
    refine Below.trans ?_ (hb.mono ?_)
    · repeat (first | exact Below.refl _ _ | assumption | refine Below.alloc ?_ (by simp <;> omega) _ | refine below_drewN ?_ _ | refine Below.drew ?_ | refine Below.setCell ?_ (by simp <;> omega) _)
    · simp <;> omega
  repeat (first | exact hb' | refine Below.setCell ?_ (by simp) _ | refine Below.alloc ?_ (by simp at hz ⊢ <;> omega) _)

theorem of_no1 (x : Int) (w : World) (hx : 0 ≤ x) (hx' : x < 18446744073709551616) (hE : (wE (pV x) (pW x) (pT x) (pF x) != 0) = true) :
    Calls Try.prog 44 #[.int .u64 x] w fun e w' => e = .returned (.tuple #[.agg #[.bool false, .bool false, .bool false, .int .i64 0], .int .i64 1]) ∧ Below w.heap.size w w' := by
  have i0 : ∀ w, (Instr.index 148 (.agg #[.int .i64 0, .int .i64 1, .int .i64 1, .int .i64 1, .int .i64 2, .int .i64 1, .int .i64 8, .int .i64 8]) (.int .i64 0)).run Try.prog w = .ok (.agg #[.int .i64 0, .int .i64 1]) w := fun _ => by kernel_rfl
  have i1 : ∀ w, (Instr.index 148 (.agg #[.int .i64 0, .int .i64 1, .int .i64 1, .int .i64 1, .int .i64 2, .int .i64 1, .int .i64 8, .int .i64 8]) (.int .i64 1)).run Try.prog w = .ok (.agg #[.int .i64 1, .int .i64 1]) w := fun _ => by kernel_rfl
  have i2 : ∀ w, (Instr.index 148 (.agg #[.int .i64 0, .int .i64 1, .int .i64 1, .int .i64 1, .int .i64 2, .int .i64 1, .int .i64 8, .int .i64 8]) (.int .i64 2)).run Try.prog w = .ok (.agg #[.int .i64 2, .int .i64 1]) w := fun _ => by kernel_rfl
  have i3 : ∀ w, (Instr.index 148 (.agg #[.int .i64 0, .int .i64 1, .int .i64 1, .int .i64 1, .int .i64 2, .int .i64 1, .int .i64 8, .int .i64 8]) (.int .i64 3)).run Try.prog w = .ok (.agg #[.int .i64 8, .int .i64 8]) w := fun _ => by kernel_rfl
  have hpF0 : 0 ≤ x / 256 % 256 := by omega
  have hpF1 : x / 256 % 256 < 256 := by omega
  go_enter Try.func44, Try.ntmps44
  go_wp2_with (go_at_call 75; refine (fields_any _).mono ?_; rintro e w' ⟨rfl, o1, rfl⟩)
  refine wp_loop_rounds 5 ?_
  rw [rounds_succ]
  go_wp2_with (fail)
  refine (get_yes _ _ _ _ (by omega) (by omega) (by omega) (by omega) (by omega)).mono ?_
  rintro e w2 ⟨rfl, rfl⟩
  rw [of_g0]
  go_wp2_with (fail)
  rw [rounds_succ]
  go_wp2_with (fail)
  refine (get_yes _ _ _ _ (by omega) (by omega) (by omega) (by omega) (by omega)).mono ?_
  rintro e w2 ⟨rfl, rfl⟩
  rw [of_g1]
  go_wp2_with (fail)
  rw [rounds_succ]
  go_wp2_with (fail)
  refine (get_yes _ _ _ _ (by omega) (by omega) (by omega) (by omega) (by omega)).mono ?_
  rintro e w2 ⟨rfl, rfl⟩
  rw [of_g2]
  go_wp2_with (fail)
  rw [rounds_succ]
  go_wp2_with (fail)
  refine (get_yes _ _ _ _ (by omega) (by omega) (by omega) (by omega) (by omega)).mono ?_
  rintro e w2 ⟨rfl, rfl⟩
  rw [of_g3]
  go_wp2_with (fail)
  rw [rounds_succ]
  go_wp2_with (fail)
  simp only [pW_eq, pT_eq]
  simp only [pV_eq, pF_eq]
  refine (word_any _ _ _ _ _).mono ?_
  rintro e w3 ⟨rfl, hb⟩
  obtain ⟨hc, hf⟩ := bcell hb
  have c0 : w3.cell? ⟨w.heap.size, 0, none⟩ = some (.bool false) := by rw [hc _ _ (by simp <;> omega)]; simp [go_sem, World.cell?_alloc_past]
  have c1 : w3.cell? ⟨w.heap.size, 1, none⟩ = some (.bool false) := by rw [hc _ _ (by simp <;> omega)]; simp [go_sem, World.cell?_alloc_past]
  have c2 : w3.cell? ⟨w.heap.size, 2, none⟩ = some (.bool false) := by rw [hc _ _ (by simp <;> omega)]; simp [go_sem, World.cell?_alloc_past]
  have c3 : w3.cell? ⟨w.heap.size, 3, none⟩ = some (.int .i64 0) := by rw [hc _ _ (by simp <;> omega)]; simp [go_sem, World.cell?_alloc_past]
  go_wp2_with (fail)
  refine bodyPost_ret (v := .tuple #[.agg #[.bool false, .bool false, .bool false, .int .i64 0], .int .i64 1]) (by simp [results, Try.results44, go_sem, c0, c1, c2, c3]) rfl ⟨rfl, ?_⟩
  have hz := hb.size
  have hb' : Below w.heap.size w w3 := by
    refine Below.trans ?_ (hb.mono ?_)
    · repeat (first | exact Below.refl _ _ | assumption | refine Below.alloc ?_ (by simp <;> omega) _ | refine below_drewN ?_ _ | refine Below.drew ?_ | refine Below.setCell ?_ (by simp <;> omega) _)
    · simp <;> omega
  repeat (first | exact hb' | refine Below.setCell ?_ (by simp) _ | refine Below.alloc ?_ (by simp at hz ⊢ <;> omega) _)

theorem of_no2 (x : Int) (w : World) (hx : 0 ≤ x) (hx' : x < 18446744073709551616) (hE : (wE (pV x) (pW x) (pT x) (pF x) != 0) = false) (hX : (wI (pV x) (pW x) (pT x) (pF x) != x) = true) :
    Calls Try.prog 44 #[.int .u64 x] w fun e w' => e = .returned (.tuple #[.agg #[.bool false, .bool false, .bool false, .int .i64 0], .int .i64 1]) ∧ Below w.heap.size w w' := by
  have i0 : ∀ w, (Instr.index 148 (.agg #[.int .i64 0, .int .i64 1, .int .i64 1, .int .i64 1, .int .i64 2, .int .i64 1, .int .i64 8, .int .i64 8]) (.int .i64 0)).run Try.prog w = .ok (.agg #[.int .i64 0, .int .i64 1]) w := fun _ => by kernel_rfl
  have i1 : ∀ w, (Instr.index 148 (.agg #[.int .i64 0, .int .i64 1, .int .i64 1, .int .i64 1, .int .i64 2, .int .i64 1, .int .i64 8, .int .i64 8]) (.int .i64 1)).run Try.prog w = .ok (.agg #[.int .i64 1, .int .i64 1]) w := fun _ => by kernel_rfl
  have i2 : ∀ w, (Instr.index 148 (.agg #[.int .i64 0, .int .i64 1, .int .i64 1, .int .i64 1, .int .i64 2, .int .i64 1, .int .i64 8, .int .i64 8]) (.int .i64 2)).run Try.prog w = .ok (.agg #[.int .i64 2, .int .i64 1]) w := fun _ => by kernel_rfl
  have i3 : ∀ w, (Instr.index 148 (.agg #[.int .i64 0, .int .i64 1, .int .i64 1, .int .i64 1, .int .i64 2, .int .i64 1, .int .i64 8, .int .i64 8]) (.int .i64 3)).run Try.prog w = .ok (.agg #[.int .i64 8, .int .i64 8]) w := fun _ => by kernel_rfl
  have hpF0 : 0 ≤ x / 256 % 256 := by omega
  have hpF1 : x / 256 % 256 < 256 := by omega
  go_enter Try.func44, Try.ntmps44
  go_wp2_with (go_at_call 75; refine (fields_any _).mono ?_; rintro e w' ⟨rfl, o1, rfl⟩)
  refine wp_loop_rounds 5 ?_
  rw [rounds_succ]
  go_wp2_with (fail)
  refine (get_yes _ _ _ _ (by omega) (by omega) (by omega) (by omega) (by omega)).mono ?_
  rintro e w2 ⟨rfl, rfl⟩
  rw [of_g0]
  go_wp2_with (fail)
  rw [rounds_succ]
  go_wp2_with (fail)
  refine (get_yes _ _ _ _ (by omega) (by omega) (by omega) (by omega) (by omega)).mono ?_
  rintro e w2 ⟨rfl, rfl⟩
  rw [of_g1]
  go_wp2_with (fail)
  rw [rounds_succ]
  go_wp2_with (fail)
  refine (get_yes _ _ _ _ (by omega) (by omega) (by omega) (by omega) (by omega)).mono ?_
  rintro e w2 ⟨rfl, rfl⟩
  rw [of_g2]
  go_wp2_with (fail)
  rw [rounds_succ]
  go_wp2_with (fail)
  refine (get_yes _ _ _ _ (by omega) (by omega) (by omega) (by omega) (by omega)).mono ?_
  rintro e w2 ⟨rfl, rfl⟩
  rw [of_g3]
  go_wp2_with (fail)
  rw [rounds_succ]
  go_wp2_with (fail)
  simp only [pW_eq, pT_eq]
  simp only [pV_eq, pF_eq]
  refine (word_any _ _ _ _ _).mono ?_
  rintro e w3 ⟨rfl, hb⟩
  obtain ⟨hc, hf⟩ := bcell hb
  have c0 : w3.cell? ⟨w.heap.size, 0, none⟩ = some (.bool false) := by rw [hc _ _ (by simp <;> omega)]; simp [go_sem, World.cell?_alloc_past]
  have c1 : w3.cell? ⟨w.heap.size, 1, none⟩ = some (.bool false) := by rw [hc _ _ (by simp <;> omega)]; simp [go_sem, World.cell?_alloc_past]
  have c2 : w3.cell? ⟨w.heap.size, 2, none⟩ = some (.bool false) := by rw [hc _ _ (by simp <;> omega)]; simp [go_sem, World.cell?_alloc_past]
  have c3 : w3.cell? ⟨w.heap.size, 3, none⟩ = some (.int .i64 0) := by rw [hc _ _ (by simp <;> omega)]; simp [go_sem, World.cell?_alloc_past]
  go_wp2_with (fail)
  refine bodyPost_ret (v := .tuple #[.agg #[.bool false, .bool false, .bool false, .int .i64 0], .int .i64 1]) (by simp [results, Try.results44, go_sem, c0, c1, c2, c3]) rfl ⟨rfl, ?_⟩
  have hz := hb.size
  have hb' : Below w.heap.size w w3 := by
    refine Below.trans ?_ (hb.mono ?_)
    · repeat (first | exact Below.refl _ _ | assumption | refine Below.alloc ?_ (by simp <;> omega) _ | refine below_drewN ?_ _ | refine Below.drew ?_ | refine Below.setCell ?_ (by simp <;> omega) _)
    · simp <;> omega
  repeat (first | exact hb' | refine Below.setCell ?_ (by simp) _ | refine Below.alloc ?_ (by simp at hz ⊢ <;> omega) _)

theorem index_yes0 (p : Int) (w : World) (h0 : 0 ≤ p) (h1 : p < 4096) :
    Calls Try.prog 70 #[.int .i64 p, .int .i64 0] w fun e w' => e = .returned (.tuple #[.int .i64 (p / 256), .int .i64 0]) ∧ w = w' := by
  have e1 : p / 16 / 16 % 16 = p / 256 := by omega
  have H := Lib.hid e1
  clear e1
  go_enter Try.func70, Try.ntmps70
  go_wp2
  refine wp_loop_rounds 3 ?_
  iterate 3 (rw [rounds_succ]; go_wp2)
  go_ret2
  exact ⟨by rw [← H.out]; rfl, rfl⟩
theorem index_yes1 (p : Int) (w : World) (h0 : 0 ≤ p) (h1 : p < 4096) :
    Calls Try.prog 70 #[.int .i64 p, .int .i64 1] w fun e w' => e = .returned (.tuple #[.int .i64 (p / 16 % 16), .int .i64 0]) ∧ w = w' := by
  go_enter Try.func70, Try.ntmps70
  go_wp2
  refine wp_loop_rounds 2 ?_
  iterate 2 (rw [rounds_succ]; go_wp2)
  go_ret2
  exact ⟨rfl, rfl⟩
theorem index_yes2 (p : Int) (w : World) (h0 : 0 ≤ p) (h1 : p < 4096) :
    Calls Try.prog 70 #[.int .i64 p, .int .i64 2] w fun e w' => e = .returned (.tuple #[.int .i64 (p % 16), .int .i64 0]) ∧ w = w' := by
  go_enter Try.func70, Try.ntmps70
  go_wp2
  refine wp_loop_rounds 1 ?_
  rw [rounds_succ]; go_wp2
  go_ret2
  exact ⟨rfl, rfl⟩

/-- A page's place in the table of a level. -/
def idxI (p l : Int) : Int := if l = 0 then p / 256 else if l = 1 then p / 16 % 16 else p % 16
theorem index_yes (p l : Int) (w : World) (h0 : 0 ≤ p) (h1 : p < 4096) (h2 : 0 ≤ l) (h3 : l < 3) :
    Calls Try.prog 70 #[.int .i64 p, .int .i64 l] w fun e w' => e = .returned (.tuple #[.int .i64 (idxI p l), .int .i64 0]) ∧ w = w' := by
  have : l = 0 ∨ l = 1 ∨ l = 2 := by omega
  rcases this with rfl | rfl | rfl
  · exact index_yes0 p w h0 h1
  · exact index_yes1 p w h0 h1
  · exact index_yes2 p w h0 h1
theorem index_no (p l : Int) (w : World) (h : ¬ (0 ≤ p ∧ p < 4096 ∧ 0 ≤ l ∧ l < 3)) :
    Calls Try.prog 70 #[.int .i64 p, .int .i64 l] w fun e w' => e = .returned (.tuple #[.int .i64 0, .int .i64 1]) ∧ w = w' := by
  have h' : p < 0 ∨ (¬ p < 0 ∧ 4096 ≤ p) ∨ (¬ p < 0 ∧ ¬ 4096 ≤ p ∧ l < 0) ∨ (¬ p < 0 ∧ ¬ 4096 ≤ p ∧ ¬ l < 0 ∧ 3 ≤ l) := by omega
  clear h
  rcases h' with a | ⟨a, b⟩ | ⟨a, b, c⟩ | ⟨a, b, c, d⟩
  all_goals
    go_enter Try.func70, Try.ntmps70
    go_wp2
    go_ret2
    exact ⟨rfl, rfl⟩

theorem split_yes (a : Int) (w : World) (h0 : 0 ≤ a) (h1 : a < 65536) :
    Calls Try.prog 57 #[.int .i64 a] w fun e w' => e = .returned (.tuple #[.int .i64 (a / 16), .int .i64 (a % 16), .int .i64 0]) ∧ w = w' := by
  go_enter Try.func57, Try.ntmps57
  go_wp2
  go_ret3
  exact ⟨rfl, rfl⟩
theorem split_no (a : Int) (w : World) (h : ¬ (0 ≤ a ∧ a < 65536)) :
    Calls Try.prog 57 #[.int .i64 a] w fun e w' => e = .returned (.tuple #[.int .i64 0, .int .i64 0, .int .i64 1]) ∧ w = w' := by
  have h' : a < 0 ∨ (¬ a < 0 ∧ 65536 ≤ a) := by omega
  clear h
  rcases h' with h | ⟨h, h'⟩
  all_goals
    go_enter Try.func57, Try.ntmps57
    go_wp2
    go_ret3
    exact ⟨rfl, rfl⟩

/-- What was read of a word, as a word: it is that word. -/
theorem of_right (x : Int) (h : ofB x = true) : rightB (pV x) (pW x) (pT x) (pF x) = true ∧ wordI (pV x) (pW x) (pT x) (pF x) = x := by
  simpa [ofB] using h
/-- An entry that may be is read of its word as it was. -/
theorem parts_of_word (v wr tb : Bool) (fr : Int) (h : rightB v wr tb fr = true) :
    pV (wordI v wr tb fr) = v ∧ pW (wordI v wr tb fr) = wr ∧ pT (wordI v wr tb fr) = tb ∧ pF (wordI v wr tb fr) = fr := by
  obtain ⟨h0, h1⟩ := right_bd h
  cases v <;> cases wr <;> cases tb <;> simp [pV, pW, pT, pF, wordI, flagI] <;> omega
theorem word_ofB (v wr tb : Bool) (fr : Int) (h : rightB v wr tb fr = true) : ofB (wordI v wr tb fr) = true := by
  obtain ⟨a, b, c, d⟩ := parts_of_word v wr tb fr h
  simp [ofB, a, b, c, d, h]
theorem word_bd (v wr tb : Bool) (fr : Int) (h : rightB v wr tb fr = true) : 0 ≤ wordI v wr tb fr ∧ wordI v wr tb fr < 65536 := by
  obtain ⟨h0, h1⟩ := right_bd h
  cases v <;> cases wr <;> cases tb <;> simp [wordI, flagI] <;> omega
theorem wI_bd (v wr tb : Bool) (fr : Int) : 0 ≤ wI v wr tb fr ∧ wI v wr tb fr < 65536 := by
  unfold wI
  cases h : rightB v wr tb fr
  · simp
  · simpa using word_bd v wr tb fr h

/-- What entry.Of returns: the parts, and the error. -/
def oV (x : Int) : Bool := ofB x && pV x
def oW (x : Int) : Bool := ofB x && pW x
def oT (x : Int) : Bool := ofB x && pT x
def oF (x : Int) : Int := if ofB x then pF x else 0
def oE (x : Int) : Int := if ofB x then 0 else 1
theorem of_any (x : Int) (w : World) (hx : 0 ≤ x) (hx' : x < 18446744073709551616) :
    Calls Try.prog 44 #[.int .u64 x] w fun e w' => e = .returned (.tuple #[.agg #[.bool (oV x), .bool (oW x), .bool (oT x), .int .i64 (oF x)], .int .i64 (oE x)]) ∧ Below w.heap.size w w' := by
  unfold oV oW oT oF oE
  cases hr : rightB (pV x) (pW x) (pT x) (pF x)
  · have h : ofB x = false := by simp [ofB, hr]
    rw [h]
    exact of_no1 x w hx hx' (by simp [wE, hr])
  · by_cases hw : wordI (pV x) (pW x) (pT x) (pF x) = x
    · have h : ofB x = true := by simp [ofB, hr, hw]
      rw [h]
      exact of_yes x w hx hx' (by simp [wE, hr]) (by simp [wI, hr, hw])
    · have h : ofB x = false := by simp [ofB, hr, hw]
      rw [h]
      exact of_no2 x w hx hx' (by simp [wE, hr]) (by simp [wI, hr, hw])


end Go.Proofs.Yteehghjdifbjbaa
