/- What line, Find, Load, Store of package mmu return and write, by walks over their text. -/
import Derived.Test.YteehghjdifbjbaaMmu
namespace Go.Proofs.Yteehghjdifbjbaa
set_option linter.unusedSimpArgs false
set_option linter.unusedVariables false
set_option maxRecDepth 100000
open Go.RowKit
set_option maxHeartbeats 2000000

theorem below_un {B : Nat} {w w' : World} (h : Below B w.drew w') : Below B w w' := ⟨h.os, h.tape, h.output, h.size, h.block⟩
theorem mmu_line_miss (pu pm pb : Nat) (root asid : Int) (bk n : Nat) (W : Nat → Int) (lb : Nat → Nat) (L : Nat → Option Ln) (page at_ : Int) (w : World) (hu : UnitIn w pu pm pb root asid) (hm : MemIn w pm bk n W) (ht : TlbIn w pb lb L)
    (hl : tFind L asid page = none) (hR : ¬ ((walkM W n root page).e = 0 ∧ hasB n (walkM W n root page).fr = true)) :
    Calls Try.prog 58 #[.pointer (some ⟨pu, 0, none⟩), .int .i64 page, .int .i64 at_] w fun e w' => e = .returned (lnV none) ∧ Below w.heap.size w w' := by
  have c0 := hu.c0
  have c1 := hu.c1
  have c2 := hu.c2
  have c3 := hu.c3
  have hlt := hu.lt
  have hne : ¬ pu = w.heap.size := by omega
  have ht1 := ht.below (w' := w.alloc (.cells #[.int .i64 0, .int .i64 0, .int .i64 0, .bool false] 41)) (by repeat (first | with_reducible exact Below.refl _ _ | with_reducible assumption | with_reducible refine below_drewN ?_ _ | with_reducible refine Below.alloc ?_ (by simp <;> omega) _))
  obtain ⟨R, hRR⟩ : ∃ R, walkM W n root page = R := ⟨_, rfl⟩
  rw [hRR] at hR
  have hR' : (R.e != 0) = true ∨ ((R.e != 0) = false ∧ hasB n R.fr = false) := by
    by_cases q : R.e = 0
    · refine Or.inr ⟨by simp [q], ?_⟩
      cases h : hasB n R.fr
      · rfl
      · exact absurd ⟨q, h⟩ hR
    · exact Or.inl (by simp [q])
  clear hR
  go_enter Try.func58, Try.ntmps58
  go_wp2_with (fail)
  refine (tlb_find pb lb L asid page _ ht1).mono ?_
  rintro e w1 ⟨rfl, hb⟩
  rw [hl]
  unfold lnV
  have kb : Below w.heap.size w w1 := (Below.alloc (Below.refl _ _) (Nat.le_refl _) _).trans (hb.mono (by simp))
  have hz : w.heap.size < w1.heap.size := by have := hb.size; simp at this; omega
  have hu1 := hu.below kb
  have hm1 := hm.below kb
  have z0 : w1.cell? ⟨w.heap.size, 0, none⟩ = some (.int .i64 0) := keep hb (by simp) (by simp [go_sem])
  have z1 : w1.cell? ⟨w.heap.size, 1, none⟩ = some (.int .i64 0) := keep hb (by simp) (by simp [go_sem])
  have z2 : w1.cell? ⟨w.heap.size, 2, none⟩ = some (.int .i64 0) := keep hb (by simp) (by simp [go_sem])
  have z3 : w1.cell? ⟨w.heap.size, 3, none⟩ = some (.bool false) := keep hb (by simp) (by simp [go_sem])
  have y0 : w1.frozen? ⟨w.heap.size, 0, none⟩ = false := keepF hb (by simp) (by simp [go_sem])
  have y1 : w1.frozen? ⟨w.heap.size, 1, none⟩ = false := keepF hb (by simp) (by simp [go_sem])
  have y2 : w1.frozen? ⟨w.heap.size, 2, none⟩ = false := keepF hb (by simp) (by simp [go_sem])
  have y3 : w1.frozen? ⟨w.heap.size, 3, none⟩ = false := keepF hb (by simp) (by simp [go_sem])
  have hne1 : ¬ w.heap.size = w1.heap.size := by omega
  have hne2 : ¬ pu = w1.heap.size := by have := hu1.lt; omega
  obtain ⟨w2, hw2⟩ : ∃ w2, w2 = w1.alloc (.cells #[.int .i64 0, .int .i64 0, .int .i64 0, .bool false] 41) := ⟨_, rfl⟩
  have kb2 : Below w.heap.size w w2 := by rw [hw2]; repeat (first | with_reducible exact Below.refl _ _ | with_reducible assumption | with_reducible refine below_drewN ?_ _ | with_reducible refine Below.drew ?_ | with_reducible refine Below.setCell ?_ (by first | omega | (simp <;> omega)) _ | with_reducible refine Below.alloc ?_ (by first | omega | (simp <;> omega)) _)
  have kbb2 : Below w1.heap.size w1 w2 := by rw [hw2]; repeat (first | with_reducible exact Below.refl _ _ | with_reducible assumption | with_reducible refine below_drewN ?_ _ | with_reducible refine Below.drew ?_ | with_reducible refine Below.setCell ?_ (by first | omega | (simp <;> omega)) _ | with_reducible refine Below.alloc ?_ (by first | omega | (simp <;> omega)) _)
  have zz : w1.heap.size < w2.heap.size := by rw [hw2]; simp
  have hu2 := hu.below kb2
  have hm2 := hm.below kb2
  have d0 := hu2.c0
  have d2 := hu2.c2
  have hlt2 := hu2.lt
  have hne3 : ¬ pu = w2.heap.size := by omega
  have hS : ∀ w', Below w2.heap.size w2 w' → w'.cell? ⟨pu, 0, none⟩ = some (.pointer (some ⟨pm, 0, none⟩)) ∧ w'.cell? ⟨pu, 2, none⟩ = some (.int .i64 root) := fun w' h => ⟨keep h hlt2 d0, keep h hlt2 d2⟩
  go_wp2_with (fail)
  rw [← hw2]
  clear hw2
  go_region_held3 (fun w' => w'.cell? ⟨pu, 0, none⟩ = some (.pointer (some ⟨pm, 0, none⟩)) ∧ w'.cell? ⟨pu, 2, none⟩ = some (.int .i64 root)) (exact hS _ (by repeat (first | with_reducible exact Below.refl _ _ | with_reducible assumption | with_reducible refine below_drewN ?_ _ | with_reducible refine Below.drew ?_ | with_reducible refine Below.setCell ?_ (by first | omega | (simp <;> omega)) _ | with_reducible refine Below.alloc ?_ (by first | omega | (simp <;> omega)) _)))
    ((go_at_call 66
      refine (walk_any pm bk n W root page _ (hm2.below (by repeat (first | with_reducible exact Below.refl _ _ | with_reducible assumption | with_reducible refine below_drewN ?_ _ | with_reducible refine Below.drew ?_ | with_reducible refine Below.setCell ?_ (by first | omega | (simp <;> omega)) _ | with_reducible refine Below.alloc ?_ (by first | omega | (simp <;> omega)) _))) R hRR).mono ?_
      rintro e w3 ⟨v, rfl, hown3, hb3'⟩
      first
        | (have hE := ret_ent rfl (below_un hb3'); obtain ⟨⟨e0, e1, e2, e3⟩, ⟨g0, g1, g2, g3⟩, hz3, hb3⟩ := hE; have hs3 := hb3.size)
        | (have hb3 : Below w2.heap.size w2 w3 := below_un hb3'; have hs3 := hb3.size)))
  all_goals
    have kb13 : Below w1.heap.size w1 w3 := kbb2.trans (hb3.mono kbb2.size)
    have kb3 : Below w.heap.size w w3 := kb2.trans (hb3.mono kb2.size)
    have hu3 := hu.below kb3
    have hm3 := hm.below kb3
    have x0 := keep kb13 hz z0
    have x1 := keep kb13 hz z1
    have x2 := keep kb13 hz z2
    have x3 := keep kb13 hz z3
    have x4 := keepF kb13 hz y0
    have x5 := keepF kb13 hz y1
    have x6 := keepF kb13 hz y2
    have x7 := keepF kb13 hz y3
    have xz : w.heap.size < w3.heap.size := by omega
    have xn : ¬ w.heap.size = w2.heap.size := by omega
    have xn' : ¬ w.heap.size = w3.heap.size := by omega
    clear z0 z1 z2 z3 y0 y1 y2 y3 hS
    rcases hR' with hR | ⟨hR, hh⟩
    · go_wp2_with (fail)
      refine bodyPost_ret (v := .agg #[.int .i64 0, .int .i64 0, .int .i64 0, .bool false]) (by simp [results, Try.results58, go_sem, x0, x1, x2, x3, xz, xn, xn']) rfl ⟨rfl, ?_⟩
      repeat (first | with_reducible exact Below.refl _ _ | with_reducible assumption | with_reducible refine below_drewN ?_ _ | with_reducible refine Below.drew ?_ | with_reducible refine Below.setCell ?_ (by first | omega | (simp <;> omega)) _ | with_reducible refine Below.alloc ?_ (by first | omega | (simp <;> omega)) _)
    · go_wp2_with (go_at_call 49; refine (mmu_has pu pm pb root asid bk n W _ _ (hu.below (by repeat (first | with_reducible exact Below.refl _ _ | with_reducible assumption | with_reducible refine below_drewN ?_ _ | with_reducible refine Below.drew ?_ | with_reducible refine Below.setCell ?_ (by first | omega | (simp <;> omega)) _ | with_reducible refine Below.alloc ?_ (by first | omega | (simp <;> omega)) _))) (hm.below (by repeat (first | with_reducible exact Below.refl _ _ | with_reducible assumption | with_reducible refine below_drewN ?_ _ | with_reducible refine Below.drew ?_ | with_reducible refine Below.setCell ?_ (by first | omega | (simp <;> omega)) _ | with_reducible refine Below.alloc ?_ (by first | omega | (simp <;> omega)) _)))).mono ?_; rintro e w' ⟨rfl, rfl⟩; rw [hh])
      refine bodyPost_ret (v := .agg #[.int .i64 0, .int .i64 0, .int .i64 0, .bool false]) (by simp [results, Try.results58, go_sem, x0, x1, x2, x3, xz, xn, xn']) rfl ⟨rfl, ?_⟩
      repeat (first | with_reducible exact Below.refl _ _ | with_reducible assumption | with_reducible refine below_drewN ?_ _ | with_reducible refine Below.drew ?_ | with_reducible refine Below.setCell ?_ (by first | omega | (simp <;> omega)) _ | with_reducible refine Below.alloc ?_ (by first | omega | (simp <;> omega)) _)

end Go.Proofs.Yteehghjdifbjbaa
