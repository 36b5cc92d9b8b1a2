/- Part 5 of the proofs: Mmu3, Mmu4, Ref09. -/
import Derived.Test.YteehghjdifbjbaaQ4
import Derived.Test.YteehghjdifbjbaaQ2
namespace Go.Proofs.Yteehghjdifbjbaa
set_option linter.unusedSimpArgs false
set_option linter.unusedVariables false
set_option maxRecDepth 100000
open Go.RowKit
set_option maxHeartbeats 4000000

theorem mmu_line_new (pu pm pb : Nat) (root asid : Int) (bk n : Nat) (W : Nat → Int) (lb : Nat → Nat) (L : Nat → Option Ln) (page at_ : Int) (k : Nat) (l : Ln) (w : World) (hu : UnitIn w pu pm pb root asid) (hm : MemIn w pm bk n W) (ht : TlbIn w pb lb L)
    (hl : tFind L asid page = none) (he : (walkM W n root page).e = 0) (hh : hasB n (walkM W n root page).fr = true) (hll : l = ⟨asid, page, (walkM W n root page).fr, (walkM W n root page).wr⟩)
    (hr : rightL l = true) (h0 : 0 ≤ at_) (h1 : at_ < 8) (hk : k < 8) (hp : tPlace L l at_ = k) (hpu : pu ≠ pb) :
    Calls Try.prog 58 #[.pointer (some ⟨pu, 0, none⟩), .int .i64 page, .int .i64 at_] w fun e w' => e = .returned (lnV (some l)) ∧ (∃ nb, w.heap.size ≤ nb ∧ nb < w'.heap.size ∧ TlbIn w' pb (fun i => if i = k then nb else lb i) (fun i => if i = k then some l else L i)) ∧ Touch (· = pb) w w' := by
  have c0 := hu.c0
  have c1 := hu.c1
  have c2 := hu.c2
  have c3 := hu.c3
  have hlt := hu.lt
  have hpl := ht.lt
  have hne : ¬ pu = w.heap.size := by omega
  have ht1 := ht.below (w' := w.alloc (.cells #[.int .i64 0, .int .i64 0, .int .i64 0, .bool false] 41)) (by repeat (first | with_reducible exact Below.refl _ _ | with_reducible assumption | with_reducible refine below_drewN ?_ _ | with_reducible refine Below.alloc ?_ (by simp <;> omega) _))
  obtain ⟨R, hRR⟩ : ∃ R, walkM W n root page = R := ⟨_, rfl⟩
  rw [hRR] at he hh hll
  have hlv : lnV (some l) = .agg #[.int .i64 asid, .int .i64 page, .int .i64 R.fr, .bool R.wr] := by rw [hll]; rfl
  have hF : ∀ w4, TlbIn w4 pb lb L → Calls Try.prog 21 #[.pointer (some ⟨pb, 0, none⟩), .agg #[.int .i64 asid, .int .i64 page, .int .i64 R.fr, .bool R.wr], .int .i64 at_] w4 fun e w' => e = .returned (.int .i64 0) ∧ TlbIn w' pb (fun i => if i = k then w4.heap.size else lb i) (fun i => if i = k then some l else L i) ∧ w4.heap.size < w'.heap.size ∧ Touch (· = pb) w4 w' := fun w4 h4 => by
    rw [← hlv]; exact tlb_put_go pb lb L l at_ k w4 h4 hr h0 h1 hk hp
  rw [hlv]
  clear hlv hll
  have HE := Lib.hid he
  have HF := Lib.hid hF
  clear hF hp hr
  go_enter Try.func58, Try.ntmps58
  go_wp2_with (fail)
  refine (tlb_find pb lb L asid page _ ht1).mono ?_
  rintro e w1 ⟨rfl, hb⟩
  rw [hl]
  unfold lnV
  have kb : Below w.heap.size w w1 := (Below.alloc (Below.refl _ _) (Nat.le_refl _) _).trans (hb.mono (by simp))
  have hz : w.heap.size < w1.heap.size := by have := hb.size; simp at this; omega
  have hu1 := hu.below kb
  have hm1 := hm.below kb
  have z0 : w1.cell? ⟨w.heap.size, 0, none⟩ = some (.int .i64 0) := keep hb (by simp) (by simp [go_sem])
  have z1 : w1.cell? ⟨w.heap.size, 1, none⟩ = some (.int .i64 0) := keep hb (by simp) (by simp [go_sem])
  have z2 : w1.cell? ⟨w.heap.size, 2, none⟩ = some (.int .i64 0) := keep hb (by simp) (by simp [go_sem])
  have z3 : w1.cell? ⟨w.heap.size, 3, none⟩ = some (.bool false) := keep hb (by simp) (by simp [go_sem])
  have y0 : w1.frozen? ⟨w.heap.size, 0, none⟩ = false := keepF hb (by simp) (by simp [go_sem])
  have y1 : w1.frozen? ⟨w.heap.size, 1, none⟩ = false := keepF hb (by simp) (by simp [go_sem])
  have y2 : w1.frozen? ⟨w.heap.size, 2, none⟩ = false := keepF hb (by simp) (by simp [go_sem])
  have y3 : w1.frozen? ⟨w.heap.size, 3, none⟩ = false := keepF hb (by simp) (by simp [go_sem])
  have hne1 : ¬ w.heap.size = w1.heap.size := by omega
  have hne2 : ¬ pu = w1.heap.size := by have := hu1.lt; omega
  obtain ⟨w2, hw2⟩ : ∃ w2, w2 = w1.alloc (.cells #[.int .i64 0, .int .i64 0, .int .i64 0, .bool false] 41) := ⟨_, rfl⟩
  have kb2 : Below w.heap.size w w2 := by rw [hw2]; repeat (first | with_reducible exact Below.refl _ _ | with_reducible assumption | with_reducible refine below_drewN ?_ _ | with_reducible refine Below.drew ?_ | with_reducible refine Below.setCell ?_ (by first | omega | (simp <;> omega)) _ | with_reducible refine Below.alloc ?_ (by first | omega | (simp <;> omega)) _)
  have kbb2 : Below w1.heap.size w1 w2 := by rw [hw2]; repeat (first | with_reducible exact Below.refl _ _ | with_reducible assumption | with_reducible refine below_drewN ?_ _ | with_reducible refine Below.drew ?_ | with_reducible refine Below.setCell ?_ (by first | omega | (simp <;> omega)) _ | with_reducible refine Below.alloc ?_ (by first | omega | (simp <;> omega)) _)
  have zz : w1.heap.size < w2.heap.size := by rw [hw2]; simp
  have hu2 := hu.below kb2
  have hm2 := hm.below kb2
  have d0 := hu2.c0
  have d2 := hu2.c2
  have hlt2 := hu2.lt
  have hne3 : ¬ pu = w2.heap.size := by omega
  have hS : ∀ w', Below w2.heap.size w2 w' → w'.cell? ⟨pu, 0, none⟩ = some (.pointer (some ⟨pm, 0, none⟩)) ∧ w'.cell? ⟨pu, 2, none⟩ = some (.int .i64 root) := fun w' h => ⟨keep h hlt2 d0, keep h hlt2 d2⟩
  go_wp2_with (fail)
  rw [← hw2]
  clear hw2
  go_region_held3 (fun w' => w'.cell? ⟨pu, 0, none⟩ = some (.pointer (some ⟨pm, 0, none⟩)) ∧ w'.cell? ⟨pu, 2, none⟩ = some (.int .i64 root)) (exact hS _ (by repeat (first | with_reducible exact Below.refl _ _ | with_reducible assumption | with_reducible refine below_drewN ?_ _ | with_reducible refine Below.drew ?_ | with_reducible refine Below.setCell ?_ (by first | omega | (simp <;> omega)) _ | with_reducible refine Below.alloc ?_ (by first | omega | (simp <;> omega)) _)))
    ((go_at_call 66
      refine (walk_any pm bk n W root page _ (hm2.below (by repeat (first | with_reducible exact Below.refl _ _ | with_reducible assumption | with_reducible refine below_drewN ?_ _ | with_reducible refine Below.drew ?_ | with_reducible refine Below.setCell ?_ (by first | omega | (simp <;> omega)) _ | with_reducible refine Below.alloc ?_ (by first | omega | (simp <;> omega)) _))) R hRR).mono ?_
      rintro e w3 ⟨v, rfl, hown3, hb3'⟩
      first
        | (have hE := ret_ent rfl (below_un hb3'); obtain ⟨⟨e0, e1, e2, e3⟩, ⟨g0, g1, g2, g3⟩, hz3, hb3⟩ := hE; have hs3 := hb3.size)
        | (have hb3 : Below w2.heap.size w2 w3 := below_un hb3'; have hs3 := hb3.size)))
  all_goals
    have kb13 : Below w1.heap.size w1 w3 := kbb2.trans (hb3.mono kbb2.size)
    have kb3 : Below w.heap.size w w3 := kb2.trans (hb3.mono kb2.size)
    have x0 := keep kb13 hz z0
    have x1 := keep kb13 hz z1
    have x2 := keep kb13 hz z2
    have x3 := keep kb13 hz z3
    have x4 := keepF kb13 hz y0
    have x5 := keepF kb13 hz y1
    have x6 := keepF kb13 hz y2
    have x7 := keepF kb13 hz y3
    have xz : w.heap.size < w3.heap.size := by omega
    clear z0 z1 z2 z3 y0 y1 y2 y3 hS
  · obtain ⟨be, hbe⟩ : ∃ be, be = w3.heap.size := ⟨_, rfl⟩
    rw [← hbe]
    obtain ⟨w4, hw4⟩ : ∃ w4, w4 = w3.alloc (.cells #[.bool R.v, .bool R.wr, .bool R.tb, .int .i64 R.fr] 34) := ⟨_, rfl⟩
    rw [← hw4]
    have hb34 : Below w3.heap.size w3 w4 := by rw [hw4]; repeat (first | with_reducible exact Below.refl _ _ | with_reducible assumption | with_reducible refine below_drewN ?_ _ | with_reducible refine Below.drew ?_ | with_reducible refine Below.setCell ?_ (by first | omega | (simp <;> omega)) _ | with_reducible refine Below.alloc ?_ (by first | omega | (simp <;> omega)) _)
    have b0 : w4.cell? ⟨be, 0, none⟩ = some (.bool R.v) := by rw [hw4, hbe]; simp [go_sem]
    have b1 : w4.cell? ⟨be, 1, none⟩ = some (.bool R.wr) := by rw [hw4, hbe]; simp [go_sem]
    have b2 : w4.cell? ⟨be, 2, none⟩ = some (.bool R.tb) := by rw [hw4, hbe]; simp [go_sem]
    have b3 : w4.cell? ⟨be, 3, none⟩ = some (.int .i64 R.fr) := by rw [hw4, hbe]; simp [go_sem]
    have x0 := keep hb34 xz x0
    have x1 := keep hb34 xz x1
    have x2 := keep hb34 xz x2
    have x3 := keep hb34 xz x3
    have x4 := keepF hb34 xz x4
    have x5 := keepF hb34 xz x5
    have x6 := keepF hb34 xz x6
    have x7 := keepF hb34 xz x7
    have hbw : w.heap.size < be := by omega
    have hb4 : be < w4.heap.size := by rw [hw4, hbe]; simp
    have kb4 : Below w.heap.size w w4 := kb3.trans (hb34.mono kb3.size)
    clear hw4 hbe
    have hu4 := hu.below kb4
    have hm4 := hm.below kb4
    have ht4 := ht.below kb4
    have u0 := hu4.c0
    have u1 := hu4.c1
    have u3 := hu4.c3
    have ul := hu4.lt
    have xz4 : w.heap.size < w4.heap.size := by omega
    have n1 : ¬ pu = w4.heap.size := by omega
    have n2 : ¬ be = w4.heap.size := by omega
    have n3 : ¬ w.heap.size = w4.heap.size := by omega
    go_wp2_with (go_at_call 49; refine (mmu_has pu pm pb root asid bk n W _ _ hu4 hm4).mono ?_; rintro e w' ⟨rfl, rfl⟩; rw [hh])
    go_region_held3 (fun w' => w'.cell? ⟨pu, 3, none⟩ = some (.int .i64 asid) ∧ w'.cell? ⟨be, 3, none⟩ = some (.int .i64 R.fr) ∧ w'.cell? ⟨be, 1, none⟩ = some (.bool R.wr)) (go_keep) (fail)
    obtain ⟨w5, hw5⟩ : ∃ w5, w5 = (w4.alloc (.cells #[.int .i64 asid, .int .i64 page, .int .i64 R.fr, .bool R.wr] 41)) := ⟨_, rfl⟩
    have hb45 : Below w4.heap.size w4 w5 := by rw [hw5]; repeat (first | with_reducible exact Below.refl _ _ | with_reducible assumption | with_reducible refine below_drewN ?_ _ | with_reducible refine Below.drew ?_ | with_reducible refine Below.setCell ?_ (by first | omega | (simp <;> omega)) _ | with_reducible refine Below.alloc ?_ (by first | omega | (simp <;> omega)) _)
    have l0 : w5.cell? ⟨w4.heap.size, 0, none⟩ = some (.int .i64 asid) := by rw [hw5]; simp [go_sem]
    have l1 : w5.cell? ⟨w4.heap.size, 1, none⟩ = some (.int .i64 page) := by rw [hw5]; simp [go_sem]
    have l2 : w5.cell? ⟨w4.heap.size, 2, none⟩ = some (.int .i64 R.fr) := by rw [hw5]; simp [go_sem]
    have l3 : w5.cell? ⟨w4.heap.size, 3, none⟩ = some (.bool R.wr) := by rw [hw5]; simp [go_sem]
    have s45 : w4.heap.size < w5.heap.size := by rw [hw5]; simp
    go_wp2_with (fail)
    rw [← hw5]
    clear hw5
    have ht5 := ht4.below hb45
    have v1 := keep hb45 ul u1
    have x0 := keep hb45 xz4 x0
    have x1 := keep hb45 xz4 x1
    have x2 := keep hb45 xz4 x2
    have x3 := keep hb45 xz4 x3
    have x4 := keepF hb45 xz4 x4
    have x5 := keepF hb45 xz4 x5
    have x6 := keepF hb45 xz4 x6
    have x7 := keepF hb45 xz4 x7
    have kb5 : Below w.heap.size w w5 := kb4.trans (hb45.mono kb4.size)
    have hs5 := kb5.size
    have np1 : ¬ w4.heap.size = pb := by omega
    have np2 : ¬ w.heap.size = pb := by omega
    go_region_held3 (fun w' => w'.cell? ⟨pu, 1, none⟩ = some (.pointer (some ⟨pb, 0, none⟩)) ∧ w'.cell? ⟨w4.heap.size, 0, none⟩ = some (.int .i64 asid) ∧ w'.cell? ⟨w4.heap.size, 1, none⟩ = some (.int .i64 page) ∧ w'.cell? ⟨w4.heap.size, 2, none⟩ = some (.int .i64 R.fr) ∧ w'.cell? ⟨w4.heap.size, 3, none⟩ = some (.bool R.wr)) (first | go_keep | exact ⟨by assumption, by assumption, by assumption, by assumption, by assumption⟩)
      ((go_at_call 21
        refine (HF.out _ (ht5.below (by repeat (first | with_reducible exact Below.refl _ _ | with_reducible assumption | with_reducible refine below_drewN ?_ _ | with_reducible refine Below.drew ?_ | with_reducible refine Below.setCell ?_ (by first | omega | (simp <;> omega)) _ | with_reducible refine Below.alloc ?_ (by first | omega | (simp <;> omega)) _)))).mono ?_
        rintro e w6 ⟨rfl, htl6, hs6, htt6⟩
        have ht6 : Touch (· = pb) w5 w6 := ⟨htt6.os, htt6.tape, htt6.output, htt6.size, htt6.block⟩
        have v1 := keepT ht6 (Nat.lt_of_lt_of_le hlt hs5) hpu v1
        have l0 := keepT ht6 s45 np1 l0
        have l1 := keepT ht6 s45 np1 l1
        have l2 := keepT ht6 s45 np1 l2
        have l3 := keepT ht6 s45 np1 l3))
    have xw5 : w.heap.size < w5.heap.size := by omega
    have hz56 := ht6.size
    have xw6 : w.heap.size < w6.heap.size := by omega
    have x0 := keepT ht6 xw5 np2 x0
    have x1 := keepT ht6 xw5 np2 x1
    have x2 := keepT ht6 xw5 np2 x2
    have x3 := keepT ht6 xw5 np2 x3
    have x4 : w6.frozen? ⟨w.heap.size, 0, none⟩ = false := (frozen_of_heap (ht6.block _ xw5 np2) 0).trans x4
    have x5 : w6.frozen? ⟨w.heap.size, 1, none⟩ = false := (frozen_of_heap (ht6.block _ xw5 np2) 1).trans x5
    have x6 : w6.frozen? ⟨w.heap.size, 2, none⟩ = false := (frozen_of_heap (ht6.block _ xw5 np2) 2).trans x6
    have x7 : w6.frozen? ⟨w.heap.size, 3, none⟩ = false := (frozen_of_heap (ht6.block _ xw5 np2) 3).trans x7
    have t6 : Touch (· = pb) w w6 := (Touch.of_below kb5).trans ht6
    go_wp2_with (fail)
    refine bodyPost_ret (v := .agg #[.int .i64 asid, .int .i64 page, .int .i64 R.fr, .bool R.wr]) (by simp [results, Try.results58, go_sem, x0, x1, x2, x3, xw6]) rfl ⟨rfl, ⟨w5.heap.size, hs5, ?_, ?_⟩, ?_⟩
    · simpa using hs6
    · have hT : Touch (· = w.heap.size) w6 ((((w6.setCell ⟨w.heap.size, 0, none⟩ (.int .i64 asid)).setCell ⟨w.heap.size, 1, none⟩ (.int .i64 page)).setCell ⟨w.heap.size, 2, none⟩ (.int .i64 R.fr)).setCell ⟨w.heap.size, 3, none⟩ (.bool R.wr)) := by
        repeat (first | with_reducible exact Touch.refl _ _ | refine Touch.setCell (S := (· = w.heap.size)) ?_ (Or.inl rfl) _)
      refine htl6.touch hT (fun h => np2 h.symm) (fun i m hi hm' => ?_)
      have hpl' := (ht.some_ i · hi)
      by_cases e : i = k
      · rw [if_pos e]; intro h; have h' : w5.heap.size = w.heap.size := h; omega
      · rw [if_neg e] at hm' ⊢
        have := (hpl' m hm').2.1
        intro h; omega
    · repeat (first | with_reducible exact t6 | with_reducible refine Touch.setCell ?_ (Or.inr (by simp)) _)
  · obtain ⟨be, hbe⟩ : ∃ be, be = w2.heap.size := ⟨_, rfl⟩
    rw [← hbe] at e0 e1 e2 e3 g0 g1 g2 g3 ⊢
    obtain ⟨w4, hw4⟩ : ∃ w4, w4 = (((w3.setCell ⟨be, 0, none⟩ (.bool R.v)).setCell ⟨be, 1, none⟩ (.bool R.wr)).setCell ⟨be, 2, none⟩ (.bool R.tb)).setCell ⟨be, 3, none⟩ (.int .i64 R.fr) := ⟨_, rfl⟩
    rw [← hw4]
    have hbw : w.heap.size < be := by omega
    have b0 : w4.cell? ⟨be, 0, none⟩ = some (.bool R.v) := by rw [hw4]; simp [go_sem, e0]
    have b1 : w4.cell? ⟨be, 1, none⟩ = some (.bool R.wr) := by rw [hw4]; simp [go_sem, e1]
    have b2 : w4.cell? ⟨be, 2, none⟩ = some (.bool R.tb) := by rw [hw4]; simp [go_sem, e2]
    have b3 : w4.cell? ⟨be, 3, none⟩ = some (.int .i64 R.fr) := by rw [hw4]; simp [go_sem, e3]
    have hb34 : Below be w3 w4 := by rw [hw4]; repeat (first | with_reducible exact Below.refl _ _ | with_reducible assumption | with_reducible refine below_drewN ?_ _ | with_reducible refine Below.drew ?_ | with_reducible refine Below.setCell ?_ (by first | omega | (simp <;> omega)) _ | with_reducible refine Below.alloc ?_ (by first | omega | (simp <;> omega)) _)
    have x0 := keep hb34 hbw x0
    have x1 := keep hb34 hbw x1
    have x2 := keep hb34 hbw x2
    have x3 := keep hb34 hbw x3
    have x4 := keepF hb34 hbw x4
    have x5 := keepF hb34 hbw x5
    have x6 := keepF hb34 hbw x6
    have x7 := keepF hb34 hbw x7
    have hb4 : be < w4.heap.size := by have := hb34.size; omega
    have kb4 : Below w.heap.size w w4 := kb3.trans (hb34.mono (by omega))
    clear hw4 hbe e0 e1 e2 e3 g0 g1 g2 g3
    have hu4 := hu.below kb4
    have hm4 := hm.below kb4
    have ht4 := ht.below kb4
    have u0 := hu4.c0
    have u1 := hu4.c1
    have u3 := hu4.c3
    have ul := hu4.lt
    have xz4 : w.heap.size < w4.heap.size := by omega
    have n1 : ¬ pu = w4.heap.size := by omega
    have n2 : ¬ be = w4.heap.size := by omega
    have n3 : ¬ w.heap.size = w4.heap.size := by omega
    go_wp2_with (go_at_call 49; refine (mmu_has pu pm pb root asid bk n W _ _ hu4 hm4).mono ?_; rintro e w' ⟨rfl, rfl⟩; rw [hh])
    go_region_held3 (fun w' => w'.cell? ⟨pu, 3, none⟩ = some (.int .i64 asid) ∧ w'.cell? ⟨be, 3, none⟩ = some (.int .i64 R.fr) ∧ w'.cell? ⟨be, 1, none⟩ = some (.bool R.wr)) (go_keep) (fail)
    obtain ⟨w5, hw5⟩ : ∃ w5, w5 = (w4.alloc (.cells #[.int .i64 asid, .int .i64 page, .int .i64 R.fr, .bool R.wr] 41)) := ⟨_, rfl⟩
    have hb45 : Below w4.heap.size w4 w5 := by rw [hw5]; repeat (first | with_reducible exact Below.refl _ _ | with_reducible assumption | with_reducible refine below_drewN ?_ _ | with_reducible refine Below.drew ?_ | with_reducible refine Below.setCell ?_ (by first | omega | (simp <;> omega)) _ | with_reducible refine Below.alloc ?_ (by first | omega | (simp <;> omega)) _)
    have l0 : w5.cell? ⟨w4.heap.size, 0, none⟩ = some (.int .i64 asid) := by rw [hw5]; simp [go_sem]
    have l1 : w5.cell? ⟨w4.heap.size, 1, none⟩ = some (.int .i64 page) := by rw [hw5]; simp [go_sem]
    have l2 : w5.cell? ⟨w4.heap.size, 2, none⟩ = some (.int .i64 R.fr) := by rw [hw5]; simp [go_sem]
    have l3 : w5.cell? ⟨w4.heap.size, 3, none⟩ = some (.bool R.wr) := by rw [hw5]; simp [go_sem]
    have s45 : w4.heap.size < w5.heap.size := by rw [hw5]; simp
    go_wp2_with (fail)
    rw [← hw5]
    clear hw5
    have ht5 := ht4.below hb45
    have v1 := keep hb45 ul u1
    have x0 := keep hb45 xz4 x0
    have x1 := keep hb45 xz4 x1
    have x2 := keep hb45 xz4 x2
    have x3 := keep hb45 xz4 x3
    have x4 := keepF hb45 xz4 x4
    have x5 := keepF hb45 xz4 x5
    have x6 := keepF hb45 xz4 x6
    have x7 := keepF hb45 xz4 x7
    have kb5 : Below w.heap.size w w5 := kb4.trans (hb45.mono kb4.size)
    have hs5 := kb5.size
    have np1 : ¬ w4.heap.size = pb := by omega
    have np2 : ¬ w.heap.size = pb := by omega
    go_region_held3 (fun w' => w'.cell? ⟨pu, 1, none⟩ = some (.pointer (some ⟨pb, 0, none⟩)) ∧ w'.cell? ⟨w4.heap.size, 0, none⟩ = some (.int .i64 asid) ∧ w'.cell? ⟨w4.heap.size, 1, none⟩ = some (.int .i64 page) ∧ w'.cell? ⟨w4.heap.size, 2, none⟩ = some (.int .i64 R.fr) ∧ w'.cell? ⟨w4.heap.size, 3, none⟩ = some (.bool R.wr)) (first | go_keep | exact ⟨by assumption, by assumption, by assumption, by assumption, by assumption⟩)
      ((go_at_call 21
        refine (HF.out _ (ht5.below (by repeat (first | with_reducible exact Below.refl _ _ | with_reducible assumption | with_reducible refine below_drewN ?_ _ | with_reducible refine Below.drew ?_ | with_reducible refine Below.setCell ?_ (by first | omega | (simp <;> omega)) _ | with_reducible refine Below.alloc ?_ (by first | omega | (simp <;> omega)) _)))).mono ?_
        rintro e w6 ⟨rfl, htl6, hs6, htt6⟩
        have ht6 : Touch (· = pb) w5 w6 := ⟨htt6.os, htt6.tape, htt6.output, htt6.size, htt6.block⟩
        have v1 := keepT ht6 (Nat.lt_of_lt_of_le hlt hs5) hpu v1
        have l0 := keepT ht6 s45 np1 l0
        have l1 := keepT ht6 s45 np1 l1
        have l2 := keepT ht6 s45 np1 l2
        have l3 := keepT ht6 s45 np1 l3))
    have xw5 : w.heap.size < w5.heap.size := by omega
    have hz56 := ht6.size
    have xw6 : w.heap.size < w6.heap.size := by omega
    have x0 := keepT ht6 xw5 np2 x0
    have x1 := keepT ht6 xw5 np2 x1
    have x2 := keepT ht6 xw5 np2 x2
    have x3 := keepT ht6 xw5 np2 x3
    have x4 : w6.frozen? ⟨w.heap.size, 0, none⟩ = false := (frozen_of_heap (ht6.block _ xw5 np2) 0).trans x4
    have x5 : w6.frozen? ⟨w.heap.size, 1, none⟩ = false := (frozen_of_heap (ht6.block _ xw5 np2) 1).trans x5
    have x6 : w6.frozen? ⟨w.heap.size, 2, none⟩ = false := (frozen_of_heap (ht6.block _ xw5 np2) 2).trans x6
    have x7 : w6.frozen? ⟨w.heap.size, 3, none⟩ = false := (frozen_of_heap (ht6.block _ xw5 np2) 3).trans x7
    have t6 : Touch (· = pb) w w6 := (Touch.of_below kb5).trans ht6
    go_wp2_with (fail)
    refine bodyPost_ret (v := .agg #[.int .i64 asid, .int .i64 page, .int .i64 R.fr, .bool R.wr]) (by simp [results, Try.results58, go_sem, x0, x1, x2, x3, xw6]) rfl ⟨rfl, ⟨w5.heap.size, hs5, ?_, ?_⟩, ?_⟩
    · simpa using hs6
    · have hT : Touch (· = w.heap.size) w6 ((((w6.setCell ⟨w.heap.size, 0, none⟩ (.int .i64 asid)).setCell ⟨w.heap.size, 1, none⟩ (.int .i64 page)).setCell ⟨w.heap.size, 2, none⟩ (.int .i64 R.fr)).setCell ⟨w.heap.size, 3, none⟩ (.bool R.wr)) := by
        repeat (first | with_reducible exact Touch.refl _ _ | refine Touch.setCell (S := (· = w.heap.size)) ?_ (Or.inl rfl) _)
      refine htl6.touch hT (fun h => np2 h.symm) (fun i m hi hm' => ?_)
      have hpl' := (ht.some_ i · hi)
      by_cases e : i = k
      · rw [if_pos e]; intro h; have h' : w5.heap.size = w.heap.size := h; omega
      · rw [if_neg e] at hm' ⊢
        have := (hpl' m hm').2.1
        intro h; omega
    · repeat (first | with_reducible exact t6 | with_reducible refine Touch.setCell ?_ (Or.inr (by simp)) _)

end Go.Proofs.Yteehghjdifbjbaa

namespace Go.Proofs.Yteehghjdifbjbaa
set_option linter.unusedSimpArgs false
set_option linter.unusedVariables false
set_option maxRecDepth 100000
open Go.RowKit
set_option maxHeartbeats 4000000

/-- The buffer behind a call: its lines' blocks are those of before, or new. -/
def TlbPost (w : World) (pb : Nat) (lb : Nat → Nat) (L L' : Nat → Option Ln) (w' : World) : Prop :=
  ∃ lb', TlbIn w' pb lb' L' ∧ (∀ i l, i < 8 → L' i = some l → (L i ≠ none ∧ lb' i = lb i) ∨ w.heap.size ≤ lb' i) ∧ Touch (· = pb) w w'
theorem TlbPost.same {w w' : World} {pb : Nat} {lb : Nat → Nat} {L : Nat → Option Ln} (h : TlbIn w pb lb L) (b : Below w.heap.size w w') : TlbPost w pb lb L L w' :=
  ⟨lb, h.below b, fun i l hi hl => Or.inl ⟨(by rw [hl]; simp), rfl⟩, Touch.of_below b⟩
theorem TlbPost.before {w0 w w' : World} {pb : Nat} {lb : Nat → Nat} {L L' : Nat → Option Ln} (b : Below w0.heap.size w0 w) (h : TlbPost w pb lb L L' w') : TlbPost w0 pb lb L L' w' := by
  obtain ⟨lb', h1, h2, h3⟩ := h
  refine ⟨lb', h1, fun i l hi hl => ?_, (Touch.of_below b).trans h3⟩
  rcases h2 i l hi hl with h | h
  · exact Or.inl h
  · exact Or.inr (Nat.le_trans b.size h)
theorem TlbPost.behind {w w' w2 : World} {pb : Nat} {lb : Nat → Nat} {L L' : Nat → Option Ln} (h : TlbPost w pb lb L L' w') (b : Below w'.heap.size w' w2) : TlbPost w pb lb L L' w2 := by
  obtain ⟨lb', h1, h2, h3⟩ := h
  exact ⟨lb', h1.below b, h2, h3.trans (Touch.of_below b)⟩

theorem mLine_is {n : Nat} {W : Nat → Int} {L : Nat → Option Ln} {root asid page : Int} {l : Ln} (h : mLine n W L root asid page = some l) : l.a = asid ∧ l.p = page := by
  unfold mLine at h
  rcases tAt_cases L asid page with ⟨_, e⟩ | ⟨k, l', _, _, _, h1, h2, e⟩
  · rw [e] at h
    simp only at h
    split at h
    · cases h; exact ⟨rfl, rfl⟩
    · cases h
  · rw [e] at h
    simp only at h
    cases h; exact ⟨h1, h2⟩

theorem mmu_line (pu pm pb : Nat) (root asid : Int) (bk n : Nat) (W : Nat → Int) (lb : Nat → Nat) (L : Nat → Option Ln) (page at_ : Int) (w : World) (hu : UnitIn w pu pm pb root asid) (hm : MemIn w pm bk n W) (ht : TlbIn w pb lb L)
    (ha : 1 ≤ asid) (ha' : asid ≤ 8) (hp : 0 ≤ page) (hp' : page < 4096) (h0 : 0 ≤ at_) (h1 : at_ < 8) (hpu : pu ≠ pb) :
    Calls Try.prog 58 #[.pointer (some ⟨pu, 0, none⟩), .int .i64 page, .int .i64 at_] w fun e w' => e = .returned (lnV (mLine n W L root asid page)) ∧ TlbPost w pb lb L (mTlb n W L root asid page at_) w' := by
  cases hl : tFind L asid page with
  | some l =>
    have e1 : mLine n W L root asid page = some l := by unfold mLine; rw [hl]
    have e2 : mTlb n W L root asid page at_ = L := by unfold mTlb; rw [hl]
    rw [e1, e2]
    exact (mmu_line_hit pu pm pb root asid lb L page at_ l w hu ht hl).mono fun e w' ⟨h1, h2⟩ => ⟨h1, TlbPost.same ht h2⟩
  | none =>
    by_cases hR : (walkM W n root page).e = 0 ∧ hasB n (walkM W n root page).fr = true
    · have e1 : mLine n W L root asid page = some ⟨asid, page, (walkM W n root page).fr, (walkM W n root page).wr⟩ := by unfold mLine; rw [hl]; simp only; rw [if_pos hR]
      have e2 : mTlb n W L root asid page at_ = tPutL L ⟨asid, page, (walkM W n root page).fr, (walkM W n root page).wr⟩ at_ := by unfold mTlb; rw [hl, e1]
      obtain ⟨k, hk, hpl⟩ := tPlace_bd L ⟨asid, page, (walkM W n root page).fr, (walkM W n root page).wr⟩ at_ h0 h1
      rw [e1, e2, tPutL_eq _ _ _ k hpl]
      have hf := hasB_yes hR.2
      have hn := hm.n2
      refine (mmu_line_new pu pm pb root asid bk n W lb L page at_ k _ w hu hm ht hl hR.1 hR.2 rfl (by simp [rightL]; omega) h0 h1 hk hpl hpu).mono ?_
      rintro e w' ⟨h1, ⟨nb, h2, h3, h4⟩, h5⟩
      refine ⟨h1, _, h4, fun i l hi hl => ?_, h5⟩
      by_cases q : i = k
      · right; rw [if_pos q]; exact h2
      · left; simp only [q, if_false] at hl ⊢; exact ⟨by rw [hl]; simp, trivial⟩
    · have e1 : mLine n W L root asid page = none := by unfold mLine; rw [hl]; simp only; rw [if_neg hR]
      have e2 : mTlb n W L root asid page at_ = L := by unfold mTlb; rw [hl, e1]
      rw [e1, e2]
      exact (mmu_line_miss pu pm pb root asid bk n W lb L page at_ w hu hm ht hl hR).mono fun e w' ⟨h1, h2⟩ => ⟨h1, TlbPost.same ht h2⟩

/-- May an address be looked for? -/
def fOk (asid addr at_ : Int) : Bool := decide (0 ≤ addr) && decide (addr < 65536) && !decide (asid = 0) && decide (0 ≤ at_) && decide (at_ < 8)
/-- The frame, the place, the error of an address. -/
structure FRes where
  f : Int
  p : Int
  e : Int
def fRes (n : Nat) (W : Nat → Int) (L : Nat → Option Ln) (root asid addr : Int) (wr : Bool) (at_ : Int) : FRes :=
  if fOk asid addr at_ then match mLine n W L root asid (addr / 16) with
    | none => ⟨0, 0, 10⟩
    | some l => if wr && !l.w then ⟨0, 0, 9⟩ else if hasB n l.f then ⟨l.f, addr % 16, 0⟩ else ⟨0, 0, 10⟩
  else ⟨0, 0, 1⟩
def fTlb (n : Nat) (W : Nat → Int) (L : Nat → Option Ln) (root asid addr : Int) (at_ : Int) : Nat → Option Ln := if fOk asid addr at_ then mTlb n W L root asid (addr / 16) at_ else L

theorem mmu_find_bad (pu pm pb : Nat) (root asid : Int) (addr : Int) (wr : Bool) (at_ : Int) (w : World) (hu : UnitIn w pu pm pb root asid) (h : fOk asid addr at_ = false) :
    Calls Try.prog 23 #[.pointer (some ⟨pu, 0, none⟩), .int .i64 addr, .bool wr, .int .i64 at_] w fun e w' => e = .returned (.tuple #[.int .i64 0, .int .i64 0, .int .i64 1]) ∧ w = w' := by
  have c3 := hu.c3
  by_cases ha : 0 ≤ addr ∧ addr < 65536
  · have hh : (asid == 0) = true ∨ ((asid == 0) = false ∧ at_ < 0) ∨ ((asid == 0) = false ∧ ¬ at_ < 0 ∧ 8 ≤ at_) := by
      by_cases q : asid = 0
      · exact Or.inl (by simp [q])
      · by_cases q2 : at_ < 0
        · exact Or.inr (Or.inl ⟨by simp [q], q2⟩)
        · refine Or.inr (Or.inr ⟨by simp [q], q2, ?_⟩)
          simp [fOk, ha, q] at h; omega
    clear h hu
    obtain ⟨ha1, ha2⟩ := ha
    rcases hh with q | ⟨q, q2⟩ | ⟨q, q2, q3⟩
    all_goals
      go_enter Try.func23, Try.ntmps23
      go_wp2_with (go_at_call 57; refine (split_yes _ _ ha1 ha2).mono ?_; rintro e w' ⟨rfl, rfl⟩)
      go_ret3
      exact ⟨rfl, rfl⟩
  · clear h hu
    go_enter Try.func23, Try.ntmps23
    go_wp2_with (go_at_call 57; refine (split_no _ _ ha).mono ?_; rintro e w' ⟨rfl, rfl⟩)
    go_ret3
    exact ⟨rfl, rfl⟩

theorem fOk_yes {asid addr at_ : Int} (h : fOk asid addr at_ = true) : (0 ≤ addr ∧ addr < 65536) ∧ asid ≠ 0 ∧ 0 ≤ at_ ∧ at_ < 8 := by
  simp [fOk] at h; omega

theorem mmu_find_ok (pu pm pb : Nat) (root asid : Int) (bk n : Nat) (W : Nat → Int) (lb : Nat → Nat) (L : Nat → Option Ln) (addr : Int) (wr : Bool) (at_ : Int) (F : FRes) (w : World) (hu : UnitIn w pu pm pb root asid) (hm : MemIn w pm bk n W) (ht : TlbIn w pb lb L)
    (ha : 1 ≤ asid) (ha' : asid ≤ 8) (hpu : pu ≠ pb) (hpm : pm ≠ pb) (hbk : bk ≠ pb) (h : fOk asid addr at_ = true) (hF : fRes n W L root asid addr wr at_ = F) :
    Calls Try.prog 23 #[.pointer (some ⟨pu, 0, none⟩), .int .i64 addr, .bool wr, .int .i64 at_] w fun e w' => e = .returned (.tuple #[.int .i64 F.f, .int .i64 F.p, .int .i64 F.e]) ∧ TlbPost w pb lb L (mTlb n W L root asid (addr / 16) at_) w' := by
  have c3 := hu.c3
  obtain ⟨⟨a0, a1⟩, az, b0, b1⟩ := fOk_yes h
  have az' : (asid == 0) = false := by simp [az]
  have q0 : 0 ≤ addr / 16 := by omega
  have q1 : addr / 16 < 4096 := by omega
  unfold fRes at hF
  rw [if_pos h] at hF
  have hml : ∀ l, mLine n W L root asid (addr / 16) = some l → (l.a == 0) = false := fun l hl => by have := (mLine_is hl).1; simp; omega
  obtain ⟨M, hM⟩ : ∃ M, mLine n W L root asid (addr / 16) = M := ⟨_, rfl⟩
  rw [hM] at hF hml
  have HM := Lib.hid hM
  clear hM h
  obtain ⟨L', hL'⟩ : ∃ L', mTlb n W L root asid (addr / 16) at_ = L' := ⟨_, rfl⟩
  have HL := Lib.hid hL'
  clear hL' az
  rw [HL.out]
  cases M with
  | none =>
    subst hF
    go_enter Try.func23, Try.ntmps23
    go_wp2_with (go_at_call 57; refine (split_yes _ _ a0 a1).mono ?_; rintro e w' ⟨rfl, rfl⟩)
    refine (mmu_line pu pm pb root asid bk n W lb L (addr / 16) at_ _ hu hm ht ha ha' q0 q1 b0 b1 hpu).mono ?_
    rintro e w1 ⟨rfl, hpo⟩
    rw [HM.out]
    rw [HL.out] at hpo
    unfold lnV
    go_wp2_with (fail)
    go_ret3
    exact ⟨rfl, hpo.behind (by repeat (first | with_reducible exact Below.refl _ _ | with_reducible assumption | with_reducible refine below_drewN ?_ _ | with_reducible refine Below.drew ?_ | with_reducible refine Below.setCell ?_ (by first | omega | (simp <;> omega)) _ | with_reducible refine Below.alloc ?_ (by first | omega | (simp <;> omega)) _))⟩
  | some l =>
    have hla := hml l rfl
    clear hml
    have hcond : (wr = true ∧ l.w = false) ∨ ((wr = false ∨ l.w = true) ∧ hasB n l.f = false) ∨ ((wr = false ∨ l.w = true) ∧ hasB n l.f = true) := by
      cases wr <;> cases l.w <;> cases hasB n l.f <;> simp
    have arm : ∀ (w1 : World) (u : Bool), TlbPost w pb lb L L' w1 → Calls Try.prog 49 #[.pointer (some ⟨pu, 0, none⟩), .int .i64 l.f] (w1.alloc (.cells #[.int .i64 l.a, .int .i64 l.p, .int .i64 l.f, .bool u] 41)) fun e w' => e = .returned (.bool (hasB n l.f)) ∧ (w1.alloc (.cells #[.int .i64 l.a, .int .i64 l.p, .int .i64 l.f, .bool u] 41)) = w' := fun w1 u hpo => by
      obtain ⟨lb', p1, p2, p3⟩ := hpo
      refine mmu_has pu pm pb root asid bk n W l.f _ ?_ ?_
      · exact (hu.heap (p3.block pu hu.lt hpu)).below (by repeat (first | with_reducible exact Below.refl _ _ | with_reducible assumption | with_reducible refine below_drewN ?_ _ | with_reducible refine Below.drew ?_ | with_reducible refine Below.setCell ?_ (by first | omega | (simp <;> omega)) _ | with_reducible refine Below.alloc ?_ (by first | omega | (simp <;> omega)) _))
      · exact (hm.touch p3 hpm hbk).below (by repeat (first | with_reducible exact Below.refl _ _ | with_reducible assumption | with_reducible refine below_drewN ?_ _ | with_reducible refine Below.drew ?_ | with_reducible refine Below.setCell ?_ (by first | omega | (simp <;> omega)) _ | with_reducible refine Below.alloc ?_ (by first | omega | (simp <;> omega)) _))
    have HA := Lib.hid arm
    clear arm
    rcases hcond with ⟨h1, h2⟩ | ⟨h1, h2⟩ | ⟨h1, h2⟩
    · subst h1
      have hF' : F = ⟨0, 0, 9⟩ := by rw [← hF]; simp [h2]
      subst hF'
      clear hF
      go_enter Try.func23, Try.ntmps23
      go_wp2_with (go_at_call 57; refine (split_yes _ _ a0 a1).mono ?_; rintro e w' ⟨rfl, rfl⟩)
      refine (mmu_line pu pm pb root asid bk n W lb L (addr / 16) at_ _ hu hm ht ha ha' q0 q1 b0 b1 hpu).mono ?_
      rintro e w1 ⟨rfl, hpo⟩
      rw [HM.out]
      rw [HL.out] at hpo
      unfold lnV
      go_wp2_with (fail)
      go_ret3
      exact ⟨rfl, hpo.behind (by repeat (first | with_reducible exact Below.refl _ _ | with_reducible assumption | with_reducible refine below_drewN ?_ _ | with_reducible refine Below.drew ?_ | with_reducible refine Below.setCell ?_ (by first | omega | (simp <;> omega)) _ | with_reducible refine Below.alloc ?_ (by first | omega | (simp <;> omega)) _))⟩
    · have hF' : F = ⟨0, 0, 10⟩ := by
        rw [← hF]; rcases h1 with h1 | h1 <;> simp [h1, h2]
      subst hF'
      clear hF
      have H2 := Lib.hid h2
      clear h2
      rcases h1 with h1 | h1
      all_goals
        go_enter Try.func23, Try.ntmps23
        go_wp2_with (go_at_call 57; refine (split_yes _ _ a0 a1).mono ?_; rintro e w' ⟨rfl, rfl⟩)
        refine (mmu_line pu pm pb root asid bk n W lb L (addr / 16) at_ _ hu hm ht ha ha' q0 q1 b0 b1 hpu).mono ?_
        rintro e w1 ⟨rfl, hpo⟩
        rw [HM.out]
        rw [HL.out] at hpo
        unfold lnV
        go_wp2_with (fail)
        all_goals
          refine (HA.out w1 _ hpo).mono ?_
          rintro e w2 ⟨rfl, rfl⟩
          rw [H2.out]
          go_wp2_with (fail)
          go_ret3
          exact ⟨rfl, hpo.behind (by repeat (first | with_reducible exact Below.refl _ _ | with_reducible assumption | with_reducible refine below_drewN ?_ _ | with_reducible refine Below.drew ?_ | with_reducible refine Below.setCell ?_ (by first | omega | (simp <;> omega)) _ | with_reducible refine Below.alloc ?_ (by first | omega | (simp <;> omega)) _))⟩
    · have hF' : F = ⟨l.f, addr % 16, 0⟩ := by
        rw [← hF]; rcases h1 with h1 | h1 <;> simp [h1, h2]
      subst hF'
      clear hF
      have H2 := Lib.hid h2
      clear h2
      rcases h1 with h1 | h1
      all_goals
        go_enter Try.func23, Try.ntmps23
        go_wp2_with (go_at_call 57; refine (split_yes _ _ a0 a1).mono ?_; rintro e w' ⟨rfl, rfl⟩)
        refine (mmu_line pu pm pb root asid bk n W lb L (addr / 16) at_ _ hu hm ht ha ha' q0 q1 b0 b1 hpu).mono ?_
        rintro e w1 ⟨rfl, hpo⟩
        rw [HM.out]
        rw [HL.out] at hpo
        unfold lnV
        go_wp2_with (fail)
        all_goals
          refine (HA.out w1 _ hpo).mono ?_
          rintro e w2 ⟨rfl, rfl⟩
          rw [H2.out]
          go_wp2_with (fail)
          go_ret3
          exact ⟨rfl, hpo.behind (by repeat (first | with_reducible exact Below.refl _ _ | with_reducible assumption | with_reducible refine below_drewN ?_ _ | with_reducible refine Below.drew ?_ | with_reducible refine Below.setCell ?_ (by first | omega | (simp <;> omega)) _ | with_reducible refine Below.alloc ?_ (by first | omega | (simp <;> omega)) _))⟩

end Go.Proofs.Yteehghjdifbjbaa

namespace Go.Proofs.Yteehghjdifbjbaa
set_option linter.unusedSimpArgs false
set_option linter.unusedVariables false
set_option maxRecDepth 100000
open Go.RowKit
set_option maxHeartbeats 4000000

/-- The reference's buffer, at pr: eight lines, and which are there. -/
structure R9In (w : World) (pr : Nat) (M : Nat → Ln) (I : Nat → Bool) : Prop where
  c0 : ∀ i, i < 8 → w.cell? ⟨pr, i * 4, none⟩ = some (.int .i64 (M i).a)
  c1 : ∀ i, i < 8 → w.cell? ⟨pr, i * 4 + 1, none⟩ = some (.int .i64 (M i).p)
  c2 : ∀ i, i < 8 → w.cell? ⟨pr, i * 4 + 2, none⟩ = some (.int .i64 (M i).f)
  c3 : ∀ i, i < 8 → w.cell? ⟨pr, i * 4 + 3, none⟩ = some (.bool (M i).w)
  is_ : ∀ i, i < 8 → w.cell? ⟨pr, 32 + i, none⟩ = some (.bool (I i))
  free : ∀ j, j < 40 → w.frozen? ⟨pr, j, none⟩ = false
  lt : pr < w.heap.size
theorem R9In.heap {w w' : World} {pr : Nat} {M : Nat → Ln} {I : Nat → Bool} (h : R9In w pr M I) (e : w'.heap[pr]? = w.heap[pr]?) : R9In w' pr M I :=
  ⟨fun i hi => (cell_of_heap e _).trans (h.c0 i hi), fun i hi => (cell_of_heap e _).trans (h.c1 i hi), fun i hi => (cell_of_heap e _).trans (h.c2 i hi), fun i hi => (cell_of_heap e _).trans (h.c3 i hi),
   fun i hi => (cell_of_heap e _).trans (h.is_ i hi), fun i hi => (frozen_of_heap e _).trans (h.free i hi), by
    have := h.lt
    rcases Nat.lt_or_ge pr w'.heap.size with h' | h'
    · exact h'
    · rw [Array.getElem?_eq_none h', Array.getElem?_eq_getElem this] at e; cases e⟩
theorem R9In.below {w w' : World} {pr : Nat} {M : Nat → Ln} {I : Nat → Bool} (h : R9In w pr M I) (t : Below w.heap.size w w') : R9In w' pr M I := h.heap (t.block pr h.lt)
/-- The lines that are there. -/
def L9 (M : Nat → Ln) (I : Nat → Bool) : Nat → Option Ln := fun i => if I i then some (M i) else none
theorem isB_L9 (M : Nat → Ln) (I : Nat → Bool) (a p : Int) (k : Nat) : isB a p (L9 M I k) = (I k && ((M k).a == a) && ((M k).p == p)) := by
  unfold L9
  cases I k <;> simp [isB]

theorem r09_at (pr : Nat) (M : Nat → Ln) (I : Nat → Bool) (a p r : Int) (w : World) (h : R9In w pr M I) (hr : tAt (L9 M I) a p = r) :
    Calls Try.prog 56 #[.pointer (some ⟨pr, 0, none⟩), .int .i64 a, .int .i64 p] w fun e w' => e = .returned (.int .i64 r) ∧ w = w' := by
  have HR := Lib.hid hr
  clear hr
  go_enter Try.func56, Try.ntmps56
  go_wp2_with (fail)
  go_loop [7] (fun i => ∃ (k : Nat), k ≤ 8 ∧ i = .int .i64 k ∧ Hid (∀ j, j < k → isB a p (L9 M I j) = false)) (fun i => 8 - (intOf i).toNat)
  case atStart => exact ⟨0, by omega, rfl, Lib.hid (fun j hj => by omega)⟩
  case round =>
    obtain ⟨k, hk, rfl, HK⟩ := hrel
    by_cases hlt : k < 8
    · have g0 := h.c0 k hlt
      have g1 := h.c1 k hlt
      have gi := h.is_ k hlt
      have hT := isB_L9 M I a p k
      have no : isB a p (L9 M I k) = false → Hid (∀ j, j < k + 1 → isB a p (L9 M I j) = false) := fun hb => Lib.hid fun j hj => by
        by_cases e : j = k
        · rw [e]; exact hb
        · exact HK.out j (by omega)
      have yes : isB a p (L9 M I k) = true → r = k := fun hb => by
        rw [← HR.out]; unfold tAt
        rw [firstI_skip _ k hk HK.out]
        obtain ⟨q, hq⟩ : ∃ q, 8 - k = q + 1 := ⟨8 - k - 1, by omega⟩
        rw [hq]; simp only [firstI]; rw [if_pos hb]
      have NO := Lib.hid no
      have YES := Lib.hid yes
      clear no yes
      cases hx : I k
      · rw [hx] at gi hT
        have HT := NO.out (by rw [hT]; rfl)
        clear hT hx
        go_wp2_with (fail)
        go_round
        case rel => exact ⟨k + 1, by omega, by go_num, HT⟩
        case measure => simp [intOf]; omega
      · rw [hx] at gi hT
        cases hy : ((M k).a == a)
        · rw [hy] at hT
          have HT := NO.out (by rw [hT]; rfl)
          clear hT hx
          go_wp2_with (fail)
          go_round
          case rel => exact ⟨k + 1, by omega, by go_num, HT⟩
          case measure => simp [intOf]; omega
        · rw [hy] at hT
          cases hz : ((M k).p == p)
          · rw [hz] at hT
            have HT := NO.out (by rw [hT]; rfl)
            clear hT hx
            go_wp2_with (fail)
            go_round
            case rel => exact ⟨k + 1, by omega, by go_num, HT⟩
            case measure => simp [intOf]; omega
          · rw [hz] at hT
            have HT := Lib.hid (YES.out (by rw [hT]; rfl))
            clear hT hx
            go_wp2_with (fail)
            go_ret
            exact ⟨by rw [HT.out]; rfl, rfl⟩
    · obtain rfl : k = 8 := by omega
      have hf : tAt (L9 M I) a p = -1 := by
        unfold tAt
        rw [firstI_skip _ 8 (by omega) HK.out]; rfl
      have HF := Lib.hid (HR.out.symm.trans hf)
      clear hf
      go_wp2_with (fail)
      go_ret
      exact ⟨by rw [HF.out]; rfl, rfl⟩

theorem r09_find (pr : Nat) (M : Nat → Ln) (I : Nat → Bool) (a p : Int) (w : World) (h : R9In w pr M I) :
    Calls Try.prog 59 #[.pointer (some ⟨pr, 0, none⟩), .int .i64 a, .int .i64 p] w fun e w' => e = .returned (.tuple #[lnV (tFind (L9 M I) a p), .bool (tFind (L9 M I) a p).isSome]) ∧ Below w.heap.size w w' := by
  have h1 := h.below (w' := w.alloc (.cells #[.int .i64 0, .int .i64 0, .int .i64 0, .bool false] 41)) (by repeat (first | with_reducible exact Below.refl _ _ | with_reducible assumption | with_reducible refine below_drewN ?_ _ | with_reducible refine Below.alloc ?_ (by simp <;> omega) _))
  have hlt := h.lt
  rcases tAt_cases (L9 M I) a p with ⟨e1, e2⟩ | ⟨k, l, hk, e1, hl, rfl, rfl, e2⟩
  · rw [e2]
    go_enter Try.func59, Try.ntmps59
    go_wp2_with (fail)
    refine (r09_at pr M I _ _ _ _ h1 e1).mono ?_
    rintro e w1 ⟨rfl, rfl⟩
    go_wp2_with (fail)
    refine bodyPost_ret (v := .tuple #[.agg #[.int .i64 0, .int .i64 0, .int .i64 0, .bool false], .bool false]) (by simp [results, Try.results59, go_sem]) rfl ⟨rfl, ?_⟩
    repeat (first | with_reducible exact Below.refl _ _ | with_reducible assumption | with_reducible refine below_drewN ?_ _ | with_reducible refine Below.alloc ?_ (by simp <;> omega) _)
  · rw [e2]
    have g0 := h.c0 k hk
    have g1 := h.c1 k hk
    have g2 := h.c2 k hk
    have g3 := h.c3 k hk
    have hM : M k = l := by
      unfold L9 at hl
      split at hl
      · exact Option.some.inj hl
      · cases hl
    rw [hM] at g0 g1 g2 g3
    clear hM
    have hne : ¬ pr = w.heap.size := by omega
    go_enter Try.func59, Try.ntmps59
    go_wp2_with (fail)
    refine (r09_at pr M I _ _ _ _ h1 e1).mono ?_
    rintro e w1 ⟨rfl, rfl⟩
    go_wp2_with (fail)
    refine bodyPost_ret (v := .tuple #[.agg #[.int .i64 l.a, .int .i64 l.p, .int .i64 l.f, .bool l.w], .bool true]) (by simp [results, Try.results59, go_sem]) rfl ⟨rfl, ?_⟩
    repeat (first | with_reducible exact Below.refl _ _ | with_reducible assumption | with_reducible refine below_drewN ?_ _ | with_reducible refine Below.alloc ?_ (by simp <;> omega) _)

theorem R9In.clear {w : World} {pr : Nat} {M : Nat → Ln} {I : Nat → Bool} (h : R9In w pr M I) (k : Nat) (hk : k < 8) (b : Bool) : R9In (w.setCell ⟨pr, 32 + k, none⟩ (.bool b)) pr M (fun i => if i = k then b else I i) := by
  have hc := h.is_ k hk
  have hoth : ∀ i, i ≠ 32 + k → (w.setCell ⟨pr, 32 + k, none⟩ (.bool b)).cell? ⟨pr, i, none⟩ = w.cell? ⟨pr, i, none⟩ := fun i hi => by
    have : (⟨pr, i, none⟩ : Addr) ≠ ⟨pr, 32 + k, none⟩ := by simp [hi]
    simp [go_sem, hi, this]
  refine ⟨fun i hi => ?_, fun i hi => ?_, fun i hi => ?_, fun i hi => ?_, fun i hi => ?_, fun i hi => by simpa [go_sem] using h.free i hi, by have := h.lt; simpa using this⟩
  · rw [hoth _ (by omega)]; exact h.c0 i hi
  · rw [hoth _ (by omega)]; exact h.c1 i hi
  · rw [hoth _ (by omega)]; exact h.c2 i hi
  · rw [hoth _ (by omega)]; exact h.c3 i hi
  · by_cases e : i = k
    · subst e; simp [go_sem, hc]
    · rw [hoth _ (by omega), if_neg e]; exact h.is_ i hi

/-- Which are there still, when those of T among the first k have gone. -/
def dropI (T : Ln → Bool) (M : Nat → Ln) (I : Nat → Bool) (k : Nat) : Nat → Bool := fun i => if i < k then I i && !T (M i) else I i
theorem L9_drop (T : Ln → Bool) (M : Nat → Ln) (I : Nat → Bool) (k : Nat) : L9 M (dropI T M I k) = dropL T (L9 M I) k := by
  funext i
  simp only [L9, dropI, dropL]
  by_cases e : i < k
  · rcases Bool.eq_false_or_eq_true (I i) with hI | hI <;> rcases Bool.eq_false_or_eq_true (T (M i)) with hT | hT <;> simp [Option.filter, hT, hI, e]
  · simp [e]
theorem dropI_keep (T : Ln → Bool) (M : Nat → Ln) (I : Nat → Bool) (k : Nat) (h : (I k && T (M k)) = false) : dropI T M I (k + 1) = dropI T M I k := by
  funext i
  unfold dropI
  by_cases e : i = k
  · subst e
    rw [if_pos (by omega), if_neg (by omega)]
    cases hi : I i
    · rfl
    · rw [hi] at h; simp at h; simp [h]
  · by_cases e2 : i < k
    · rw [if_pos (by omega), if_pos e2]
    · rw [if_neg (by omega), if_neg e2]
theorem dropI_drop (T : Ln → Bool) (M : Nat → Ln) (I : Nat → Bool) (k : Nat) (h : (I k && T (M k)) = true) : dropI T M I (k + 1) = fun i => if i = k then false else dropI T M I k i := by
  funext i
  unfold dropI
  by_cases e : i = k
  · subst e
    rw [if_pos (by omega), if_pos rfl]
    simp at h; simp [h.2]
  · rw [if_neg e]
    by_cases e2 : i < k
    · rw [if_pos (by omega), if_pos e2]
    · rw [if_neg (by omega), if_neg e2]
theorem dropN_L9 (T : Ln → Bool) (M : Nat → Ln) (I : Nat → Bool) (k : Nat) : dropN T (L9 M I) (k + 1) = dropN T (L9 M I) k + (if (I k && T (M k)) = true then 1 else 0) := by
  have : ((L9 M I k).any T) = (I k && T (M k)) := by
    unfold L9; cases I k <;> simp
  simp only [dropN, this]

theorem r09_flush (pr : Nat) (M : Nat → Ln) (I : Nat → Bool) (asid : Int) (w : World) (h : R9In w pr M I) :
    Calls Try.prog 20 #[.pointer (some ⟨pr, 0, none⟩), .int .i64 asid] w fun e w' => e = .returned (.int .i64 (dropN (fun l => l.a == asid) (L9 M I) 8)) ∧ R9In w' pr M (dropI (fun l => l.a == asid) M I 8) ∧ Touch (· = pr) w w' := by
  obtain ⟨T, hT⟩ : ∃ T : Ln → Bool, T = fun l => l.a == asid := ⟨_, rfl⟩
  rw [← hT]
  have HT := Lib.hid hT
  clear hT
  go_enter Try.func20, Try.ntmps20
  go_wp2_with (fail)
  go_loopw [5, 6] (fun n i wr => ∃ (k : Nat), k ≤ 8 ∧ i = .int .i64 k ∧ n = .int .i64 (dropN T (L9 M I) k) ∧ R9In wr pr M (dropI T M I k) ∧ Touch (· = pr) w wr) (fun _ i _ => 8 - (intOf i).toNat)
  case atStart => exact ⟨0, by omega, rfl, rfl, h, Touch.refl _ _⟩
  case round =>
    obtain ⟨k, hk, rfl, rfl, hin, ht⟩ := hrel
    by_cases hlt : k < 8
    · have g0 := hin.c0 k hlt
      have gi := hin.is_ k hlt
      have hfz := hin.free (32 + k) (by omega)
      have hnn := dropN_le T (L9 M I) k
      have hI : dropI T M I k k = I k := by unfold dropI; rw [if_neg (by omega)]
      rw [hI] at gi
      clear hI
      have hN := dropN_L9 T M I k
      have hk1 := dropI_keep T M I k
      have hk2 := dropI_drop T M I k
      have hTk : T (M k) = ((M k).a == asid) := by rw [HT.out]
      cases hx : I k
      · rw [hx] at gi hN hk1
        have HN := Lib.hid hN
        have HD := Lib.hid (hk1 rfl)
        clear hN hk1 hk2 hTk hx
        go_wp2_with (fail)
        go_roundw
        case rel => exact ⟨k + 1, by omega, by go_num, by rw [HN.out]; rfl, by rw [HD.out]; exact hin, ht⟩
        case measure => simp [intOf]; omega
      · rw [hx] at gi hN hk1 hk2
        cases hy : T (M k)
        · rw [hy] at hN hk1
          have HN := Lib.hid hN
          have HD := Lib.hid (hk1 rfl)
          have hyy := hTk.symm.trans hy
          clear hN hk1 hk2 hTk hx hy
          go_wp2_with (fail)
          go_roundw
          case rel => exact ⟨k + 1, by omega, by go_num, by rw [HN.out]; rfl, by rw [HD.out]; exact hin, ht⟩
          case measure => simp [intOf]; omega
        · rw [hy] at hN hk2
          have HN := Lib.hid hN
          have HD := Lib.hid (hk2 rfl)
          have hyy := hTk.symm.trans hy
          clear hN hk1 hk2 hTk hx hy
          go_wp2_with (fail)
          go_roundw
          case rel => exact ⟨k + 1, by omega, by go_num, by rw [HN.out]; go_num, by rw [HD.out]; exact hin.clear k hlt false, Touch.setCell (S := (· = pr)) ht (Or.inl rfl) _⟩
          case measure => simp [intOf]; omega
    · obtain rfl : k = 8 := by omega
      go_wp2_with (fail)
      go_ret
      exact ⟨rfl, hin, ht⟩

theorem r09_lines (pr : Nat) (M : Nat → Ln) (I : Nat → Bool) (w : World) (h : R9In w pr M I) :
    Calls Try.prog 27 #[.pointer (some ⟨pr, 0, none⟩)] w (LinesPost w w.heap.size (linesK (L9 M I) 8)) := by
  obtain ⟨i0, hi, hz0, hz1, hz2⟩ := info_parts infoLine
  obtain ⟨B, hB⟩ : ∃ B, B = w.heap.size := ⟨_, rfl⟩
  have HB := Lib.hid hB
  have hBB : B ≤ w.heap.size := by omega
  have bw : Below B w w := Below.refl _ _
  rw [← hB]
  clear hB
  go_enter Try.func27, Try.ntmps27
  go_wp2_with (fail)
  go_loopw [3, 4] (fun v i wr => ∃ (k : Nat) (d : List Ln), k ≤ 8 ∧ i = .int .i64 k ∧ Hid (d = linesK (L9 M I) k) ∧ d.length ≤ k ∧ wr.ownsRow B 41 4 v d.length (lnsCells d) ∧ Below B w wr) (fun _ i _ => 8 - (intOf i).toNat)
  case atStart => exact ⟨0, [], by omega, rfl, Lib.hid rfl, by simp, World.ownsRow_nil _ _ _ _, bw⟩
  case round =>
    obtain ⟨k, d, hk, rfl, HD, hdl, hown, hb⟩ := hrel
    have hBw : B ≤ wr.heap.size := Nat.le_trans hBB hb.size
    have hin : R9In wr pr M I := h.below (by rw [← HB.out]; exact hb)
    by_cases hlt : k < 8
    · have g0 := hin.c0 k hlt
      have g1 := hin.c1 k hlt
      have g2 := hin.c2 k hlt
      have g3 := hin.c3 k hlt
      have gi := hin.is_ k hlt
      cases hx : I k
      · rw [hx] at gi
        have hd : d = linesK (L9 M I) (k + 1) := by rw [linesK_succ, HD.out]; simp [L9, hx]
        have HD' := Lib.hid hd
        clear hx hd
        go_wp2_with (fail)
        go_roundw
        case rel => exact ⟨k + 1, d, by omega, by go_num, HD', by omega, hown, hb⟩
        case measure => simp [intOf]; omega
      · rw [hx] at gi
        have hd : d ++ [M k] = linesK (L9 M I) (k + 1) := by rw [linesK_succ, HD.out]; simp [L9, hx]
        have HD' := Lib.hid hd
        clear hx hd
        go_wp2_with (at_builtin; refine wpList_append_own _ rfl _ _ 61 rfl B 41 i0 (.agg #[.int .i64 0, .int .i64 0, .int .i64 0, .bool false]) 4 32 Try.underlying61 hi hz0 hz1 hz2 rfl (by decide) _ _ _ rfl (hown.alloc _) ⟨wr.heap.size, 0, none⟩ 1 1 (lnCells (M k)) rfl rfl (four_new _ _ _ _ _ _) (fun x hx => by simp [lnCells] at hx; rcases hx with rfl | rfl | rfl | rfl <;> rfl) (by unfold maxLen; omega) (by omega) (by simp; omega) ?_; intro v' w3 hown' hgrow3 hnil3)
        rw [← lnsCells_snoc] at hown'
        have hb3 : Below B w w3 := Below.grown (hb.alloc (by omega) _) hgrow3 (by simp; omega) (fun j hj => (hown.lt _ hj).1)
        clear hown
        go_wp2_with (fail)
        go_roundw
        case rel => exact ⟨k + 1, d ++ [M k], by omega, by go_num, HD', by simp; omega, by simpa using hown', hb3⟩
        case measure => simp [intOf]; omega
    · obtain rfl : k = 8 := by omega
      go_wp2_with (fail)
      go_ret
      exact ⟨_, rfl, by rw [← HD.out]; exact hown, hb⟩

end Go.Proofs.Yteehghjdifbjbaa
