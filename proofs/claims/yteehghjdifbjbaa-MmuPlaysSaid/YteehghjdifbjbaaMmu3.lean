/- What line of package mmu returns and writes where a page is looked for in the tables and found, by a walk over its text. -/
import Derived.Test.YteehghjdifbjbaaMmu2
namespace Go.Proofs.Yteehghjdifbjbaa
set_option linter.unusedSimpArgs false
set_option linter.unusedVariables false
set_option maxRecDepth 100000
open Go.RowKit
set_option maxHeartbeats 4000000

theorem mmu_line_new (pu pm pb : Nat) (root asid : Int) (bk n : Nat) (W : Nat → Int) (lb : Nat → Nat) (L : Nat → Option Ln) (page at_ : Int) (k : Nat) (l : Ln) (w : World) (hu : UnitIn w pu pm pb root asid) (hm : MemIn w pm bk n W) (ht : TlbIn w pb lb L)
    (hl : tFind L asid page = none) (he : (walkM W n root page).e = 0) (hh : hasB n (walkM W n root page).fr = true) (hll : l = ⟨asid, page, (walkM W n root page).fr, (walkM W n root page).wr⟩)
    (hr : rightL l = true) (h0 : 0 ≤ at_) (h1 : at_ < 8) (hk : k < 8) (hp : tPlace L l at_ = k) (hpu : pu ≠ pb) :
    Calls Try.prog 58 #[.pointer (some ⟨pu, 0, none⟩), .int .i64 page, .int .i64 at_] w fun e w' => e = .returned (lnV (some l)) ∧ (∃ nb, w.heap.size ≤ nb ∧ nb < w'.heap.size ∧ TlbIn w' pb (fun i => if i = k then nb else lb i) (fun i => if i = k then some l else L i)) ∧ Touch (· = pb) w w' := by
  have c0 := hu.c0
  have c1 := hu.c1
  have c2 := hu.c2
  have c3 := hu.c3
  have hlt := hu.lt
  have hpl := ht.lt
  have hne : ¬ pu = w.heap.size := by omega
  have ht1 := ht.below (w' := w.alloc (.cells #[.int .i64 0, .int .i64 0, .int .i64 0, .bool false] 41)) (by repeat (first | with_reducible exact Below.refl _ _ | with_reducible assumption | with_reducible refine below_drewN ?_ _ | with_reducible refine Below.alloc ?_ (by simp <;> omega) _))
  obtain ⟨R, hRR⟩ : ∃ R, walkM W n root page = R := ⟨_, rfl⟩
  rw [hRR] at he hh hll
  have hlv : lnV (some l) = .agg #[.int .i64 asid, .int .i64 page, .int .i64 R.fr, .bool R.wr] := by rw [hll]; rfl
  have hF : ∀ w4, TlbIn w4 pb lb L → Calls Try.prog 21 #[.pointer (some ⟨pb, 0, none⟩), .agg #[.int .i64 asid, .int .i64 page, .int .i64 R.fr, .bool R.wr], .int .i64 at_] w4 fun e w' => e = .returned (.int .i64 0) ∧ TlbIn w' pb (fun i => if i = k then w4.heap.size else lb i) (fun i => if i = k then some l else L i) ∧ w4.heap.size < w'.heap.size ∧ Touch (· = pb) w4 w' := fun w4 h4 => by
    rw [← hlv]; exact tlb_put_go pb lb L l at_ k w4 h4 hr h0 h1 hk hp
  rw [hlv]
  clear hlv hll
  have HE := Lib.hid he
  have HF := Lib.hid hF
  clear hF hp hr
  go_enter Try.func58, Try.ntmps58
  go_wp2_with (fail)
  refine (tlb_find pb lb L asid page _ ht1).mono ?_
  rintro e w1 ⟨rfl, hb⟩
  rw [hl]
  unfold lnV
  have kb : Below w.heap.size w w1 := (Below.alloc (Below.refl _ _) (Nat.le_refl _) _).trans (hb.mono (by simp))
  have hz : w.heap.size < w1.heap.size := by have := hb.size; simp at this; omega
  have hu1 := hu.below kb
  have hm1 := hm.below kb
  have z0 : w1.cell? ⟨w.heap.size, 0, none⟩ = some (.int .i64 0) := keep hb (by simp) (by simp [go_sem])
  have z1 : w1.cell? ⟨w.heap.size, 1, none⟩ = some (.int .i64 0) := keep hb (by simp) (by simp [go_sem])
  have z2 : w1.cell? ⟨w.heap.size, 2, none⟩ = some (.int .i64 0) := keep hb (by simp) (by simp [go_sem])
  have z3 : w1.cell? ⟨w.heap.size, 3, none⟩ = some (.bool false) := keep hb (by simp) (by simp [go_sem])
  have y0 : w1.frozen? ⟨w.heap.size, 0, none⟩ = false := keepF hb (by simp) (by simp [go_sem])
  have y1 : w1.frozen? ⟨w.heap.size, 1, none⟩ = false := keepF hb (by simp) (by simp [go_sem])
  have y2 : w1.frozen? ⟨w.heap.size, 2, none⟩ = false := keepF hb (by simp) (by simp [go_sem])
  have y3 : w1.frozen? ⟨w.heap.size, 3, none⟩ = false := keepF hb (by simp) (by simp [go_sem])
  have hne1 : ¬ w.heap.size = w1.heap.size := by omega
  have hne2 : ¬ pu = w1.heap.size := by have := hu1.lt; omega
  obtain ⟨w2, hw2⟩ : ∃ w2, w2 = w1.alloc (.cells #[.int .i64 0, .int .i64 0, .int .i64 0, .bool false] 41) := ⟨_, rfl⟩
  have kb2 : Below w.heap.size w w2 := by rw [hw2]; repeat (first | with_reducible exact Below.refl _ _ | with_reducible assumption | with_reducible refine below_drewN ?_ _ | with_reducible refine Below.drew ?_ | with_reducible refine Below.setCell ?_ (by first | omega | (simp <;> omega)) _ | with_reducible refine Below.alloc ?_ (by first | omega | (simp <;> omega)) _)
  have kbb2 : Below w1.heap.size w1 w2 := by rw [hw2]; repeat (first | with_reducible exact Below.refl _ _ | with_reducible assumption | with_reducible refine below_drewN ?_ _ | with_reducible refine Below.drew ?_ | with_reducible refine Below.setCell ?_ (by first | omega | (simp <;> omega)) _ | with_reducible refine Below.alloc ?_ (by first | omega | (simp <;> omega)) _)
  have zz : w1.heap.size < w2.heap.size := by rw [hw2]; simp
  have hu2 := hu.below kb2
  have hm2 := hm.below kb2
  have d0 := hu2.c0
  have d2 := hu2.c2
  have hlt2 := hu2.lt
  have hne3 : ¬ pu = w2.heap.size := by omega
  have hS : ∀ w', Below w2.heap.size w2 w' → w'.cell? ⟨pu, 0, none⟩ = some (.pointer (some ⟨pm, 0, none⟩)) ∧ w'.cell? ⟨pu, 2, none⟩ = some (.int .i64 root) := fun w' h => ⟨keep h hlt2 d0, keep h hlt2 d2⟩
  go_wp2_with (fail)
  rw [← hw2]
  clear hw2
  go_region_held3 (fun w' => w'.cell? ⟨pu, 0, none⟩ = some (.pointer (some ⟨pm, 0, none⟩)) ∧ w'.cell? ⟨pu, 2, none⟩ = some (.int .i64 root)) (exact hS _ (by repeat (first | with_reducible exact Below.refl _ _ | with_reducible assumption | with_reducible refine below_drewN ?_ _ | with_reducible refine Below.drew ?_ | with_reducible refine Below.setCell ?_ (by first | omega | (simp <;> omega)) _ | with_reducible refine Below.alloc ?_ (by first | omega | (simp <;> omega)) _)))
    ((go_at_call 66
      refine (walk_any pm bk n W root page _ (hm2.below (by repeat (first | with_reducible exact Below.refl _ _ | with_reducible assumption | with_reducible refine below_drewN ?_ _ | with_reducible refine Below.drew ?_ | with_reducible refine Below.setCell ?_ (by first | omega | (simp <;> omega)) _ | with_reducible refine Below.alloc ?_ (by first | omega | (simp <;> omega)) _))) R hRR).mono ?_
      rintro e w3 ⟨v, rfl, hown3, hb3'⟩
      first
        | (have hE := ret_ent rfl (below_un hb3'); obtain ⟨⟨e0, e1, e2, e3⟩, ⟨g0, g1, g2, g3⟩, hz3, hb3⟩ := hE; have hs3 := hb3.size)
        | (have hb3 : Below w2.heap.size w2 w3 := below_un hb3'; have hs3 := hb3.size)))
  all_goals
    have kb13 : Below w1.heap.size w1 w3 := kbb2.trans (hb3.mono kbb2.size)
    have kb3 : Below w.heap.size w w3 := kb2.trans (hb3.mono kb2.size)
    have x0 := keep kb13 hz z0
    have x1 := keep kb13 hz z1
    have x2 := keep kb13 hz z2
    have x3 := keep kb13 hz z3
    have x4 := keepF kb13 hz y0
    have x5 := keepF kb13 hz y1
    have x6 := keepF kb13 hz y2
    have x7 := keepF kb13 hz y3
    have xz : w.heap.size < w3.heap.size := by omega
    clear z0 z1 z2 z3 y0 y1 y2 y3 hS
  · obtain ⟨be, hbe⟩ : ∃ be, be = w3.heap.size := ⟨_, rfl⟩
    rw [← hbe]
    obtain ⟨w4, hw4⟩ : ∃ w4, w4 = w3.alloc (.cells #[.bool R.v, .bool R.wr, .bool R.tb, .int .i64 R.fr] 34) := ⟨_, rfl⟩
    rw [← hw4]
    have hb34 : Below w3.heap.size w3 w4 := by rw [hw4]; repeat (first | with_reducible exact Below.refl _ _ | with_reducible assumption | with_reducible refine below_drewN ?_ _ | with_reducible refine Below.drew ?_ | with_reducible refine Below.setCell ?_ (by first | omega | (simp <;> omega)) _ | with_reducible refine Below.alloc ?_ (by first | omega | (simp <;> omega)) _)
    have b0 : w4.cell? ⟨be, 0, none⟩ = some (.bool R.v) := by rw [hw4, hbe]; simp [go_sem]
    have b1 : w4.cell? ⟨be, 1, none⟩ = some (.bool R.wr) := by rw [hw4, hbe]; simp [go_sem]
    have b2 : w4.cell? ⟨be, 2, none⟩ = some (.bool R.tb) := by rw [hw4, hbe]; simp [go_sem]
    have b3 : w4.cell? ⟨be, 3, none⟩ = some (.int .i64 R.fr) := by rw [hw4, hbe]; simp [go_sem]
    have x0 := keep hb34 xz x0
    have x1 := keep hb34 xz x1
    have x2 := keep hb34 xz x2
    have x3 := keep hb34 xz x3
    have x4 := keepF hb34 xz x4
    have x5 := keepF hb34 xz x5
    have x6 := keepF hb34 xz x6
    have x7 := keepF hb34 xz x7
    have hbw : w.heap.size < be := by omega
    have hb4 : be < w4.heap.size := by rw [hw4, hbe]; simp
    have kb4 : Below w.heap.size w w4 := kb3.trans (hb34.mono kb3.size)
    clear hw4 hbe
    have hu4 := hu.below kb4
    have hm4 := hm.below kb4
    have ht4 := ht.below kb4
    have u0 := hu4.c0
    have u1 := hu4.c1
    have u3 := hu4.c3
    have ul := hu4.lt
    have xz4 : w.heap.size < w4.heap.size := by omega
    have n1 : ¬ pu = w4.heap.size := by omega
    have n2 : ¬ be = w4.heap.size := by omega
    have n3 : ¬ w.heap.size = w4.heap.size := by omega
    go_wp2_with (go_at_call 49; refine (mmu_has pu pm pb root asid bk n W _ _ hu4 hm4).mono ?_; rintro e w' ⟨rfl, rfl⟩; rw [hh])
    go_region_held3 (fun w' => w'.cell? ⟨pu, 3, none⟩ = some (.int .i64 asid) ∧ w'.cell? ⟨be, 3, none⟩ = some (.int .i64 R.fr) ∧ w'.cell? ⟨be, 1, none⟩ = some (.bool R.wr)) (go_keep) (fail)
    obtain ⟨w5, hw5⟩ : ∃ w5, w5 = (w4.alloc (.cells #[.int .i64 asid, .int .i64 page, .int .i64 R.fr, .bool R.wr] 41)) := ⟨_, rfl⟩
    have hb45 : Below w4.heap.size w4 w5 := by rw [hw5]; repeat (first | with_reducible exact Below.refl _ _ | with_reducible assumption | with_reducible refine below_drewN ?_ _ | with_reducible refine Below.drew ?_ | with_reducible refine Below.setCell ?_ (by first | omega | (simp <;> omega)) _ | with_reducible refine Below.alloc ?_ (by first | omega | (simp <;> omega)) _)
    have l0 : w5.cell? ⟨w4.heap.size, 0, none⟩ = some (.int .i64 asid) := by rw [hw5]; simp [go_sem]
    have l1 : w5.cell? ⟨w4.heap.size, 1, none⟩ = some (.int .i64 page) := by rw [hw5]; simp [go_sem]
    have l2 : w5.cell? ⟨w4.heap.size, 2, none⟩ = some (.int .i64 R.fr) := by rw [hw5]; simp [go_sem]
    have l3 : w5.cell? ⟨w4.heap.size, 3, none⟩ = some (.bool R.wr) := by rw [hw5]; simp [go_sem]
    have s45 : w4.heap.size < w5.heap.size := by rw [hw5]; simp
    go_wp2_with (fail)
    rw [← hw5]
    clear hw5
    have ht5 := ht4.below hb45
    have v1 := keep hb45 ul u1
    have x0 := keep hb45 xz4 x0
    have x1 := keep hb45 xz4 x1
    have x2 := keep hb45 xz4 x2
    have x3 := keep hb45 xz4 x3
    have x4 := keepF hb45 xz4 x4
    have x5 := keepF hb45 xz4 x5
    have x6 := keepF hb45 xz4 x6
    have x7 := keepF hb45 xz4 x7
    have kb5 : Below w.heap.size w w5 := kb4.trans (hb45.mono kb4.size)
    have hs5 := kb5.size
    have np1 : ¬ w4.heap.size = pb := by omega
    have np2 : ¬ w.heap.size = pb := by omega
    go_region_held3 (fun w' => w'.cell? ⟨pu, 1, none⟩ = some (.pointer (some ⟨pb, 0, none⟩)) ∧ w'.cell? ⟨w4.heap.size, 0, none⟩ = some (.int .i64 asid) ∧ w'.cell? ⟨w4.heap.size, 1, none⟩ = some (.int .i64 page) ∧ w'.cell? ⟨w4.heap.size, 2, none⟩ = some (.int .i64 R.fr) ∧ w'.cell? ⟨w4.heap.size, 3, none⟩ = some (.bool R.wr)) (first | go_keep | exact ⟨by assumption, by assumption, by assumption, by assumption, by assumption⟩)
      ((go_at_call 21
        refine (HF.out _ (ht5.below (by repeat (first | with_reducible exact Below.refl _ _ | with_reducible assumption | with_reducible refine below_drewN ?_ _ | with_reducible refine Below.drew ?_ | with_reducible refine Below.setCell ?_ (by first | omega | (simp <;> omega)) _ | with_reducible refine Below.alloc ?_ (by first | omega | (simp <;> omega)) _)))).mono ?_
        rintro e w6 ⟨rfl, htl6, hs6, htt6⟩
        have ht6 : Touch (· = pb) w5 w6 := ⟨htt6.os, htt6.tape, htt6.output, htt6.size, htt6.block⟩
        have v1 := keepT ht6 (Nat.lt_of_lt_of_le hlt hs5) hpu v1
        have l0 := keepT ht6 s45 np1 l0
        have l1 := keepT ht6 s45 np1 l1
        have l2 := keepT ht6 s45 np1 l2
        have l3 := keepT ht6 s45 np1 l3))
    have xw5 : w.heap.size < w5.heap.size := by omega
    have hz56 := ht6.size
    have xw6 : w.heap.size < w6.heap.size := by omega
    have x0 := keepT ht6 xw5 np2 x0
    have x1 := keepT ht6 xw5 np2 x1
    have x2 := keepT ht6 xw5 np2 x2
    have x3 := keepT ht6 xw5 np2 x3
    have x4 : w6.frozen? ⟨w.heap.size, 0, none⟩ = false := (frozen_of_heap (ht6.block _ xw5 np2) 0).trans x4
    have x5 : w6.frozen? ⟨w.heap.size, 1, none⟩ = false := (frozen_of_heap (ht6.block _ xw5 np2) 1).trans x5
    have x6 : w6.frozen? ⟨w.heap.size, 2, none⟩ = false := (frozen_of_heap (ht6.block _ xw5 np2) 2).trans x6
    have x7 : w6.frozen? ⟨w.heap.size, 3, none⟩ = false := (frozen_of_heap (ht6.block _ xw5 np2) 3).trans x7
    have t6 : Touch (· = pb) w w6 := (Touch.of_below kb5).trans ht6
    go_wp2_with (fail)
    refine bodyPost_ret (v := .agg #[.int .i64 asid, .int .i64 page, .int .i64 R.fr, .bool R.wr]) (by simp [results, Try.results58, go_sem, x0, x1, x2, x3, xw6]) rfl ⟨rfl, ⟨w5.heap.size, hs5, ?_, ?_⟩, ?_⟩
    · simpa using hs6
    · have hT : Touch (· = w.heap.size) w6 ((((w6.setCell ⟨w.heap.size, 0, none⟩ (.int .i64 asid)).setCell ⟨w.heap.size, 1, none⟩ (.int .i64 page)).setCell ⟨w.heap.size, 2, none⟩ (.int .i64 R.fr)).setCell ⟨w.heap.size, 3, none⟩ (.bool R.wr)) := by
        repeat (first | with_reducible exact Touch.refl _ _ | refine Touch.setCell (S := (· = w.heap.size)) ?_ (Or.inl rfl) _)
      refine htl6.touch hT (fun h => np2 h.symm) (fun i m hi hm' => ?_)
      have hpl' := (ht.some_ i · hi)
      by_cases e : i = k
      · rw [if_pos e]; intro h; have h' : w5.heap.size = w.heap.size := h; omega
      · rw [if_neg e] at hm' ⊢
        have := (hpl' m hm').2.1
        intro h; omega
    · repeat (first | with_reducible exact t6 | with_reducible refine Touch.setCell ?_ (Or.inr (by simp)) _)
  · obtain ⟨be, hbe⟩ : ∃ be, be = w2.heap.size := ⟨_, rfl⟩
    rw [← hbe] at e0 e1 e2 e3 g0 g1 g2 g3 ⊢
    obtain ⟨w4, hw4⟩ : ∃ w4, w4 = (((w3.setCell ⟨be, 0, none⟩ (.bool R.v)).setCell ⟨be, 1, none⟩ (.bool R.wr)).setCell ⟨be, 2, none⟩ (.bool R.tb)).setCell ⟨be, 3, none⟩ (.int .i64 R.fr) := ⟨_, rfl⟩
    rw [← hw4]
    have hbw : w.heap.size < be := by omega
    have b0 : w4.cell? ⟨be, 0, none⟩ = some (.bool R.v) := by rw [hw4]; simp [go_sem, e0]
    have b1 : w4.cell? ⟨be, 1, none⟩ = some (.bool R.wr) := by rw [hw4]; simp [go_sem, e1]
    have b2 : w4.cell? ⟨be, 2, none⟩ = some (.bool R.tb) := by rw [hw4]; simp [go_sem, e2]
    have b3 : w4.cell? ⟨be, 3, none⟩ = some (.int .i64 R.fr) := by rw [hw4]; simp [go_sem, e3]
    have hb34 : Below be w3 w4 := by rw [hw4]; repeat (first | with_reducible exact Below.refl _ _ | with_reducible assumption | with_reducible refine below_drewN ?_ _ | with_reducible refine Below.drew ?_ | with_reducible refine Below.setCell ?_ (by first | omega | (simp <;> omega)) _ | with_reducible refine Below.alloc ?_ (by first | omega | (simp <;> omega)) _)
    have x0 := keep hb34 hbw x0
    have x1 := keep hb34 hbw x1
    have x2 := keep hb34 hbw x2
    have x3 := keep hb34 hbw x3
    have x4 := keepF hb34 hbw x4
    have x5 := keepF hb34 hbw x5
    have x6 := keepF hb34 hbw x6
    have x7 := keepF hb34 hbw x7
    have hb4 : be < w4.heap.size := by have := hb34.size; omega
    have kb4 : Below w.heap.size w w4 := kb3.trans (hb34.mono (by omega))
    clear hw4 hbe e0 e1 e2 e3 g0 g1 g2 g3
    have hu4 := hu.below kb4
    have hm4 := hm.below kb4
    have ht4 := ht.below kb4
    have u0 := hu4.c0
    have u1 := hu4.c1
    have u3 := hu4.c3
    have ul := hu4.lt
    have xz4 : w.heap.size < w4.heap.size := by omega
    have n1 : ¬ pu = w4.heap.size := by omega
    have n2 : ¬ be = w4.heap.size := by omega
    have n3 : ¬ w.heap.size = w4.heap.size := by omega
    go_wp2_with (go_at_call 49; refine (mmu_has pu pm pb root asid bk n W _ _ hu4 hm4).mono ?_; rintro e w' ⟨rfl, rfl⟩; rw [hh])
    go_region_held3 (fun w' => w'.cell? ⟨pu, 3, none⟩ = some (.int .i64 asid) ∧ w'.cell? ⟨be, 3, none⟩ = some (.int .i64 R.fr) ∧ w'.cell? ⟨be, 1, none⟩ = some (.bool R.wr)) (go_keep) (fail)
    obtain ⟨w5, hw5⟩ : ∃ w5, w5 = (w4.alloc (.cells #[.int .i64 asid, .int .i64 page, .int .i64 R.fr, .bool R.wr] 41)) := ⟨_, rfl⟩
    have hb45 : Below w4.heap.size w4 w5 := by rw [hw5]; repeat (first | with_reducible exact Below.refl _ _ | with_reducible assumption | with_reducible refine below_drewN ?_ _ | with_reducible refine Below.drew ?_ | with_reducible refine Below.setCell ?_ (by first | omega | (simp <;> omega)) _ | with_reducible refine Below.alloc ?_ (by first | omega | (simp <;> omega)) _)
    have l0 : w5.cell? ⟨w4.heap.size, 0, none⟩ = some (.int .i64 asid) := by rw [hw5]; simp [go_sem]
    have l1 : w5.cell? ⟨w4.heap.size, 1, none⟩ = some (.int .i64 page) := by rw [hw5]; simp [go_sem]
    have l2 : w5.cell? ⟨w4.heap.size, 2, none⟩ = some (.int .i64 R.fr) := by rw [hw5]; simp [go_sem]
    have l3 : w5.cell? ⟨w4.heap.size, 3, none⟩ = some (.bool R.wr) := by rw [hw5]; simp [go_sem]
    have s45 : w4.heap.size < w5.heap.size := by rw [hw5]; simp
    go_wp2_with (fail)
    rw [← hw5]
    clear hw5
    have ht5 := ht4.below hb45
    have v1 := keep hb45 ul u1
    have x0 := keep hb45 xz4 x0
    have x1 := keep hb45 xz4 x1
    have x2 := keep hb45 xz4 x2
    have x3 := keep hb45 xz4 x3
    have x4 := keepF hb45 xz4 x4
    have x5 := keepF hb45 xz4 x5
    have x6 := keepF hb45 xz4 x6
    have x7 := keepF hb45 xz4 x7
    have kb5 : Below w.heap.size w w5 := kb4.trans (hb45.mono kb4.size)
    have hs5 := kb5.size
    have np1 : ¬ w4.heap.size = pb := by omega
    have np2 : ¬ w.heap.size = pb := by omega
    go_region_held3 (fun w' => w'.cell? ⟨pu, 1, none⟩ = some (.pointer (some ⟨pb, 0, none⟩)) ∧ w'.cell? ⟨w4.heap.size, 0, none⟩ = some (.int .i64 asid) ∧ w'.cell? ⟨w4.heap.size, 1, none⟩ = some (.int .i64 page) ∧ w'.cell? ⟨w4.heap.size, 2, none⟩ = some (.int .i64 R.fr) ∧ w'.cell? ⟨w4.heap.size, 3, none⟩ = some (.bool R.wr)) (first | go_keep | exact ⟨by assumption, by assumption, by assumption, by assumption, by assumption⟩)
      ((go_at_call 21
        refine (HF.out _ (ht5.below (by repeat (first | with_reducible exact Below.refl _ _ | with_reducible assumption | with_reducible refine below_drewN ?_ _ | with_reducible refine Below.drew ?_ | with_reducible refine Below.setCell ?_ (by first | omega | (simp <;> omega)) _ | with_reducible refine Below.alloc ?_ (by first | omega | (simp <;> omega)) _)))).mono ?_
        rintro e w6 ⟨rfl, htl6, hs6, htt6⟩
        have ht6 : Touch (· = pb) w5 w6 := ⟨htt6.os, htt6.tape, htt6.output, htt6.size, htt6.block⟩
        have v1 := keepT ht6 (Nat.lt_of_lt_of_le hlt hs5) hpu v1
        have l0 := keepT ht6 s45 np1 l0
        have l1 := keepT ht6 s45 np1 l1
        have l2 := keepT ht6 s45 np1 l2
        have l3 := keepT ht6 s45 np1 l3))
    have xw5 : w.heap.size < w5.heap.size := by omega
    have hz56 := ht6.size
    have xw6 : w.heap.size < w6.heap.size := by omega
    have x0 := keepT ht6 xw5 np2 x0
    have x1 := keepT ht6 xw5 np2 x1
    have x2 := keepT ht6 xw5 np2 x2
    have x3 := keepT ht6 xw5 np2 x3
    have x4 : w6.frozen? ⟨w.heap.size, 0, none⟩ = false := (frozen_of_heap (ht6.block _ xw5 np2) 0).trans x4
    have x5 : w6.frozen? ⟨w.heap.size, 1, none⟩ = false := (frozen_of_heap (ht6.block _ xw5 np2) 1).trans x5
    have x6 : w6.frozen? ⟨w.heap.size, 2, none⟩ = false := (frozen_of_heap (ht6.block _ xw5 np2) 2).trans x6
    have x7 : w6.frozen? ⟨w.heap.size, 3, none⟩ = false := (frozen_of_heap (ht6.block _ xw5 np2) 3).trans x7
    have t6 : Touch (· = pb) w w6 := (Touch.of_below kb5).trans ht6
    go_wp2_with (fail)
    refine bodyPost_ret (v := .agg #[.int .i64 asid, .int .i64 page, .int .i64 R.fr, .bool R.wr]) (by simp [results, Try.results58, go_sem, x0, x1, x2, x3, xw6]) rfl ⟨rfl, ⟨w5.heap.size, hs5, ?_, ?_⟩, ?_⟩
    · simpa using hs6
    · have hT : Touch (· = w.heap.size) w6 ((((w6.setCell ⟨w.heap.size, 0, none⟩ (.int .i64 asid)).setCell ⟨w.heap.size, 1, none⟩ (.int .i64 page)).setCell ⟨w.heap.size, 2, none⟩ (.int .i64 R.fr)).setCell ⟨w.heap.size, 3, none⟩ (.bool R.wr)) := by
        repeat (first | with_reducible exact Touch.refl _ _ | refine Touch.setCell (S := (· = w.heap.size)) ?_ (Or.inl rfl) _)
      refine htl6.touch hT (fun h => np2 h.symm) (fun i m hi hm' => ?_)
      have hpl' := (ht.some_ i · hi)
      by_cases e : i = k
      · rw [if_pos e]; intro h; have h' : w5.heap.size = w.heap.size := h; omega
      · rw [if_neg e] at hm' ⊢
        have := (hpl' m hm').2.1
        intro h; omega
    · repeat (first | with_reducible exact t6 | with_reducible refine Touch.setCell ?_ (Or.inr (by simp)) _)

end Go.Proofs.Yteehghjdifbjbaa
