/- What the functions of package mmu return and write, by walks over their text. -/
import Derived.Test.YteehghjdifbjbaaTlb2
import Derived.Test.YteehghjdifbjbaaWalk2
namespace Go.Proofs.Yteehghjdifbjbaa
set_option linter.unusedSimpArgs false
set_option linter.unusedVariables false
set_option maxRecDepth 100000
open Go.RowKit
set_option maxHeartbeats 4000000

/-- A unit at pu: of a memory, of a buffer; a root, a number. -/
structure UnitIn (w : World) (pu pm pb : Nat) (root asid : Int) : Prop where
  c0 : w.cell? ⟨pu, 0, none⟩ = some (.pointer (some ⟨pm, 0, none⟩))
  c1 : w.cell? ⟨pu, 1, none⟩ = some (.pointer (some ⟨pb, 0, none⟩))
  c2 : w.cell? ⟨pu, 2, none⟩ = some (.int .i64 root)
  c3 : w.cell? ⟨pu, 3, none⟩ = some (.int .i64 asid)
  f2 : w.frozen? ⟨pu, 2, none⟩ = false
  f3 : w.frozen? ⟨pu, 3, none⟩ = false
  lt : pu < w.heap.size
theorem heap_size {w w' : World} {k : Nat} (e : w'.heap[k]? = w.heap[k]?) (h : k < w.heap.size) : k < w'.heap.size := by
  rcases Nat.lt_or_ge k w'.heap.size with h' | h'
  · exact h'
  · rw [Array.getElem?_eq_none h', Array.getElem?_eq_getElem h] at e; cases e
theorem UnitIn.heap {w w' : World} {pu pm pb : Nat} {root asid : Int} (h : UnitIn w pu pm pb root asid) (e : w'.heap[pu]? = w.heap[pu]?) : UnitIn w' pu pm pb root asid :=
  ⟨(cell_of_heap e _).trans h.c0, (cell_of_heap e _).trans h.c1, (cell_of_heap e _).trans h.c2, (cell_of_heap e _).trans h.c3, (frozen_of_heap e _).trans h.f2, (frozen_of_heap e _).trans h.f3, heap_size e h.lt⟩
theorem UnitIn.below {w w' : World} {pu pm pb : Nat} {root asid : Int} (h : UnitIn w pu pm pb root asid) (t : Below w.heap.size w w') : UnitIn w' pu pm pb root asid := h.heap (t.block pu h.lt)

def hasB (n : Nat) (f : Int) : Bool := decide (0 ≤ f) && decide (f < n)
theorem hasB_yes {n : Nat} {f : Int} (h : hasB n f = true) : 0 ≤ f ∧ f < n := by simpa [hasB] using h
theorem hasB_no {n : Nat} {f : Int} (h : hasB n f = false) : ¬ (0 ≤ f ∧ f < n) := by simp [hasB] at h; omega

theorem mmu_has (pu pm pb : Nat) (root asid : Int) (bk n : Nat) (W : Nat → Int) (f : Int) (w : World) (hu : UnitIn w pu pm pb root asid) (hm : MemIn w pm bk n W) :
    Calls Try.prog 49 #[.pointer (some ⟨pu, 0, none⟩), .int .i64 f] w fun e w' => e = .returned (.bool (hasB n f)) ∧ w = w' := by
  have c0 := hu.c0
  by_cases h : 0 ≤ f
  · have hd : decide (0 ≤ f) = true := by simpa using h
    have hB : hasB n f = decide (f < (n : Int)) := by unfold hasB; rw [hd]; rfl
    have HB := Lib.hid hB
    clear hB hd
    go_enter Try.func49, Try.ntmps49
    go_wp2_with (go_at_call 62; refine (frames_any pm bk n W _ hm).mono ?_; rintro e w' ⟨rfl, rfl⟩)
    go_ret
    exact ⟨by rw [HB.out]; simp, rfl⟩
  · have hd : decide (0 ≤ f) = false := by simpa using h
    have hB : hasB n f = false := by unfold hasB; rw [hd]; rfl
    have HB := Lib.hid hB
    clear hB
    go_enter Try.func49, Try.ntmps49
    go_wp2_with (go_at_call 62; refine (frames_any pm bk n W _ hm).mono ?_; rintro e w' ⟨rfl, rfl⟩)
    go_ret
    exact ⟨by rw [HB.out]; simp [*], rfl⟩

theorem UnitIn.use {w : World} {pu pm pb : Nat} {root asid : Int} (h : UnitIn w pu pm pb root asid) (r a : Int) :
    UnitIn ((w.setCell ⟨pu, 2, none⟩ (.int .i64 r)).setCell ⟨pu, 3, none⟩ (.int .i64 a)) pu pm pb r a := by
  have c0 := h.c0; have c1 := h.c1; have c2 := h.c2; have c3 := h.c3; have f2 := h.f2; have f3 := h.f3; have lt := h.lt
  exact ⟨by simp [go_sem, c0], by simp [go_sem, c1], by simp [go_sem, c2], by simp [go_sem, c3], by simp [go_sem, f2], by simp [go_sem, f3], by simpa using lt⟩

def useB (n : Nat) (r a : Int) : Bool := hasB n r && decide (1 ≤ a) && decide (a ≤ 8)
theorem mmu_use_yes (pu pm pb : Nat) (root asid : Int) (bk n : Nat) (W : Nat → Int) (r a : Int) (w : World) (hu : UnitIn w pu pm pb root asid) (hm : MemIn w pm bk n W) (h : useB n r a = true) :
    Calls Try.prog 18 #[.pointer (some ⟨pu, 0, none⟩), .int .i64 r, .int .i64 a] w fun e w' => e = .returned (.int .i64 0) ∧ UnitIn w' pu pm pb r a ∧ Touch (· = pu) w w' := by
  obtain ⟨⟨h1, h2⟩, h3⟩ : (hasB n r = true ∧ 1 ≤ a) ∧ a ≤ 8 := by simpa [useB] using h
  clear h
  have hfin := hu.use r a
  have htt : Touch (· = pu) w ((w.setCell ⟨pu, 2, none⟩ (.int .i64 r)).setCell ⟨pu, 3, none⟩ (.int .i64 a)) := by
    repeat (first | exact Touch.refl _ _ | refine Touch.setCell (S := (· = pu)) ?_ (Or.inl rfl) _)
  have c2 := hu.c2; have c3 := hu.c3; have f2 := hu.f2; have f3 := hu.f3
  have HF := Lib.hid (And.intro hfin htt)
  clear hfin htt
  have H1 := Lib.hid h1
  clear h1
  go_enter Try.func18, Try.ntmps18
  go_wp2_with (go_at_call 49; refine (mmu_has pu pm pb root asid bk n W _ _ hu hm).mono ?_; rintro e w' ⟨rfl, rfl⟩; rw [H1.out])
  go_ret
  exact ⟨rfl, HF.out⟩
theorem mmu_use_no (pu pm pb : Nat) (root asid : Int) (bk n : Nat) (W : Nat → Int) (r a : Int) (w : World) (hu : UnitIn w pu pm pb root asid) (hm : MemIn w pm bk n W) (h : useB n r a = false) :
    Calls Try.prog 18 #[.pointer (some ⟨pu, 0, none⟩), .int .i64 r, .int .i64 a] w fun e w' => e = .returned (.int .i64 1) ∧ w = w' := by
  have hh : hasB n r = false ∨ (hasB n r = true ∧ a < 1) ∨ (hasB n r = true ∧ ¬ a < 1 ∧ 8 < a) := by
    unfold useB at h
    cases h1 : hasB n r
    · exact Or.inl rfl
    · rw [h1] at h; simp at h
      by_cases q : a < 1
      · exact Or.inr (Or.inl ⟨rfl, q⟩)
      · exact Or.inr (Or.inr ⟨rfl, q, by omega⟩)
  clear h
  rcases hh with h1 | ⟨h1, h2⟩ | ⟨h1, h2, h3⟩
  all_goals
    have H1 := Lib.hid h1
    clear h1
    go_enter Try.func18, Try.ntmps18
    go_wp2_with (go_at_call 49; refine (mmu_has pu pm pb root asid bk n W _ _ hu hm).mono ?_; rintro e w' ⟨rfl, rfl⟩; rw [H1.out])
    go_ret
    exact ⟨rfl, rfl⟩

/-- The buffer with a line put. -/
def tPutL (L : Nat → Option Ln) (l : Ln) (at_ : Int) : Nat → Option Ln := fun i => if (i : Int) = tPlace L l at_ then some l else L i
theorem tPlace_bd (L : Nat → Option Ln) (l : Ln) (at_ : Int) (h0 : 0 ≤ at_) (h1 : at_ < 8) : ∃ k : Nat, k < 8 ∧ tPlace L l at_ = k := by
  unfold tPlace
  split
  · rcases firstI_spec (fun i => isB l.a l.p (L i)) with ⟨e1, _⟩ | ⟨j, hj, e1, _, _⟩
    · have : tAt L l.a l.p = -1 := e1
      omega
    · exact ⟨j, hj, e1⟩
  · split
    · rcases firstI_spec (fun i => (L i).isNone) with ⟨e1, _⟩ | ⟨j, hj, e1, _, _⟩
      · have : tFree L = -1 := e1
        omega
      · exact ⟨j, hj, e1⟩
    · exact ⟨at_.toNat, by omega, by omega⟩
theorem tPutL_eq (L : Nat → Option Ln) (l : Ln) (at_ : Int) (k : Nat) (h : tPlace L l at_ = k) : tPutL L l at_ = fun i => if i = k then some l else L i := by
  funext i; unfold tPutL; rw [h]
  by_cases e : i = k
  · rw [if_pos e, if_pos (by omega)]
  · rw [if_neg e, if_neg (by omega)]

/-- The line of a page; the buffer behind. -/
def mLine (n : Nat) (W : Nat → Int) (L : Nat → Option Ln) (root asid page : Int) : Option Ln := match tFind L asid page with
  | some l => some l
  | none => if (walkM W n root page).e = 0 ∧ hasB n (walkM W n root page).fr = true then some ⟨asid, page, (walkM W n root page).fr, (walkM W n root page).wr⟩ else none
def mTlb (n : Nat) (W : Nat → Int) (L : Nat → Option Ln) (root asid page at_ : Int) : Nat → Option Ln := match tFind L asid page with
  | some _ => L
  | none => match mLine n W L root asid page with
    | none => L
    | some l => tPutL L l at_

theorem mmu_line_hit (pu pm pb : Nat) (root asid : Int) (lb : Nat → Nat) (L : Nat → Option Ln) (page at_ : Int) (l : Ln) (w : World) (hu : UnitIn w pu pm pb root asid) (ht : TlbIn w pb lb L) (hl : tFind L asid page = some l) :
    Calls Try.prog 58 #[.pointer (some ⟨pu, 0, none⟩), .int .i64 page, .int .i64 at_] w fun e w' => e = .returned (lnV (some l)) ∧ Below w.heap.size w w' := by
  have c1 := hu.c1
  have c3 := hu.c3
  have hlt := hu.lt
  have hne : ¬ pu = w.heap.size := by omega
  have ht1 := ht.below (w' := w.alloc (.cells #[.int .i64 0, .int .i64 0, .int .i64 0, .bool false] 41)) (by repeat (first | with_reducible exact Below.refl _ _ | with_reducible assumption | with_reducible refine below_drewN ?_ _ | with_reducible refine Below.alloc ?_ (by simp <;> omega) _))
  go_enter Try.func58, Try.ntmps58
  go_wp2_with (fail)
  refine (tlb_find pb lb L asid page _ ht1).mono ?_
  rintro e w1 ⟨rfl, hb⟩
  rw [hl]
  unfold lnV
  have kb : Below w.heap.size w w1 := (Below.alloc (Below.refl _ _) (Nat.le_refl _) _).trans (hb.mono (by simp))
  have hz : w.heap.size < w1.heap.size := by have := hb.size; simp at this; omega
  have z0 : w1.cell? ⟨w.heap.size, 0, none⟩ = some (.int .i64 0) := keep hb (by simp) (by simp [go_sem])
  have z1 : w1.cell? ⟨w.heap.size, 1, none⟩ = some (.int .i64 0) := keep hb (by simp) (by simp [go_sem])
  have z2 : w1.cell? ⟨w.heap.size, 2, none⟩ = some (.int .i64 0) := keep hb (by simp) (by simp [go_sem])
  have z3 : w1.cell? ⟨w.heap.size, 3, none⟩ = some (.bool false) := keep hb (by simp) (by simp [go_sem])
  have y0 : w1.frozen? ⟨w.heap.size, 0, none⟩ = false := keepF hb (by simp) (by simp [go_sem])
  have y1 : w1.frozen? ⟨w.heap.size, 1, none⟩ = false := keepF hb (by simp) (by simp [go_sem])
  have y2 : w1.frozen? ⟨w.heap.size, 2, none⟩ = false := keepF hb (by simp) (by simp [go_sem])
  have y3 : w1.frozen? ⟨w.heap.size, 3, none⟩ = false := keepF hb (by simp) (by simp [go_sem])
  have hne2 : ¬ w.heap.size = w1.heap.size := by omega
  go_wp2_with (fail)
  refine bodyPost_ret (v := .agg #[.int .i64 l.a, .int .i64 l.p, .int .i64 l.f, .bool l.w]) (by simp [results, Try.results58, go_sem, z0, z1, z2, z3, hne2, hz]) rfl ⟨rfl, ?_⟩
  repeat (first | with_reducible exact Below.refl _ _ | with_reducible assumption | with_reducible refine below_drewN ?_ _ | with_reducible refine Below.drew ?_ | with_reducible refine Below.setCell ?_ (by first | omega | (simp <;> omega)) _ | with_reducible refine Below.alloc ?_ (by first | omega | (simp <;> omega)) _)

end Go.Proofs.Yteehghjdifbjbaa
