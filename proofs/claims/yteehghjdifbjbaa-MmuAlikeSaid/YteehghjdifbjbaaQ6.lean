/- Part 6 of the proofs: Ref09b, Ref06. -/
import Derived.Test.YteehghjdifbjbaaQ5
import Derived.Test.YteehghjdifbjbaaQ3
namespace Go.Proofs.Yteehghjdifbjbaa
set_option linter.unusedSimpArgs false
set_option linter.unusedVariables false
set_option maxRecDepth 100000
open Go.RowKit
set_option maxHeartbeats 4000000

theorem setCell_other {w : World} {b i j : Nat} {v : Value} (hi : i ≠ j) : (w.setCell ⟨b, j, none⟩ v).cell? ⟨b, i, none⟩ = w.cell? ⟨b, i, none⟩ := by
  have : (⟨b, i, none⟩ : Addr) ≠ ⟨b, j, none⟩ := by simp [hi]
  simp [go_sem, hi, this]
theorem setCell_this {w : World} {b j : Nat} {u v : Value} (h : w.cell? ⟨b, j, none⟩ = some u) : (w.setCell ⟨b, j, none⟩ v).cell? ⟨b, j, none⟩ = some v := by simp [go_sem, h]

theorem R9In.lput {w : World} {pr : Nat} {M : Nat → Ln} {I : Nat → Bool} (h : R9In w pr M I) (k : Nat) (hk : k < 8) (l : Ln) :
    R9In ((((w.setCell ⟨pr, k * 4, none⟩ (.int .i64 l.a)).setCell ⟨pr, k * 4 + 1, none⟩ (.int .i64 l.p)).setCell ⟨pr, k * 4 + 2, none⟩ (.int .i64 l.f)).setCell ⟨pr, k * 4 + 3, none⟩ (.bool l.w)) pr (fun i => if i = k then l else M i) I := by
  have g0 := h.c0 k hk
  have g1 := h.c1 k hk
  have g2 := h.c2 k hk
  have g3 := h.c3 k hk
  refine ⟨fun i hi => ?_, fun i hi => ?_, fun i hi => ?_, fun i hi => ?_, fun i hi => ?_, fun i hi => by simpa [go_sem] using h.free i hi, by have := h.lt; simpa using this⟩
  · rw [setCell_other (by omega), setCell_other (by omega), setCell_other (by omega)]
    by_cases e : i = k
    · subst e; rw [if_pos rfl]; exact setCell_this g0
    · rw [setCell_other (by omega), if_neg e]; exact h.c0 i hi
  · rw [setCell_other (by omega), setCell_other (by omega)]
    by_cases e : i = k
    · subst e; rw [if_pos rfl]; exact setCell_this (by rw [setCell_other (by omega)]; exact g1)
    · rw [setCell_other (by omega), setCell_other (by omega), if_neg e]; exact h.c1 i hi
  · rw [setCell_other (by omega)]
    by_cases e : i = k
    · subst e; rw [if_pos rfl]; exact setCell_this (by rw [setCell_other (by omega), setCell_other (by omega)]; exact g2)
    · rw [setCell_other (by omega), setCell_other (by omega), setCell_other (by omega), if_neg e]; exact h.c2 i hi
  · by_cases e : i = k
    · subst e; rw [if_pos rfl]; exact setCell_this (by rw [setCell_other (by omega), setCell_other (by omega), setCell_other (by omega)]; exact g3)
    · rw [setCell_other (by omega), setCell_other (by omega), setCell_other (by omega), setCell_other (by omega), if_neg e]; exact h.c3 i hi
  · rw [setCell_other (by omega), setCell_other (by omega), setCell_other (by omega), setCell_other (by omega)]; exact h.is_ i hi

/-- Where the search for a free place stands: none up to k, or the first. -/
def FreeRel (L : Nat → Option Ln) (k : Nat) (p : Int) : Prop := (p = -1 ∧ ∀ j, j < k → (L j).isNone = false) ∨ (0 ≤ p ∧ tFree L = p)
theorem free_none {L : Nat → Option Ln} {k : Nat} (h : FreeRel L k (-1)) : ∀ j, j < k → (L j).isNone = false := by
  rcases h with h | h
  · exact h.2
  · have := h.1; omega
theorem free_step_no {L : Nat → Option Ln} {k : Nat} (h : FreeRel L k (-1)) (e : (L k).isNone = false) : FreeRel L (k + 1) (-1) :=
  Or.inl ⟨rfl, fun j hj => by
    by_cases q : j = k
    · rw [q]; exact e
    · exact free_none h j (by omega)⟩
theorem free_step_yes {L : Nat → Option Ln} {k : Nat} (hk : k < 8) (h : FreeRel L k (-1)) (e : (L k).isNone = true) : FreeRel L (k + 1) k := by
  refine Or.inr ⟨by omega, ?_⟩
  unfold tFree
  rw [firstI_skip _ k (by omega) (free_none h)]
  obtain ⟨q, hq⟩ : ∃ q, 8 - k = q + 1 := ⟨8 - k - 1, by omega⟩
  rw [hq]; simp only [firstI]; rw [if_pos e]
theorem free_end {L : Nat → Option Ln} (h : FreeRel L 8 (-1)) : tFree L = -1 := by
  unfold tFree
  rw [firstI_skip _ 8 (by omega) (free_none h)]; rfl
theorem free_yes {L : Nat → Option Ln} {k : Nat} {p : Int} (h : FreeRel L k p) (h0 : 0 ≤ p) : tFree L = p := by
  rcases h with h | h
  · have := h.1; omega
  · exact h.2
theorem L9_none (M : Nat → Ln) (I : Nat → Bool) (k : Nat) : (L9 M I k).isNone = !I k := by unfold L9; cases I k <;> rfl

theorem r09_put_go (pr : Nat) (M : Nat → Ln) (I : Nat → Bool) (l : Ln) (at_ : Int) (k : Nat) (w : World) (h : R9In w pr M I) (hr : rightL l = true) (h0 : 0 ≤ at_) (h1 : at_ < 8) (hk : k < 8) (hp : tPlace (L9 M I) l at_ = k) :
    Calls Try.prog 22 #[.pointer (some ⟨pr, 0, none⟩), lnV (some l), .int .i64 at_] w fun e w' => e = .returned (.int .i64 0) ∧ R9In w' pr (fun i => if i = k then l else M i) (fun i => if i = k then true else I i) ∧ Touch (· = pr) w w' := by
  have hb : (1 ≤ l.a ∧ l.a ≤ 8) ∧ (0 ≤ l.p ∧ l.p < 4096) ∧ (0 ≤ l.f ∧ l.f < 256) := by simp [rightL] at hr; omega
  obtain ⟨⟨b0, b1⟩, ⟨b2, b3⟩, b4, b5⟩ := hb
  clear hr
  have hlt := h.lt
  have hne : ¬ pr = w.heap.size := by omega
  have hkk : (0 : Int) ≤ (k : Int) ∧ (k : Int) < 8 := by omega
  obtain ⟨k0, k1⟩ := hkk
  have h2 := h.below (w' := w.alloc (.cells #[.int .i64 l.a, .int .i64 l.p, .int .i64 l.f, .bool l.w] 41)) (by repeat (first | with_reducible exact Below.refl _ _ | with_reducible assumption | with_reducible refine below_drewN ?_ _ | with_reducible refine Below.alloc ?_ (by simp <;> omega) _))
  have g0 := h.c0 k hk
  have g1 := h.c1 k hk
  have g2 := h.c2 k hk
  have g3 := h.c3 k hk
  have gi := h.is_ k hk
  have f0 := h.free (k * 4) (by omega)
  have f1 := h.free (k * 4 + 1) (by omega)
  have f2 := h.free (k * 4 + 2) (by omega)
  have f3 := h.free (k * 4 + 3) (by omega)
  have fi := h.free (32 + k) (by omega)
  obtain ⟨o, ho⟩ : ∃ o, o = Obj.cells #[.int .i64 l.a, .int .i64 l.p, .int .i64 l.f, .bool l.w] 41 := ⟨_, rfl⟩
  have fin : R9In ((((((w.setCell ⟨pr, k * 4, none⟩ (.int .i64 l.a)).setCell ⟨pr, k * 4 + 1, none⟩ (.int .i64 l.p)).setCell ⟨pr, k * 4 + 2, none⟩ (.int .i64 l.f)).setCell ⟨pr, k * 4 + 3, none⟩ (.bool l.w)).setCell ⟨pr, 32 + k, none⟩ (.bool true)).alloc o).drew pr (fun i => if i = k then l else M i) (fun i => if i = k then true else I i) ∧
      Touch (· = pr) w ((((((w.setCell ⟨pr, k * 4, none⟩ (.int .i64 l.a)).setCell ⟨pr, k * 4 + 1, none⟩ (.int .i64 l.p)).setCell ⟨pr, k * 4 + 2, none⟩ (.int .i64 l.f)).setCell ⟨pr, k * 4 + 3, none⟩ (.bool l.w)).setCell ⟨pr, 32 + k, none⟩ (.bool true)).alloc o).drew := by
    refine ⟨((h.lput k hk l).clear k hk true).below (below_drew ((Below.refl _ _).alloc (Nat.le_refl _) _)), ?_⟩
    refine Touch.drew (Touch.alloc ?_ _)
    repeat (first | exact Touch.refl _ _ | refine Touch.setCell (S := (· = pr)) ?_ (Or.inl rfl) _)
  rw [ho] at fin
  have FFF := Lib.hid fin
  clear fin ho
  rcases firstI_spec (fun i => isB l.a l.p (L9 M I i)) with ⟨e1, _⟩ | ⟨j, hj, e1, _, _⟩
  · have e1' : tAt (L9 M I) l.a l.p = -1 := e1
    clear e1
    unfold tPlace at hp
    rw [e1', if_neg (by omega)] at hp
    have hp0 : tFree (L9 M I) = (k : Int) ∨ (tFree (L9 M I) = -1 ∧ at_ = (k : Int)) := by
      rcases firstI_spec (fun i => ((L9 M I) i).isNone) with ⟨e2, _⟩ | ⟨j, hj, e2, _, _⟩
      · have e2' : tFree (L9 M I) = -1 := e2
        rw [e2', if_neg (by omega)] at hp
        exact Or.inr ⟨e2', hp⟩
      · have e2' : tFree (L9 M I) = (j : Nat) := e2
        rw [e2', if_pos (by omega)] at hp
        exact Or.inl (by rw [e2']; exact hp)
    have HP := Lib.hid hp0
    clear hp hp0
    unfold lnV
    go_enter Try.func22, Try.ntmps22
    go_wp2_with (fail)
    refine (r09_at pr M I _ _ _ _ h2 e1').mono ?_
    rintro e w1 ⟨rfl, rfl⟩
    go_wp2_with (fail)
    go_loop [7, 8] (fun p i => ∃ (q : Nat) (r : Int), q ≤ 8 ∧ i = .int .i64 q ∧ p = .int .i64 r ∧ Hid (FreeRel (L9 M I) q r)) (fun _ i => 8 - (intOf i).toNat)
    case atStart => exact ⟨0, -1, by omega, rfl, rfl, Lib.hid (Or.inl ⟨rfl, fun j hj => by omega⟩)⟩
    case round =>
      obtain ⟨q, r, hq, rfl, rfl, HR⟩ := hrel
      by_cases hr0 : r < 0
      · have hr1 : r = -1 := by
          rcases HR.out with h | h
          · exact h.1
          · have := h.1; omega
        subst hr1
        clear hr0
        by_cases hlt : q < 8
        · have gq := h.is_ q hlt
          have hno := L9_none M I q
          cases hx : I q
          · rw [hx] at gq hno
            have HR' := Lib.hid (free_step_yes hlt HR.out hno)
            clear hno hx
            go_wp2_with (fail)
            go_round
            case rel => exact ⟨q + 1, q, by omega, by go_num, rfl, HR'⟩
            case measure => simp [intOf]; omega
          · rw [hx] at gq hno
            have HR' := Lib.hid (free_step_no HR.out hno)
            clear hno hx
            go_wp2_with (fail)
            go_round
            case rel => exact ⟨q + 1, -1, by omega, by go_num, rfl, HR'⟩
            case measure => simp [intOf]; omega
        · obtain rfl : q = 8 := by omega
          obtain rfl : at_ = (k : Int) := by
            have := free_end HR.out
            rcases HP.out with h | h
            · omega
            · exact h.2
          go_wp2_with (fail)
          go_region
          all_goals
            go_wp2_with (fail)
            go_ret
            exact ⟨rfl, FFF.out⟩
      · obtain rfl : r = (k : Int) := by
          have := free_yes HR.out (by omega)
          rcases HP.out with h | h
          · rw [← this]; exact h
          · have := h.1; omega
        have hnl : decide ((k : Int) < 0) = false := by simp
        clear hr0
        by_cases hlt : q < 8
        · go_wp2_with (fail)
          go_region
          all_goals
            go_wp2_with (fail)
            go_ret
            exact ⟨rfl, FFF.out⟩
        · obtain rfl : q = 8 := by omega
          go_wp2_with (fail)
          go_region
          all_goals
            go_wp2_with (fail)
            go_ret
            exact ⟨rfl, FFF.out⟩
  · have e1' : tAt (L9 M I) l.a l.p = (j : Nat) := e1
    clear e1
    unfold tPlace at hp
    rw [e1', if_pos (by omega)] at hp
    obtain rfl : j = k := by omega
    clear hp
    unfold lnV
    go_enter Try.func22, Try.ntmps22
    go_wp2_with (fail)
    refine (r09_at pr M I _ _ _ _ h2 e1').mono ?_
    rintro e w1 ⟨rfl, rfl⟩
    go_wp2_with (fail)
    go_loop [7, 8] (fun p i => p = .int .i64 j ∧ i = .int .i64 (0 : Nat)) (fun _ _ => 0)
    case atStart => exact ⟨rfl, rfl⟩
    case round =>
      obtain ⟨rfl, rfl⟩ := hrel
      go_wp2_with (fail)
      go_region
      all_goals
        go_wp2_with (fail)
        go_ret
        exact ⟨rfl, FFF.out⟩

theorem r09_put_no (pr : Nat) (l : Ln) (at_ : Int) (w : World) (hr : ¬ (rightL l = true ∧ 0 ≤ at_ ∧ at_ < 8)) :
    Calls Try.prog 22 #[.pointer (some ⟨pr, 0, none⟩), lnV (some l), .int .i64 at_] w fun e w' => e = .returned (.int .i64 1) ∧ Below w.heap.size w w' := by
  have hh : l.a < 1 ∨ (¬ l.a < 1 ∧ 8 < l.a) ∨ (¬ l.a < 1 ∧ ¬ 8 < l.a ∧ l.p < 0) ∨ (¬ l.a < 1 ∧ ¬ 8 < l.a ∧ ¬ l.p < 0 ∧ 4095 < l.p) ∨ (¬ l.a < 1 ∧ ¬ 8 < l.a ∧ ¬ l.p < 0 ∧ ¬ 4095 < l.p ∧ l.f < 0) ∨ (¬ l.a < 1 ∧ ¬ 8 < l.a ∧ ¬ l.p < 0 ∧ ¬ 4095 < l.p ∧ ¬ l.f < 0 ∧ 255 < l.f) ∨
      (¬ l.a < 1 ∧ ¬ 8 < l.a ∧ ¬ l.p < 0 ∧ ¬ 4095 < l.p ∧ ¬ l.f < 0 ∧ ¬ 255 < l.f ∧ at_ < 0) ∨ (¬ l.a < 1 ∧ ¬ 8 < l.a ∧ ¬ l.p < 0 ∧ ¬ 4095 < l.p ∧ ¬ l.f < 0 ∧ ¬ 255 < l.f ∧ ¬ at_ < 0 ∧ 7 < at_) := by
    simp [rightL] at hr
    omega
  clear hr
  unfold lnV
  rcases hh with h | ⟨h, h'⟩ | ⟨h, h', h2⟩ | ⟨h, h', h2, h3⟩ | ⟨h, h', h2, h3, h4⟩ | ⟨h, h', h2, h3, h4, h5⟩ | ⟨h, h', h2, h3, h4, h5, h6⟩ | ⟨h, h', h2, h3, h4, h5, h6, h7⟩
  all_goals
    go_enter Try.func22, Try.ntmps22
    go_wp2_with (fail)
    go_ret
    exact ⟨rfl, by repeat (first | with_reducible exact Below.refl _ _ | with_reducible assumption | with_reducible refine below_drewN ?_ _ | with_reducible refine Below.alloc ?_ (by simp <;> omega) _)⟩

/-- A list of lines lies at an address. -/
def LnsAt (w : World) (a : Option Addr) (l : List Ln) : Prop := l = [] ∨ ∃ b, a = some ⟨b, 0, none⟩ ∧ ∀ i (hi : i < l.length), w.cell? ⟨b, i * 4, none⟩ = some (.int .i64 l[i].a) ∧ w.cell? ⟨b, i * 4 + 1, none⟩ = some (.int .i64 l[i].p) ∧ w.cell? ⟨b, i * 4 + 2, none⟩ = some (.int .i64 l[i].f) ∧ w.cell? ⟨b, i * 4 + 3, none⟩ = some (.bool l[i].w)
theorem LnsAt.drewN {w : World} {a : Option Addr} {l : List Ln} (h : LnsAt w a l) (q : Nat) : LnsAt (w.drewN q) a l := h
theorem lnsCells_at : ∀ (l : List Ln) (i : Nat) (h : i < l.length), (lnsCells l)[i * 4]? = some (.int .i64 l[i].a) ∧ (lnsCells l)[i * 4 + 1]? = some (.int .i64 l[i].p) ∧ (lnsCells l)[i * 4 + 2]? = some (.int .i64 l[i].f) ∧ (lnsCells l)[i * 4 + 3]? = some (.bool l[i].w)
  | [], i, h => by simp at h
  | x :: l, 0, h => by simp [lnsCells, lnCells]
  | x :: l, i + 1, h => by
    have ih := lnsCells_at l i (by simpa using h)
    have e : lnsCells (x :: l) = lnCells x ++ lnsCells l := rfl
    have h4 : (lnCells x).length = 4 := rfl
    rw [e]
    have g : ∀ j, (lnCells x ++ lnsCells l)[(i + 1) * 4 + j]? = (lnsCells l)[i * 4 + j]? := fun j => by
      rw [List.getElem?_append_right (by omega)]; congr 1; omega
    have g0 := g 0
    simp only [Nat.add_zero] at g0
    rw [g0, g 1, g 2, g 3]
    exact ih
theorem own_lns {w : World} {base n : Nat} {v : Value} {l : List Ln} (h : w.ownsRow base 41 4 v n (lnsCells l)) (hn : n = l.length) : ∃ a cap, v = .slice a l.length cap ∧ LnsAt w a l := by
  have h' := h
  rcases h.2 with ⟨rfl, rfl⟩ | ⟨g, cap, cur, rfl, hg, hh, _⟩
  · refine ⟨none, 0, ?_, Or.inl ?_⟩
    · cases l with
      | nil => rfl
      | cons a l => have := h.1; rw [lnsCells_length] at this; simp at this
    · cases l with
      | nil => rfl
      | cons a l => have := h.1; rw [lnsCells_length] at this; simp at this
  · refine ⟨some ⟨g, 0, none⟩, cap, by rw [hn], Or.inr ⟨g, rfl, fun i hi => ?_⟩⟩
    obtain ⟨a, b, c, d⟩ := lnsCells_at l i hi
    have hc : ∀ j v, (lnsCells l)[j]? = some v → w.cell? ⟨g, j, none⟩ = some v := fun j v hj => by
      have hjl := (List.getElem?_eq_some_iff.1 hj).1
      rw [lnsCells_length] at hjl
      rw [h'.cellAt j (by omega)]; exact hj
    exact ⟨hc _ _ a, hc _ _ b, hc _ _ c, hc _ _ d⟩

theorem r09_same (l : List Ln) (a a' : Option Addr) (c c' : Nat) (w : World) (h : LnsAt w a l) (h' : LnsAt w a' l) (hl : l.length ≤ 8) :
    Calls Try.prog 25 #[.slice a l.length c, .slice a' l.length c'] w fun e w' => e = .returned (.bool true) ∧ ∃ q, w' = w.drewN q := by
  rcases h with rfl | ⟨b, rfl, hc⟩
  · go_enter Try.func25, Try.ntmps25
    go_wp2_with (fail)
    go_loop [5] (fun i => i = .int .i64 (0 : Nat)) (fun _ => 0)
    case atStart => exact rfl
    case round =>
      subst hrel
      go_wp2_with (fail)
      go_ret
      exact ⟨rfl, 0, rfl⟩
  · rcases h' with rfl | ⟨b', rfl, hc'⟩
    · go_enter Try.func25, Try.ntmps25
      go_wp2_with (fail)
      go_loop [5] (fun i => i = .int .i64 (0 : Nat)) (fun _ => 0)
      case atStart => exact rfl
      case round =>
        subst hrel
        go_wp2_with (fail)
        go_ret
        exact ⟨rfl, 0, rfl⟩
    · go_enter Try.func25, Try.ntmps25
      go_wp2_with (fail)
      go_loopw [5] (fun i wr => ∃ (k q : Nat), k ≤ l.length ∧ i = .int .i64 k ∧ wr = w.drewN q) (fun i _ => l.length - (intOf i).toNat)
      case atStart => exact ⟨0, 0, by omega, rfl, rfl⟩
      case round =>
        obtain ⟨k, q, hk, rfl, rfl⟩ := hrel
        by_cases hlt : k < l.length
        · obtain ⟨x0, x1, x2, x3⟩ := hc k hlt
          obtain ⟨y0, y1, y2, y3⟩ := hc' k hlt
          have i0 : (0 : Int) ≤ (k : Int) := by omega
          have i1 : (k : Int) < (l.length : Int) := by omega
          go_wp2_with (fail)
          go_quiet (fail)
          go_wp2_with (fail)
          go_roundw
          case rel => exact ⟨k + 1, _, by omega, by go_num, rfl⟩
          case measure => simp [intOf]; omega
        · obtain rfl : k = l.length := by omega
          go_wp2_with (fail)
          go_ret
          exact ⟨rfl, _, rfl⟩

end Go.Proofs.Yteehghjdifbjbaa

namespace Go.Proofs.Yteehghjdifbjbaa
set_option linter.unusedSimpArgs false
set_option linter.unusedVariables false
set_option maxRecDepth 100000
open Go.RowKit
set_option maxHeartbeats 1000000

theorem r06_right (v wr tb : Bool) (fr : Int) (w : World) :
    Calls Try.prog 77 #[.agg #[.bool v, .bool wr, .bool tb, .int .i64 fr]] w fun e w' => e = .returned (.bool (rightB v wr tb fr)) ∧ Below w.heap.size w w' := by
  go_enter Try.func77, Try.ntmps77
  cases v <;> go_wp2 <;> go_ret <;> exact ⟨by first | (simp [rightB, *]; done) | (have h1 : fr < 256 := (by omega); simp [rightB, *]; done) | (have h1 : ¬ fr < 256 := (by omega); simp [rightB, h1]; done) | (have h1 : ¬ 0 ≤ fr := (by omega); simp [rightB, h1]; done), by repeat (first | exact Below.refl _ _ | refine Below.alloc ?_ (by simp <;> omega) _)⟩

theorem r06_word (v wr tb : Bool) (fr : Int) (w : World) :
    Calls Try.prog 45 #[.agg #[.bool v, .bool wr, .bool tb, .int .i64 fr]] w fun e w' => e = .returned (.tuple #[.int .u64 (wI v wr tb fr), .int .i64 (wE v wr tb fr)]) ∧ Below w.heap.size w w' := by
  cases h : rightB v wr tb fr
  · go_enter Try.func45, Try.ntmps45
    go_wp2_with (go_at_call 77; refine (r06_right _ _ _ _ _).mono ?_; rintro e w' ⟨rfl, hb⟩; rw [h])
    go_ret2
    exact ⟨by simp [wI, wE, h], ((Below.refl _ _).alloc (Nat.le_refl _) _).trans (hb.mono (by simp))⟩
  · obtain ⟨hfr0, hfr1⟩ := right_bd h
    cases v
    · obtain ⟨rfl, rfl, rfl⟩ : wr = false ∧ tb = false ∧ fr = 0 := by simpa [rightB, and_assoc] using h
      go_enter Try.func45, Try.ntmps45
      go_wp2_with (go_at_call 77; refine (r06_right _ _ _ _ _).mono ?_; rintro e w' ⟨rfl, hb⟩; rw [h]; have c0 : w'.cell? ⟨w.heap.size, 0, none⟩ = some (.bool false) := by rw [(bcell hb).1 _ _ (by simp <;> omega)]; simp [go_sem, World.cell?_alloc_past])
      go_ret2
      exact ⟨by simp [wI, wE, h, wordI, flagI], ((Below.refl _ _).alloc (Nat.le_refl _) _).trans (hb.mono (by simp))⟩
    · cases wr <;> cases tb
      all_goals
        go_enter Try.func45, Try.ntmps45
        go_wp2_with (go_at_call 77; refine (r06_right _ _ _ _ _).mono ?_; rintro e w' ⟨rfl, hb⟩; rw [h]; obtain ⟨hc, hf⟩ := bcell hb; have c0 := hc w.heap.size 0 (by simp <;> omega); have c1 := hc w.heap.size 1 (by simp <;> omega); have c2 := hc w.heap.size 2 (by simp <;> omega); have c3 := hc w.heap.size 3 (by simp <;> omega); simp [go_sem, World.cell?_alloc_past] at c0 c1 c2 c3)
        go_ret2
        exact ⟨by simp [wI, wE, h, wordI, flagI] <;> omega, ((Below.refl _ _).alloc (Nat.le_refl _) _).trans (hb.mono (by simp))⟩

theorem r06_of_yes (x : Int) (w : World) (hx : 0 ≤ x) (hx' : x < 18446744073709551616) (hE : (wE (pV x) (pW x) (pT x) (pF x) != 0) = false) (hX : (wI (pV x) (pW x) (pT x) (pF x) != x) = false) :
    Calls Try.prog 90 #[.int .u64 x] w fun e w' => e = .returned (.tuple #[.agg #[.bool (pV x), .bool (pW x), .bool (pT x), .int .i64 (pF x)], .int .i64 0]) ∧ Below w.heap.size w w' := by
  have hpF0 : 0 ≤ x / 256 % 256 := by omega
  have hpF1 : x / 256 % 256 < 256 := by omega
  go_enter Try.func90, Try.ntmps90
  go_wp2_with (fail)
  simp only [pW_eq, pT_eq]
  simp only [pV_eq, pF_eq]
  refine (r06_word _ _ _ _ _).mono ?_
  rintro e w3 ⟨rfl, hb⟩
  obtain ⟨hc, hf⟩ := bcell hb
  have c0 := hc w.heap.size 0 (by simp <;> omega)
  have c1 := hc w.heap.size 1 (by simp <;> omega)
  have c2 := hc w.heap.size 2 (by simp <;> omega)
  have c3 := hc w.heap.size 3 (by simp <;> omega)
  simp [go_sem, World.cell?_alloc_past] at c0 c1 c2 c3
  go_wp2_with (fail)
  refine bodyPost_ret (v := .tuple #[.agg #[.bool (pV x), .bool (pW x), .bool (pT x), .int .i64 (pF x)], .int .i64 0]) (by simp [results, Try.results90, go_sem, c0, c1, c2, c3]) rfl ⟨rfl, ?_⟩
  have hz := hb.size
  have hb' : Below w.heap.size w w3 := by
    refine Below.trans ?_ (hb.mono ?_)
    · repeat (first | exact Below.refl _ _ | refine Below.alloc ?_ (by simp <;> omega) _)
    · simp <;> omega
  repeat (first | exact hb' | refine Below.setCell ?_ (by simp) _ | refine Below.alloc ?_ (by simp at hz ⊢ <;> omega) _)

theorem r06_of_no1 (x : Int) (w : World) (hx : 0 ≤ x) (hx' : x < 18446744073709551616) (hE : (wE (pV x) (pW x) (pT x) (pF x) != 0) = true) :
    Calls Try.prog 90 #[.int .u64 x] w fun e w' => e = .returned (.tuple #[.agg #[.bool false, .bool false, .bool false, .int .i64 0], .int .i64 1]) ∧ Below w.heap.size w w' := by
  have hpF0 : 0 ≤ x / 256 % 256 := by omega
  have hpF1 : x / 256 % 256 < 256 := by omega
  go_enter Try.func90, Try.ntmps90
  go_wp2_with (fail)
  simp only [pW_eq, pT_eq]
  simp only [pV_eq, pF_eq]
  refine (r06_word _ _ _ _ _).mono ?_
  rintro e w3 ⟨rfl, hb⟩
  obtain ⟨hc, hf⟩ := bcell hb
  have c0 := hc w.heap.size 0 (by simp <;> omega)
  have c1 := hc w.heap.size 1 (by simp <;> omega)
  have c2 := hc w.heap.size 2 (by simp <;> omega)
  have c3 := hc w.heap.size 3 (by simp <;> omega)
  simp [go_sem, World.cell?_alloc_past] at c0 c1 c2 c3
  go_wp2_with (fail)
  refine bodyPost_ret (v := .tuple #[.agg #[.bool false, .bool false, .bool false, .int .i64 0], .int .i64 1]) (by simp [results, Try.results90, go_sem, c0, c1, c2, c3]) rfl ⟨rfl, ?_⟩
  have hz := hb.size
  have hb' : Below w.heap.size w w3 := by
    refine Below.trans ?_ (hb.mono ?_)
    · repeat (first | exact Below.refl _ _ | refine Below.alloc ?_ (by simp <;> omega) _)
    · simp <;> omega
  repeat (first | exact hb' | refine Below.setCell ?_ (by simp) _ | refine Below.alloc ?_ (by simp at hz ⊢ <;> omega) _)

theorem r06_of_no2 (x : Int) (w : World) (hx : 0 ≤ x) (hx' : x < 18446744073709551616) (hE : (wE (pV x) (pW x) (pT x) (pF x) != 0) = false) (hX : (wI (pV x) (pW x) (pT x) (pF x) != x) = true) :
    Calls Try.prog 90 #[.int .u64 x] w fun e w' => e = .returned (.tuple #[.agg #[.bool false, .bool false, .bool false, .int .i64 0], .int .i64 1]) ∧ Below w.heap.size w w' := by
  have hpF0 : 0 ≤ x / 256 % 256 := by omega
  have hpF1 : x / 256 % 256 < 256 := by omega
  go_enter Try.func90, Try.ntmps90
  go_wp2_with (fail)
  simp only [pW_eq, pT_eq]
  simp only [pV_eq, pF_eq]
  refine (r06_word _ _ _ _ _).mono ?_
  rintro e w3 ⟨rfl, hb⟩
  obtain ⟨hc, hf⟩ := bcell hb
  have c0 := hc w.heap.size 0 (by simp <;> omega)
  have c1 := hc w.heap.size 1 (by simp <;> omega)
  have c2 := hc w.heap.size 2 (by simp <;> omega)
  have c3 := hc w.heap.size 3 (by simp <;> omega)
  simp [go_sem, World.cell?_alloc_past] at c0 c1 c2 c3
  go_wp2_with (fail)
  refine bodyPost_ret (v := .tuple #[.agg #[.bool false, .bool false, .bool false, .int .i64 0], .int .i64 1]) (by simp [results, Try.results90, go_sem, c0, c1, c2, c3]) rfl ⟨rfl, ?_⟩
  have hz := hb.size
  have hb' : Below w.heap.size w w3 := by
    refine Below.trans ?_ (hb.mono ?_)
    · repeat (first | exact Below.refl _ _ | refine Below.alloc ?_ (by simp <;> omega) _)
    · simp <;> omega
  repeat (first | exact hb' | refine Below.setCell ?_ (by simp) _ | refine Below.alloc ?_ (by simp at hz ⊢ <;> omega) _)

theorem r06_of (x : Int) (w : World) (hx : 0 ≤ x) (hx' : x < 18446744073709551616) :
    Calls Try.prog 90 #[.int .u64 x] w fun e w' => e = .returned (.tuple #[.agg #[.bool (oV x), .bool (oW x), .bool (oT x), .int .i64 (oF x)], .int .i64 (oE x)]) ∧ Below w.heap.size w w' := by
  unfold oV oW oT oF oE
  cases hr : rightB (pV x) (pW x) (pT x) (pF x)
  · have h : ofB x = false := by simp [ofB, hr]
    rw [h]
    exact r06_of_no1 x w hx hx' (by simp [wE, hr])
  · by_cases hw : wordI (pV x) (pW x) (pT x) (pF x) = x
    · have h : ofB x = true := by simp [ofB, hr, hw]
      rw [h]
      exact r06_of_yes x w hx hx' (by simp [wE, hr]) (by simp [wI, hr, hw])
    · have h : ofB x = false := by simp [ofB, hr, hw]
      rw [h]
      exact r06_of_no2 x w hx hx' (by simp [wE, hr]) (by simp [wI, hr, hw])

theorem r06_index (p l : Int) (w : World) (h0 : 0 ≤ p) (h1 : p < 4096) (h2 : 0 ≤ l) (h3 : l < 3) :
    Calls Try.prog 83 #[.int .i64 p, .int .i64 l] w fun e w' => e = .returned (.tuple #[.int .i64 (idxI p l), .int .i64 0]) ∧ w = w' := by
  have : l = 0 ∨ l = 1 ∨ l = 2 := by omega
  rcases this with rfl | rfl | rfl
  all_goals
    go_enter Try.func83, Try.ntmps83
    go_wp2
    go_ret2
    exact ⟨by simp [idxI], rfl⟩
theorem r06_index_no (p l : Int) (w : World) (h : ¬ (0 ≤ p ∧ p < 4096 ∧ 0 ≤ l ∧ l < 3)) :
    Calls Try.prog 83 #[.int .i64 p, .int .i64 l] w fun e w' => e = .returned (.tuple #[.int .i64 0, .int .i64 1]) ∧ w = w' := by
  have h' : p < 0 ∨ (¬ p < 0 ∧ 4095 < p) ∨ (¬ p < 0 ∧ ¬ 4095 < p ∧ l < 0) ∨ (¬ p < 0 ∧ ¬ 4095 < p ∧ ¬ l < 0 ∧ 2 < l) := by omega
  clear h
  rcases h' with a | ⟨a, b⟩ | ⟨a, b, c⟩ | ⟨a, b, c, d⟩
  all_goals
    go_enter Try.func83, Try.ntmps83
    go_wp2
    go_ret2
    exact ⟨rfl, rfl⟩

end Go.Proofs.Yteehghjdifbjbaa
