/- What turn returns and writes where a table is staged; what Stage does. -/
import Derived.Test.YtjacbcephokbbaaMajor
import Derived.Laws.EntriesVeiled
namespace Go.Proofs.Ytjacbcephokbbaa
set_option linter.unusedSimpArgs false
set_option linter.unusedVariables false
set_option maxRecDepth 100000
open Go.RowKit
set_option maxHeartbeats 4000000

/-- A box that holds a table's place. -/
structure BoxIn (w : World) (bx pt : Nat) : Prop where
  c0 : w.cell? ⟨bx, 0, none⟩ = some (.pointer (some ⟨pt, 0, none⟩))
  lt : bx < w.heap.size
theorem BoxIn.heap {w w' : World} {bx pt : Nat} (h : BoxIn w bx pt) (e : w'.heap[bx]? = w.heap[bx]?) : BoxIn w' bx pt := ⟨(cell_of_heap e _).trans h.c0, heap_lt' e h.lt⟩
def boxP (bx pt : Nat) : HP := ownP (fun k => k = bx) (fun w => BoxIn w bx pt)
theorem loc_box (bx pt : Nat) : Loc (fun k => k = bx) (fun w => BoxIn w bx pt) := fun _ _ h e => h.heap (e bx rfl)
def clo (bx : Nat) : Value := .func (.func 29) #[] #[.pointer (some ⟨bx, 0, none⟩)]

theorem s_stage1 (bx pt : Nat) (w : World) (hb : BoxIn w bx pt) : Calls Try.prog 29 #[.pointer (some ⟨bx, 0, none⟩)] w fun e w' => e = .returned (.pointer (some ⟨pt, 0, none⟩)) ∧ w = w' := by
  have c0 := hb.c0
  go_enter Try.func29, Try.ntmps29
  go_wp2_with (fail)
  go_ret
  exact ⟨rfl, rfl⟩

theorem turn_no (pc pt : Nat) (fv : Value) (n place : Int) (U : Nat → Int) (w : World) (h : ClockIn w pc pt fv n place U) (hp : (place == 0) = false) :
    Calls Try.prog 28 #[.pointer (some ⟨pc, 0, none⟩)] w fun e w' => e = .returned (.tuple #[]) ∧ w = w' := by
  have c3 := h.c3
  go_enter Try.func28, Try.ntmps28
  go_wp2_with (fail)
  go_end0
  exact ⟨rfl, rfl⟩

theorem turn_yes (pc pt bx p2 : Nat) (n : Int) (U : Nat → Int) (w : World) (h : ClockIn w pc pt (clo bx) n 0 U) (hb : BoxIn w bx p2) :
    Calls Try.prog 28 #[.pointer (some ⟨pc, 0, none⟩)] w fun e w' => e = .returned (.tuple #[]) ∧ w' = (w.setCell ⟨pc, 0, none⟩ (.pointer (some ⟨p2, 0, none⟩))).setCell ⟨pc, 1, none⟩ .nilFunc := by
  have c1 := h.c1
  simp only [clo] at c1
  have c3 := h.c3
  have f0 := h.free 0 (by omega)
  have f1 := h.free 1 (by omega)
  have c0 := h.c0
  have hq : ∀ w, (binOp .neq 61 (.func (.func 29) #[] #[.pointer (some ⟨bx, 0, none⟩)]) .nilFunc).run Try.prog w = .ok (.bool true) w := fun _ => by kernel_rfl
  have hg : ∀ w, (eqGuard .neq 61 (.tmp 11) (.const .nilFunc) (.func (.func 29) #[] #[.pointer (some ⟨bx, 0, none⟩)]) .nilFunc).run Try.prog w = .ok () w := fun _ => by kernel_rfl
  go_enter Try.func28, Try.ntmps28
  go_wp2_with (fail)
  refine (s_stage1 bx p2 w hb).mono ?_
  rintro e w' ⟨rfl, hw'⟩
  obtain rfl := hw'
  go_wp2_with (fail)
  go_end0
  exact ⟨rfl, rfl⟩

def ckP (pc : Nat) (m : Int) (L : List Win) (stg : Option (Int × List Win)) (n place : Int) (U : Nat → Int) : HP := exP fun pt => match stg with
  | none => clkP pc pt .nilFunc n place U * tabP pt m L
  | some (m2, L2) => exP fun x : Nat × Nat => clkP pc pt (clo x.1) n place U * (tabP pt m L * (boxP x.1 x.2 * tabP x.2 m2 L2))
/-- What is gone through behind a turn. -/
def turnT (m : Int) (L : List Win) (stg : Option (Int × List Win)) (place : Int) : Int × List Win := match stg with
  | some x => if place = 0 then x else (m, L)
  | none => (m, L)
def turnS (stg : Option (Int × List Win)) (place : Int) : Option (Int × List Win) := if place = 0 then none else stg

theorem s_turn (pc : Nat) (m : Int) (L : List Win) (stg : Option (Int × List Win)) (n place : Int) (U : Nat → Int) (g w : World) (R : HP) (h : Sat g w (ckP pc m L stg n place U * R)) :
    Calls Try.prog 28 #[.pointer (some ⟨pc, 0, none⟩)] w fun e w' => e = .returned (.tuple #[]) ∧ Sat g w' (ckP pc (turnT m L stg place).1 (turnT m L stg place).2 (turnS stg place) n place U * R) ∧ Touch (· = pc) w w' := by
  obtain ⟨pt, h⟩ := h.ex
  cases stg with
  | none =>
    have e2 : turnS none place = none := by simp [turnS]
    rw [e2]
    exact (s_turn_none pc pt n place U g w _ (h.perm (star_assoc _ _ _))).mono fun e w' ⟨h1, h2⟩ => ⟨h1, h2 ▸ Sat.ex' pt h, h2 ▸ Touch.refl _ _⟩
  | some x =>
    obtain ⟨m2, L2⟩ := x
    obtain ⟨⟨bx, p2⟩, h⟩ := Sat.ex h
    have h := h.perm (show _ = clkP pc pt (clo bx) n place U * (boxP bx p2 * (tabP p2 m2 L2 * (tabP pt m L * R))) by ac_rfl)
    by_cases hp : place = 0
    · subst hp
      have e1 : turnT m L (some (m2, L2)) 0 = (m2, L2) := by simp [turnT]
      have e2 : turnS (some (m2, L2)) 0 = none := by simp [turnS]
      rw [e1, e2]
      refine (turn_yes pc pt bx p2 n U w h.inv h.swap.inv).mono fun e w' ⟨h1, h2⟩ => ?_
      have c := h.inv
      have t : Touch (· = pc) w w' := by
        rw [h2]
        exact (Touch.setCell (S := (· = pc)) (Touch.setCell (S := (· = pc)) (Touch.refl _ _) (Or.inl rfl) _) (Or.inl rfl) _)
      have c' : ClockIn w' pc p2 .nilFunc n 0 U := by
        rw [h2]
        refine ⟨?_, ?_, ?_, ?_, fun i hi => ?_, fun j hj => ?_, ?_⟩
        all_goals first | (have := c.c0; have := c.c1; have := c.c2; have := c.c3; have := c.free 0 (by omega); have := c.free 1 (by omega); simp [go_sem, *]; done) | skip
        · rw [setCell_other5 (by omega), setCell_other5 (by omega)]
          exact c.u i hi
        · have := c.free j hj
          simpa [go_sem] using this
        · simpa [go_sem] using c.lt
      exact ⟨h1, Sat.ex' p2 (((h.clk_set t c').perm (show _ = boxP bx p2 * (tabP pt m L * ((clkP pc p2 .nilFunc n 0 U * tabP p2 m2 L2) * R)) by ac_rfl)).right).right, t⟩
    · have e1 : turnT m L (some (m2, L2)) place = (m, L) := by simp [turnT, hp]
      have e2 : turnS (some (m2, L2)) place = some (m2, L2) := by simp [turnS, hp]
      rw [e1, e2]
      refine (turn_no pc pt (clo bx) n place U w h.inv (by simp [hp])).mono fun e w' ⟨h1, h2⟩ => ⟨h1, Sat.ex' pt (Sat.ex' (bx, p2) ?_), h2 ▸ Touch.refl _ _⟩
      exact h2 ▸ h.perm (by ac_rfl)

end Go.Proofs.Ytjacbcephokbbaa
