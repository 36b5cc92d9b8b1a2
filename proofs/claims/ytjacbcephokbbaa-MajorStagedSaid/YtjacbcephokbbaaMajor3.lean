/- What Stage and Next return and write. -/
import Derived.Test.YtjacbcephokbbaaMajor2
namespace Go.Proofs.Ytjacbcephokbbaa
set_option linter.unusedSimpArgs false
set_option linter.unusedVariables false
set_option maxRecDepth 100000
open Go.RowKit
set_option maxHeartbeats 4000000

theorem Sat.ck {g w : World} {pc : Nat} {m : Int} {L : List Win} {stg : Option (Int × List Win)} {n place : Int} {U : Nat → Int} {R : HP} (h : Sat g w (ckP pc m L stg n place U * R)) :
    ∃ pt fv X, Sat g w (clkP pc pt fv n place U * (tabP pt m L * (X * R))) ∧ ∀ w' n' place' U' R', Sat g w' (clkP pc pt fv n' place' U' * (tabP pt m L * (X * R'))) → Sat g w' (ckP pc m L stg n' place' U' * R') := by
  obtain ⟨pt, h⟩ := h.ex
  cases stg with
  | none => exact ⟨pt, _, Ytjacbcephokbbaa.emp, (h.emp).perm (by ac_rfl), fun w' n' place' U' R' h' => Sat.ex' pt ((h'.perm (show _ = Ytjacbcephokbbaa.emp * (clkP pc pt .nilFunc n' place' U' * tabP pt m L * R') by ac_rfl)).right)⟩
  | some x =>
    obtain ⟨m2, L2⟩ := x
    obtain ⟨⟨bx, p2⟩, h⟩ := Sat.ex h
    exact ⟨pt, _, boxP bx p2 * tabP p2 m2 L2, h.perm (by ac_rfl), fun w' n' place' U' R' h' => Sat.ex' pt (Sat.ex' (bx, p2) (h'.perm (by ac_rfl)))⟩

theorem ClockIn.set1 {w : World} {pc pt : Nat} {fv : Value} {n place : Int} {U : Nat → Int} (h : ClockIn w pc pt fv n place U) (v : Value) : ClockIn (w.setCell ⟨pc, 1, none⟩ v) pc pt v n place U :=
  ⟨by rw [setCell_other5 (by omega)]; exact h.c0, by have := h.c1; simp [go_sem, *], by rw [setCell_other5 (by omega)]; exact h.c2, by rw [setCell_other5 (by omega)]; exact h.c3, fun i hi => by rw [setCell_other5 (by omega)]; exact h.u i hi, fun j hj => by have := h.free j hj; simpa [go_sem] using this, by simpa [go_sem] using h.lt⟩

theorem s_stage_nil (pc : Nat) (w : World) : Calls Try.prog 13 #[.pointer (some ⟨pc, 0, none⟩), .pointer none] w fun e w' => e = .returned (.int .i64 1) ∧ w = w' := by
  go_enter Try.func13, Try.ntmps13
  go_wp2_with (fail)
  go_ret
  exact ⟨rfl, rfl⟩

theorem s_stage (pc : Nat) (m : Int) (L : List Win) (stg : Option (Int × List Win)) (n place : Int) (U : Nat → Int) (p0 : Nat) (m2 : Int) (L2 : List Win) (g w : World) (R : HP) (h : Sat g w (ckP pc m L stg n place U * (tabP p0 m2 L2 * R))) :
    Calls Try.prog 13 #[.pointer (some ⟨pc, 0, none⟩), .pointer (some ⟨p0, 0, none⟩)] w fun e w' => e = .returned (.int .i64 0) ∧ Sat g w' (ckP pc (turnT m L (some (m2, L2)) place).1 (turnT m L (some (m2, L2)) place).2 (turnS (some (m2, L2)) place) n place U * (tabP p0 m2 L2 * R)) := by
  obtain ⟨pt, fv, X, h1, -⟩ := h.ck
  have h2 := h1.perm (show _ = tabP p0 m2 L2 * (clkP pc pt fv n place U * (tabP pt m L * R) * X) by ac_rfl)
  go_enter Try.func13, Try.ntmps13
  go_wp2_with (fail)
  refine (s_copy p0 m2 L2 g _ _ h2).mono ?_
  rintro e w2 ⟨p2, rfl, h3⟩
  have h4 := h3.perm (show _ = clkP pc pt fv n place U * (tabP p2 m2 L2 * (tabP p0 m2 L2 * (tabP pt m L * R) * X)) by ac_rfl)
  have c1 := h4.inv.c1
  have f1 := h4.inv.free 1 (by omega)
  have hlt := h4.inv.lt
  have hne : ¬ pc = w2.heap.size := by omega
  have hne' : ¬ w2.heap.size = pc := by omega
  have h5 : Sat g (w2.setCell ⟨pc, 1, none⟩ (clo w2.heap.size)) (clkP pc pt (clo w2.heap.size) n place U * (tabP p2 m2 L2 * (tabP p0 m2 L2 * (tabP pt m L * R) * X))) :=
    h4.clk_set (Touch.setCell (S := (· = pc)) (Touch.refl _ _) (Or.inl rfl) _) (h4.inv.set1 _)
  have hsz : (w2.setCell ⟨pc, 1, none⟩ (clo w2.heap.size)).heap.size = w2.heap.size := by simp [go_sem]
  have h6 : Sat g ((w2.setCell ⟨pc, 1, none⟩ (clo w2.heap.size)).alloc (.cells #[.pointer (some ⟨p2, 0, none⟩)] 24)) (boxP w2.heap.size p2 * (clkP pc pt (clo w2.heap.size) n place U * (tabP p2 m2 L2 * (tabP p0 m2 L2 * (tabP pt m L * R) * X)))) :=
    h5.new ((Below.refl _ _).alloc (Nat.le_refl _) _) ⟨by rw [← hsz]; simp [go_sem], by simp [go_sem]⟩ (loc_box _ _) (fun k hk => by rw [hk, hsz]; exact Nat.le_refl _) (fun k hk => by rw [hk]; simp [go_sem])
  have h7 : Sat g ((w2.setCell ⟨pc, 1, none⟩ (clo w2.heap.size)).alloc (.cells #[.pointer (some ⟨p2, 0, none⟩)] 24)) (ckP pc m L (some (m2, L2)) n place U * (tabP p0 m2 L2 * R)) :=
    Sat.ex' pt (Sat.ex' (w2.heap.size, p2) (Sat.right (h6.perm (show _ = X * (clkP pc pt (clo w2.heap.size) n place U * (tabP pt m L * (boxP w2.heap.size p2 * tabP p2 m2 L2)) * (tabP p0 m2 L2 * R)) by ac_rfl))))
  simp only [clo] at h7
  have H7 := Lib.hid h7
  clear h4 h5 h6 h7
  go_wp2_with (fail)
  refine (s_turn pc m L (some (m2, L2)) n place U g _ _ H7.out).mono ?_
  rintro e w3 ⟨rfl, h8, -⟩
  go_wp2_with (fail)
  go_ret
  exact ⟨rfl, h8⟩

end Go.Proofs.Ytjacbcephokbbaa
