/- awake of trunnionlaw16 returns true. -/
import Derived.Test.YtjacbcephokbbaaLaw16
namespace Go.Proofs.Ytjacbcephokbbaa
set_option linter.unusedSimpArgs false
set_option linter.unusedVariables false
set_option maxRecDepth 100000
open Go.RowKit
set_option maxHeartbeats 4000000

theorem turnT_none (m : Int) (L : List Win) (p : Int) : turnT m L none p = (m, L) := rfl
theorem turnS_none (p : Int) : turnS none p = none := by simp [turnS]
def tkP (b : Nat) (n place part : Int) (first : Bool) : HP := Ytjacbcephokbbaa.pt b (.cells #[.int .i64 n, .int .i64 place, .int .i64 part, .bool first] 31)
theorem tk_cells {g w : World} {b : Nat} {n place part : Int} {first : Bool} {R : HP} (h : Sat g w (tkP b n place part first * R)) : w.cell? ⟨b, 0, none⟩ = some (.int .i64 n) ∧ w.cell? ⟨b, 1, none⟩ = some (.int .i64 place) ∧ w.cell? ⟨b, 2, none⟩ = some (.int .i64 part) ∧ w.cell? ⟨b, 3, none⟩ = some (.bool first) := by
  have hh := Sat.pt_heap h
  refine ⟨?_, ?_, ?_, ?_⟩ <;> simp [World.cell?, hh]
theorem majornew_nil (w : World) : Calls Try.prog 8 #[.pointer none] w fun e w' => e = .returned (.tuple #[.pointer none, .int .i64 1]) ∧ w = w' := by
  go_enter Try.func8, Try.ntmps8
  go_wp2_with (fail)
  go_ret2
  exact ⟨rfl, rfl⟩
def ClkMade (g : World) (m : Int) (L : List Win) (R : HP) (e : Ending) (w' : World) : Prop := ∃ pc, e = .returned (.tuple #[.pointer (some ⟨pc, 0, none⟩), .int .i64 0]) ∧ Sat g w' (ckP pc m L none 0 0 (fun _ => 0) * R)
theorem s_clock (pt : Nat) (m : Int) (L : List Win) (g w : World) (R : HP) (h : Sat g w (tabP pt m L * R)) :
    Calls Try.prog 8 #[.pointer (some ⟨pt, 0, none⟩)] w (ClkMade g m L (tabP pt m L * R)) :=
  (s_majornew pt m L g w R h).mono fun e w' ⟨pc, pt', he, hs⟩ => ⟨pc, he, Sat.ex' pt' (hs.perm (by ac_rfl))⟩
theorem s_used' (pc : Nat) (m : Int) (L : List Win) (stg : Option (Int × List Win)) (n place : Int) (U : Nat → Int) (part : Int) (g w : World) (R : HP) (h : Sat g w (ckP pc m L stg n place U * R)) :
    Calls Try.prog 12 #[.pointer (some ⟨pc, 0, none⟩), .int .i64 part] w fun e w' => e = .returned (.int .i64 (if 0 ≤ part ∧ part < 8 then U part.toNat else 0)) ∧ w = w' := by
  obtain ⟨pt, fv, X, h1, -⟩ := h.ck
  exact s_used pc pt fv n place U part g w _ h1

deriving instance DecidableEq for Win
theorem awake_tab : tabF 3 [⟨1, 1, 2⟩] = [⟨1, 1, 2⟩] := by decide +kernel
theorem awake16 (g w : World) (R : HP) (h : Sat g w R) : Calls Try.prog 6 #[] w fun e w' => e = .returned (.bool true) ∧ Sat g w' R := by
  have h1 := h.pt_new (.cells #[.int .i64 1, .int .i64 1, .int .i64 2] 37)
  have hk : ∀ w' Q, Sat g w' (Q * (Ytjacbcephokbbaa.pt w.heap.size (.cells #[.int .i64 1, .int .i64 1, .int .i64 2] 37) * R)) → SlotsAt w' (some ⟨w.heap.size, 0, none⟩) [⟨1, 1, 2⟩] := fun w' Q hq => by
    have hh := (hq.perm (show _ = Ytjacbcephokbbaa.pt w.heap.size (.cells #[.int .i64 1, .int .i64 1, .int .i64 2] 37) * (Q * R) by ac_rfl)).pt_heap
    refine Or.inr ⟨_, _, rfl, fun i hi => ?_⟩
    obtain rfl : i = 0 := by simpa using hi
    simp [World.cell?, hh]
  have HK := Lib.hid hk
  clear hk
  go_enter Try.func6, Try.ntmps6
  go_wp2_with (fail)
  refine (s_table 3 _ 1 [⟨1, 1, 2⟩] g _ _ h1 HK.out (by decide) (by omega) (by omega)).mono ?_
  rintro e w2 ⟨pt, rfl, h2⟩
  rw [awake_tab] at h2
  go_wp2_with (fail)
  refine (s_clock pt 3 [⟨1, 1, 2⟩] g w2 _ h2).mono ?_
  rintro e w3 ⟨pc, rfl, h3⟩
  go_wp2_with (fail)
  refine (majornew_nil w3).mono ?_
  rintro e w' ⟨rfl, rfl⟩
  go_wp2_with (fail)
  refine (s_next pc 3 [⟨1, 1, 2⟩] none 0 0 (fun _ => 0) g w3 _ h3 (by omega) (by omega) (fun i hi => ⟨Int.le_refl _, Int.le_refl _⟩) (by omega) (by omega)).mono ?_
  rintro e w4 ⟨rfl, h4⟩
  rw [show atW [⟨1, 1, 2⟩] 0 = -1 by decide +kernel, show (([⟨1, 1, 2⟩] : List Win).any fun x => x.f == 0) = false by decide +kernel]
  simp only [turnT_none, turnS_none, show ((0 : Int) + 1) % 3 = 1 by decide, Int.zero_add] at h4
  have h5 := h4.pt_new (.cells #[.int .i64 0, .int .i64 0, .int .i64 (-1), .bool false] 31)
  have h6 := h5.swap
  clear h4 h5
  go_wp2_with (fail)
  refine (s_next pc 3 [⟨1, 1, 2⟩] none 1 1 _ g _ _ h6 (by omega) (by omega) (fun i hi => by unfold bump; dsimp only; split <;> omega) (by omega) (by omega)).mono ?_
  rintro e w5 ⟨rfl, h7⟩
  rw [show atW [⟨1, 1, 2⟩] 1 = 1 by decide +kernel, show (([⟨1, 1, 2⟩] : List Win).any fun x => x.f == 1) = true by decide +kernel]
  simp only [turnT_none, turnS_none, show ((1 : Int) + 1) % 3 = 2 by decide, show atW [⟨1, 1, 2⟩] 0 = -1 by decide +kernel, show atW [⟨1, 1, 2⟩] 1 = 1 by decide +kernel] at h7
  have h8 := h7.pt_new (.cells #[.int .i64 1, .int .i64 1, .int .i64 1, .bool true] 31)
  have h9 := h8.swap
  have k1 := tk_cells (n := 1) (place := 1) (part := 1) (first := true) h8
  have k2 := tk_cells (n := 0) (place := 0) (part := -1) (first := false) h8.up3
  obtain ⟨a0, a1, a2, a3⟩ := k1
  obtain ⟨b0, b1, b2, b3⟩ := k2
  have H9 := Lib.hid h9
  clear h7 h8 h9 h6
  go_wp2_with (fail)
  refine (s_used' pc 3 [⟨1, 1, 2⟩] none _ _ _ 1 g _ _ H9.out).mono ?_
  rintro e w6 ⟨rfl, rfl⟩
  rw [show (if (0 : Int) ≤ 1 ∧ (1 : Int) < 8 then bump (bump (fun _ => 0) (-1)) 1 (1 : Int).toNat else 0) = 1 by decide +kernel]
  go_wp2_with (fail)
  go_ret
  exact ⟨rfl, H9.out.right.right.right.right.right⟩

end Go.Proofs.Ytjacbcephokbbaa
