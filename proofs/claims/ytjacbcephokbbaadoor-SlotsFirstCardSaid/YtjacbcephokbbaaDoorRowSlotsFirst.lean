/- For every input the law SlotsFirst returns true and leaves each argument as it was; math/bits's table stands as the program's text lays it. -/
import Derived.Test.YtjacbcephokbbaaDoorOpen
import Derived.Test.YtjacbcephokbbaaDoorFrameL
import Derived.Test.YtjacbcephokbbaaDoorOpen15
import Derived.Test.YtjacbcephokbbaaDoorLawSlotsFirst
namespace Go.Proofs.YtjacbcephokbbaaDoor
set_option linter.unusedSimpArgs false
set_option linter.unusedVariables false
set_option maxRecDepth 100000
open Go.ChangeShapes Go.WideShapes Go.ChangeAt Go.RowKit

theorem slotsFirst_row : LawWalkL 3 Tryd.f3 := by
  intro H enc W base vs ds ps hval hA hT
  rw [Tryd.params3] at hval hA
  obtain ⟨v0, vs0, d0, ds0, p0, q0, rfl, rfl, rfl, h0, r0⟩ := trodAll_cons hA
  obtain ⟨v1, vs1, d1, ds1, p1, q1, rfl, rfl, rfl, h1, r1⟩ := trodAll_cons r0
  obtain ⟨rfl, rfl, rfl⟩ := trodAll_nil r1
  obtain ⟨a0, len0, cap0, rfl⟩ := okWide_slice Tryd.underlying22 (hval 0 _ _ rfl rfl)
  obtain ⟨L, hL, hm, hb⟩ := ops4_open h0
  obtain ⟨m, rfl, m0, m1⟩ := arg_int Tryd.underlying3 (hval 1 _ _ rfl rfl)
  exact first15 a0 len0 cap0 m L W hL hT hm

set_option maxRecDepth 100000 in
theorem slotsFirst_lifted (os : Os) (started : os.Started) (H : Type) (enc : TypeId × Value → H) :
    ReturnsInHanded {} Tryd.checked os 3 .any (fun w args => (Rows.slotsFirstSpec.pre enc Tryd.prog Tryd.f3 [] false w args ∧ laidMetH Tryd.prog laid1 w) ∧ sizedMet enc Tryd.prog Tryd.f3 (OpenSpec.ofChange Rows.slotsFirstSpec) false w args) (Rows.slotsFirstSpec.post enc Tryd.prog Tryd.f3 false true false false) :=
  card_lifted (s := Rows.slotsFirstSpec) Tryd.func3 (by kernel_rfl) (by kernel_rfl) (of_decide_eq_true (by kernel_rfl)) rfl (fun H ds h => by
      match ds, h with
      | [_, _], _ => rfl) slotsFirst_row os started H enc
    (ChangeSpec.witness_shaped (enc := enc) (C := Tryd.checked) (os := os) (X := fun w _ => laidMetH Tryd.prog laid1 w) false (World.doorLaid Tryd.prog 400 os) #[.slice none 0 0, .int .i64 0] 8 rfl (World.shaped_of_RefB (by kernel_rfl) (by kernel_rfl)) (by kernel_rfl) (by kernel_rfl) (by kernel_rfl) (door_met os _))

set_option maxRecDepth 100000 in
theorem slotsFirst_over : Rows.SlotsFirstSaid :=
  OpenClaim.holds_of_wide 3 Tryd.f3 rfl rfl rfl rfl rfl rfl rfl ⟨rfl, rfl, rfl, rfl, rfl⟩ rfl rfl rfl rfl rfl (by kernel_rfl) Tryd.func3 (by kernel_rfl)
    (of_decide_eq_true (by kernel_rfl)) (by unfold Func.isWrapper; first | (rw [if_pos (by decide +kernel)]; kernel_rfl) | (rw [if_neg (by decide +kernel)]; exact ⟨rfl, rfl⟩))
    (fun os started H enc _ => slotsFirst_lifted os started H enc)

set_option maxRecDepth 100000 in
theorem slotsFirst_holds : Rows.SlotsFirstCardSaid :=
  Claim7.holds_tied_plain_at .later [] [.data] true _ false
    slotsFirst_over (fun _ h => by cases h) (by kernel_rfl) (fun _ h => by cases h) slotsFirst_row_tie rfl ⟨rfl, rfl⟩ (by kernel_rfl) rfl
    (fun f fn hf hfn => by
      obtain rfl : f = 3 := Option.some.inj ((show Tryd.prog.funcNamed "trunnion/trunnionlaw15.SlotsFirst" = some 3 by kernel_rfl).symm.trans hf) |>.symm
      obtain rfl : fn = Tryd.f3 := (Option.some.inj (Tryd.func3.symm.trans hfn)).symm
      exact ⟨by kernel_rfl, fun j t ht => by
        rw [Tryd.params3] at ht
        have hm : t ∈ [22, 3] := by simpa using Array.mem_of_getElem? ht
        have hall : ([22, 3].all fun u => !Tryd.prog.wantsStandIn u) = true := by kernel_rfl
        exact (show Tryd.prog.wantsStandIn t = false by simpa using List.all_eq_true.1 hall t hm)⟩)
    (by kernel_rfl)
#print axioms slotsFirst_holds

end Go.Proofs.YtjacbcephokbbaaDoor
