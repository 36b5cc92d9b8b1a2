/- For every input the law SlotsApart returns true and leaves each argument as it was; math/bits's table stands as the program's text lays it. -/
import Derived.Test.YtjacbcephokbbaaDoorOpen
import Derived.Test.YtjacbcephokbbaaDoorFrameL
import Derived.Test.YtjacbcephokbbaaDoorOpen15
import Derived.Test.YtjacbcephokbbaaDoorLawSlotsApart
namespace Go.Proofs.YtjacbcephokbbaaDoor
set_option linter.unusedSimpArgs false
set_option linter.unusedVariables false
set_option maxRecDepth 100000
open Go.ChangeShapes Go.WideShapes Go.ChangeAt Go.RowKit

theorem slotsApart_row : LawWalkL 4 Tryd.f4 := by
  intro H enc W base vs ds ps hval hA hT
  rw [Tryd.params4] at hval hA
  obtain ⟨v0, vs0, d0, ds0, p0, q0, rfl, rfl, rfl, h0, r0⟩ := trodAll_cons hA
  obtain ⟨v1, vs1, d1, ds1, p1, q1, rfl, rfl, rfl, h1, r1⟩ := trodAll_cons r0
  obtain ⟨rfl, rfl, rfl⟩ := trodAll_nil r1
  obtain ⟨m, rfl, m0, m1⟩ := arg_int Tryd.underlying3 (hval 0 _ _ rfl rfl)
  obtain ⟨a1, len1, cap1, rfl⟩ := okWide_slice Tryd.underlying22 (hval 1 _ _ rfl rfl)
  obtain ⟨L, hL, hm, hb⟩ := ops4_open h1
  exact apart15 m a1 len1 cap1 L W hL hT hm hb

set_option maxRecDepth 100000 in
theorem slotsApart_lifted (os : Os) (started : os.Started) (H : Type) (enc : TypeId × Value → H) :
    ReturnsInHanded {} Tryd.checked os 4 .any (fun w args => (Rows.slotsApartSpec.pre enc Tryd.prog Tryd.f4 [] false w args ∧ laidMetH Tryd.prog laid1 w) ∧ sizedMet enc Tryd.prog Tryd.f4 (OpenSpec.ofChange Rows.slotsApartSpec) false w args) (Rows.slotsApartSpec.post enc Tryd.prog Tryd.f4 false true false false) :=
  card_lifted (s := Rows.slotsApartSpec) Tryd.func4 (by kernel_rfl) (by kernel_rfl) (of_decide_eq_true (by kernel_rfl)) rfl (fun H ds h => by
      match ds, h with
      | [_, _], _ => rfl) slotsApart_row os started H enc
    (ChangeSpec.witness_shaped (enc := enc) (C := Tryd.checked) (os := os) (X := fun w _ => laidMetH Tryd.prog laid1 w) false (World.doorLaid Tryd.prog 400 os) #[.int .i64 0, .slice none 0 0] 8 rfl (World.shaped_of_RefB (by kernel_rfl) (by kernel_rfl)) (by kernel_rfl) (by kernel_rfl) (by kernel_rfl) (door_met os _))

set_option maxRecDepth 100000 in
theorem slotsApart_over : Rows.SlotsApartSaid :=
  OpenClaim.holds_of_wide 4 Tryd.f4 rfl rfl rfl rfl rfl rfl rfl ⟨rfl, rfl, rfl, rfl, rfl⟩ rfl rfl rfl rfl rfl (by kernel_rfl) Tryd.func4 (by kernel_rfl)
    (of_decide_eq_true (by kernel_rfl)) (by unfold Func.isWrapper; first | (rw [if_pos (by decide +kernel)]; kernel_rfl) | (rw [if_neg (by decide +kernel)]; exact ⟨rfl, rfl⟩))
    (fun os started H enc _ => slotsApart_lifted os started H enc)

set_option maxRecDepth 100000 in
theorem slotsApart_holds : Rows.SlotsApartCardSaid :=
  Claim7.holds_tied_plain_at .later [] [.data] true _ false
    slotsApart_over (fun _ h => by cases h) (by kernel_rfl) (fun _ h => by cases h) slotsApart_row_tie rfl ⟨rfl, rfl⟩ (by kernel_rfl) rfl
    (fun f fn hf hfn => by
      obtain rfl : f = 4 := Option.some.inj ((show Tryd.prog.funcNamed "trunnion/trunnionlaw15.SlotsApart" = some 4 by kernel_rfl).symm.trans hf) |>.symm
      obtain rfl : fn = Tryd.f4 := (Option.some.inj (Tryd.func4.symm.trans hfn)).symm
      exact ⟨by kernel_rfl, fun j t ht => by
        rw [Tryd.params4] at ht
        have hm : t ∈ [3, 22] := by simpa using Array.mem_of_getElem? ht
        have hall : ([3, 22].all fun u => !Tryd.prog.wantsStandIn u) = true := by kernel_rfl
        exact (show Tryd.prog.wantsStandIn t = false by simpa using List.all_eq_true.1 hall t hm)⟩)
    (by kernel_rfl)
#print axioms slotsApart_holds

end Go.Proofs.YtjacbcephokbbaaDoor
