/- For every input the law SlotsBack returns true and leaves each argument as it was; math/bits's table stands as the program's text lays it. -/
import Derived.Test.YtjacbcephokbbaaDoorOpen
import Derived.Test.YtjacbcephokbbaaDoorFrameL
import Derived.Test.YtjacbcephokbbaaDoorOpen15
import Derived.Test.YtjacbcephokbbaaDoorLawSlotsBack
namespace Go.Proofs.YtjacbcephokbbaaDoor
set_option linter.unusedSimpArgs false
set_option linter.unusedVariables false
set_option maxRecDepth 100000
open Go.ChangeShapes Go.WideShapes Go.ChangeAt Go.RowKit

theorem slotsBack_row : LawWalkL 6 Tryd.f6 := by
  intro H enc W base vs ds ps hval hA hT
  rw [Tryd.params6] at hval hA
  obtain ⟨v0, vs0, d0, ds0, p0, q0, rfl, rfl, rfl, h0, r0⟩ := trodAll_cons hA
  obtain ⟨v1, vs1, d1, ds1, p1, q1, rfl, rfl, rfl, h1, r1⟩ := trodAll_cons r0
  obtain ⟨v2, vs2, d2, ds2, p2, q2, rfl, rfl, rfl, h2, r2⟩ := trodAll_cons r1
  obtain ⟨rfl, rfl, rfl⟩ := trodAll_nil r2
  obtain ⟨a0, len0, cap0, rfl⟩ := okWide_slice Tryd.underlying22 (hval 0 _ _ rfl rfl)
  obtain ⟨L, hL, hm, hb⟩ := ops4_open h0
  obtain ⟨m, rfl, m0, m1⟩ := arg_int Tryd.underlying3 (hval 1 _ _ rfl rfl)
  obtain ⟨t, rfl, t0, t1⟩ := arg_int Tryd.underlying3 (hval 2 _ _ rfl rfl)
  exact back15 a0 len0 cap0 m t L W hL hT hm hb m1

set_option maxRecDepth 100000 in
theorem slotsBack_lifted (os : Os) (started : os.Started) (H : Type) (enc : TypeId × Value → H) :
    ReturnsInHanded {} Tryd.checked os 6 .any (fun w args => (Rows.slotsBackSpec.pre enc Tryd.prog Tryd.f6 [] false w args ∧ laidMetH Tryd.prog laid1 w) ∧ sizedMet enc Tryd.prog Tryd.f6 (OpenSpec.ofChange Rows.slotsBackSpec) false w args) (Rows.slotsBackSpec.post enc Tryd.prog Tryd.f6 false true false false) :=
  card_lifted (s := Rows.slotsBackSpec) Tryd.func6 (by kernel_rfl) (by kernel_rfl) (of_decide_eq_true (by kernel_rfl)) rfl (fun H ds h => by
      match ds, h with
      | [_, _, _], _ => rfl) slotsBack_row os started H enc
    (ChangeSpec.witness_shaped (enc := enc) (C := Tryd.checked) (os := os) (X := fun w _ => laidMetH Tryd.prog laid1 w) false (World.doorLaid Tryd.prog 400 os) #[.slice none 0 0, .int .i64 0, .int .i64 0] 8 rfl (World.shaped_of_RefB (by kernel_rfl) (by kernel_rfl)) (by kernel_rfl) (by kernel_rfl) (by kernel_rfl) (door_met os _))

set_option maxRecDepth 100000 in
theorem slotsBack_over : Rows.SlotsBackSaid :=
  OpenClaim.holds_of_wide 6 Tryd.f6 rfl rfl rfl rfl rfl rfl rfl ⟨rfl, rfl, rfl, rfl, rfl⟩ rfl rfl rfl rfl rfl (by kernel_rfl) Tryd.func6 (by kernel_rfl)
    (of_decide_eq_true (by kernel_rfl)) (by unfold Func.isWrapper; first | (rw [if_pos (by decide +kernel)]; kernel_rfl) | (rw [if_neg (by decide +kernel)]; exact ⟨rfl, rfl⟩))
    (fun os started H enc _ => slotsBack_lifted os started H enc)

set_option maxRecDepth 100000 in
theorem slotsBack_holds : Rows.SlotsBackCardSaid :=
  Claim7.holds_tied_plain_at .later [] [.data] true _ false
    slotsBack_over (fun _ h => by cases h) (by kernel_rfl) (fun _ h => by cases h) slotsBack_row_tie rfl ⟨rfl, rfl⟩ (by kernel_rfl) rfl
    (fun f fn hf hfn => by
      obtain rfl : f = 6 := Option.some.inj ((show Tryd.prog.funcNamed "trunnion/trunnionlaw15.SlotsBack" = some 6 by kernel_rfl).symm.trans hf) |>.symm
      obtain rfl : fn = Tryd.f6 := (Option.some.inj (Tryd.func6.symm.trans hfn)).symm
      exact ⟨by kernel_rfl, fun j t ht => by
        rw [Tryd.params6] at ht
        have hm : t ∈ [22, 3, 3] := by simpa using Array.mem_of_getElem? ht
        have hall : ([22, 3, 3].all fun u => !Tryd.prog.wantsStandIn u) = true := by kernel_rfl
        exact (show Tryd.prog.wantsStandIn t = false by simpa using List.all_eq_true.1 hall t hm)⟩)
    (by kernel_rfl)
#print axioms slotsBack_holds

end Go.Proofs.YtjacbcephokbbaaDoor
