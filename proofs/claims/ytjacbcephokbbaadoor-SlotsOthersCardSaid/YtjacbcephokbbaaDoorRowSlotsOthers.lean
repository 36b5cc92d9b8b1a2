/- For every input the law SlotsOthers returns true and leaves each argument as it was; math/bits's table stands as the program's text lays it. -/
import Derived.Test.YtjacbcephokbbaaDoorOpen
import Derived.Test.YtjacbcephokbbaaDoorFrameL
import Derived.Test.YtjacbcephokbbaaDoorOpen15
import Derived.Test.YtjacbcephokbbaaDoorLawSlotsOthers
namespace Go.Proofs.YtjacbcephokbbaaDoor
set_option linter.unusedSimpArgs false
set_option linter.unusedVariables false
set_option maxRecDepth 100000
open Go.ChangeShapes Go.WideShapes Go.ChangeAt Go.RowKit

theorem slotsOthers_row : LawWalkL 5 Tryd.f5 := by
  intro H enc W base vs ds ps hval hA hT
  rw [Tryd.params5] at hval hA
  obtain ⟨v0, vs0, d0, ds0, p0, q0, rfl, rfl, rfl, h0, r0⟩ := trodAll_cons hA
  obtain ⟨v1, vs1, d1, ds1, p1, q1, rfl, rfl, rfl, h1, r1⟩ := trodAll_cons r0
  obtain ⟨rfl, rfl, rfl⟩ := trodAll_nil r1
  obtain ⟨a0, len0, cap0, rfl⟩ := okWide_slice Tryd.underlying22 (hval 0 _ _ rfl rfl)
  obtain ⟨L, hL, hm, hb⟩ := ops4_open h0
  obtain ⟨l1_0, rfl, ok1_0⟩ := flat_open (ts := [3, 3, 3, 3]) (by kernel_rfl) (by kernel_rfl) (by kernel_rfl) (hval 1 _ _ rfl rfl)
  obtain ⟨_, l1_1, rfl, o1_0, ok1_1⟩ := okAll_cons ok1_0
  obtain ⟨d, rfl, d0, d1⟩ := cell_int Tryd.underlying3 o1_0
  obtain ⟨_, l1_2, rfl, o1_1, ok1_2⟩ := okAll_cons ok1_1
  obtain ⟨p, rfl, p0, p1⟩ := cell_int Tryd.underlying3 o1_1
  obtain ⟨_, l1_3, rfl, o1_2, ok1_3⟩ := okAll_cons ok1_2
  obtain ⟨f, rfl, f0, f1⟩ := cell_int Tryd.underlying3 o1_2
  obtain ⟨_, l1_4, rfl, o1_3, ok1_4⟩ := okAll_cons ok1_3
  obtain ⟨m, rfl, m0, m1⟩ := cell_int Tryd.underlying3 o1_3
  obtain rfl := okAll_nil ok1_4
  exact others15 a0 len0 cap0 d p f m L W hL hT hm hb m1

set_option maxRecDepth 100000 in
theorem slotsOthers_lifted (os : Os) (started : os.Started) (H : Type) (enc : TypeId × Value → H) :
    ReturnsInHanded {} Tryd.checked os 5 .any (fun w args => (Rows.slotsOthersSpec.pre enc Tryd.prog Tryd.f5 [] false w args ∧ laidMetH Tryd.prog laid1 w) ∧ sizedMet enc Tryd.prog Tryd.f5 (OpenSpec.ofChange Rows.slotsOthersSpec) false w args) (Rows.slotsOthersSpec.post enc Tryd.prog Tryd.f5 false true false false) :=
  card_lifted (s := Rows.slotsOthersSpec) Tryd.func5 (by kernel_rfl) (by kernel_rfl) (of_decide_eq_true (by kernel_rfl)) rfl (fun H ds h => by
      match ds, h with
      | [_, _], _ => rfl) slotsOthers_row os started H enc
    (ChangeSpec.witness_shaped (enc := enc) (C := Tryd.checked) (os := os) (X := fun w _ => laidMetH Tryd.prog laid1 w) false (World.doorLaid Tryd.prog 400 os) #[.slice none 0 0, .agg #[.int .i64 0, .int .i64 0, .int .i64 0, .int .i64 0]] 8 rfl (World.shaped_of_RefB (by kernel_rfl) (by kernel_rfl)) (by kernel_rfl) (by kernel_rfl) (by kernel_rfl) (door_met os _))

set_option maxRecDepth 100000 in
theorem slotsOthers_over : Rows.SlotsOthersSaid :=
  OpenClaim.holds_of_wide 5 Tryd.f5 rfl rfl rfl rfl rfl rfl rfl ⟨rfl, rfl, rfl, rfl, rfl⟩ rfl rfl rfl rfl rfl (by kernel_rfl) Tryd.func5 (by kernel_rfl)
    (of_decide_eq_true (by kernel_rfl)) (by unfold Func.isWrapper; first | (rw [if_pos (by decide +kernel)]; kernel_rfl) | (rw [if_neg (by decide +kernel)]; exact ⟨rfl, rfl⟩))
    (fun os started H enc _ => slotsOthers_lifted os started H enc)

set_option maxRecDepth 100000 in
theorem slotsOthers_holds : Rows.SlotsOthersCardSaid :=
  Claim7.holds_tied_plain_at .later [] [.data] true _ false
    slotsOthers_over (fun _ h => by cases h) (by kernel_rfl) (fun _ h => by cases h) slotsOthers_row_tie rfl ⟨rfl, rfl⟩ (by kernel_rfl) rfl
    (fun f fn hf hfn => by
      obtain rfl : f = 5 := Option.some.inj ((show Tryd.prog.funcNamed "trunnion/trunnionlaw15.SlotsOthers" = some 5 by kernel_rfl).symm.trans hf) |>.symm
      obtain rfl : fn = Tryd.f5 := (Option.some.inj (Tryd.func5.symm.trans hfn)).symm
      exact ⟨by kernel_rfl, fun j t ht => by
        rw [Tryd.params5] at ht
        have hm : t ∈ [22, 30] := by simpa using Array.mem_of_getElem? ht
        have hall : ([22, 30].all fun u => !Tryd.prog.wantsStandIn u) = true := by kernel_rfl
        exact (show Tryd.prog.wantsStandIn t = false by simpa using List.all_eq_true.1 hall t hm)⟩)
    (by kernel_rfl)
#print axioms slotsOthers_holds

end Go.Proofs.YtjacbcephokbbaaDoor
