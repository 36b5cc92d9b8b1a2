/- awake of law04: true. -/
import Derived.Test.YtoiiblajgkdabaaLaw04
namespace Go.Proofs.Ytoiiblajgkdabaa
set_option linter.unusedSimpArgs false
set_option linter.unusedVariables false
set_option maxRecDepth 100000
open Go.RowKit
set_option maxHeartbeats 4000000

theorem Sat.small {g w : World} {pb pm : Nat} {T : Nat → Prop} {H : List Blk} {R : HP} (h : Sat g w (midP pb pm T H * R)) : Small T := by
  obtain ⟨_, _, _, _, _, hs, _⟩ := h.mid
  exact hs
/-- Left, as the number of the free frames. -/
theorem s_left' (pb pm : Nat) (T : Nat → Prop) (H : List Blk) (g w : World) (R : HP) (h : Sat g w (midP pb pm T H * R)) :
    Calls Try.prog 18 #[.pointer (some ⟨pb, 0, none⟩)] w fun e w' => e = .returned (.int .i64 (cnt T 256)) ∧ w = w' := by
  refine (s_left pb pm T H g w R h).mono fun e w' ⟨⟨F, hF, he⟩, hw⟩ => ⟨?_, hw⟩
  rw [he, sum_cnt _ T F (Nat.le_refl _) hF h.small]

theorem awake_one {g : World} {pb pm : Nat} {R : HP} {e : Ending} {w' : World} (h : AllocPost g pb pm (rangeT 1 8) [] 1 R e w') :
    e = .returned (.tuple #[.int .i64 2, .int .i64 0]) ∧ Sat g w' (midP pb pm (minusQ (rangeT 1 8) 1 1) [(2, 1)] * R) := by
  have c1 : QCan (rangeT 1 8) 1 1 := (awake_can 1 1 (by omega)).2 ⟨rfl, by omega⟩
  cases h with
  | no he hn hs => exact absurd c1 (hn 1 (by omega) (by omega) 1)
  | yes a k f hk hk8 hc hl hf hff he hs =>
    obtain ⟨rfl, h2⟩ := (awake_can a k hk8).1 hc
    have hk1 : k = 1 := by
      rcases Nat.lt_or_ge 1 k with h | h
      · exact absurd c1 (hl 1 (by omega) h 1)
      · omega
    subst hk1
    subst hff
    exact ⟨he, hs⟩
theorem awake_two {g : World} {pb pm : Nat} {R : HP} {e : Ending} {w' : World} (h : AllocPost g pb pm (minusQ (rangeT 1 8) 1 1) [(2, 1)] 1 R e w') :
    e = .returned (.tuple #[.int .i64 4, .int .i64 0]) ∧ Sat g w' (midP pb pm (minusQ (minusQ (rangeT 1 8) 1 1) 2 1) [(2, 1), (4, 1)] * R) := by
  have c1 : QCan (rangeT 1 8) 1 1 := (awake_can 1 1 (by omega)).2 ⟨rfl, by omega⟩
  have hcm := fun b j hj => can_minus (T := rangeT 1 8) (a := 1) (o := 1) (by omega) c1 b j hj
  have c2 : QCan (minusQ (rangeT 1 8) 1 1) 1 2 := (hcm 1 2 (by omega)).2 ⟨(awake_can 1 2 (by omega)).2 ⟨rfl, by omega⟩, by omega⟩
  cases h with
  | no he hn hs => exact absurd c2 (hn 2 (by omega) (by omega) 1)
  | yes a k f hk hk8 hc hl hf hff he hs =>
    obtain ⟨h1, h3⟩ := (hcm a k hk8).1 hc
    obtain ⟨rfl, h2⟩ := (awake_can a k hk8).1 h1
    have hk1 : k = 2 := by omega
    subst hk1
    subst hff
    exact ⟨he, hs⟩
theorem awake_left : cnt (minusQ (minusQ (rangeT 1 8) 1 1) 2 1) 256 = 3 := by
  have c1 : QCan (rangeT 1 8) 1 1 := (awake_can 1 1 (by omega)).2 ⟨rfl, by omega⟩
  have c2 : QCan (minusQ (rangeT 1 8) 1 1) 1 2 := (can_minus (by omega) c1 1 2 (by omega)).2 ⟨(awake_can 1 2 (by omega)).2 ⟨rfl, by omega⟩, by omega⟩
  have h0 : cnt (rangeT 1 8) 256 = 7 := cnt_int 1 7 256 (by omega)
  have h1 := cnt_minus (k := 256) c1.1 (by omega)
  have h2 := cnt_minus (T := minusQ (rangeT 1 8) 1 1) (a := 2) (o := 1) (k := 256) (full_up (d := 1) (b := 1) c2.1 rfl) (by omega)
  omega

theorem awake04 (g w : World) (R : HP) (h : Sat g w R) : Calls Try.prog 13 #[] w fun e w' => e = .returned (.bool true) ∧ Sat g w' R := by
  have H0 := Lib.hid (begun_yes 8 1 g w R h (by omega) (by omega) (by omega))
  go_enter Try.func13, Try.ntmps13
  go_wp2_with (fail)
  refine H0.out.mono ?_
  rintro e w1 ⟨pm, pb, rfl, S1⟩
  go_wp2_with (fail)
  refine (s_blocks pb pm _ _ g _ _ S1).mono ?_
  rintro e w2 ⟨L, hL, ⟨v, rfl, hrow⟩, hb2⟩
  obtain rfl := awake_blocks hL
  obtain ⟨a, c, rfl⟩ := own_slice hrow
  have S2 := S1.below hb2
  clear hrow hL S1
  go_wp2_with (fail)
  refine (s_alloc pb pm _ _ 1 g _ _ S2 (by omega) (by simp)).mono ?_
  intro e w3 hp
  obtain ⟨rfl, S3⟩ := awake_one hp
  clear hp S2
  go_wp2_with (fail)
  refine (s_alloc pb pm _ _ 1 g _ _ S3 (by omega) (fun x hx o hm => by
    simp at hm
    have : x = 2 := by omega
    subst this
    exact hx.2 rfl)).mono ?_
  intro e w4 hp
  obtain ⟨rfl, S4⟩ := awake_two hp
  clear hp S3
  go_wp2_with (fail)
  refine (bud_new_nil 0 _).mono ?_
  rintro e w5 ⟨rfl, rfl⟩
  go_wp2_with (fail)
  refine (s_left' pb pm _ _ g _ _ S4).mono ?_
  rintro e w6 ⟨rfl, rfl⟩
  rw [awake_left]
  go_wp2_with (fail)
  go_ret
  exact ⟨rfl, S4.right.right⟩

end Go.Proofs.Ytoiiblajgkdabaa
