/- begun and awake of law04. -/
import Derived.Test.YtoiiblajgkdabaaBudInv
import Derived.Test.YtoiiblajgkdabaaBud10
namespace Go.Proofs.Ytoiiblajgkdabaa
set_option linter.unusedSimpArgs false
set_option linter.unusedVariables false
set_option maxRecDepth 100000
open Go.RowKit
set_option maxHeartbeats 4000000

theorem begun_no (frames r : Int) (w : World) (h : ¬ (1 ≤ frames ∧ frames ≤ 256 ∧ 0 ≤ r ∧ r ≤ frames)) :
    Calls Try.prog 14 #[.int .i64 frames, .int .i64 r] w fun e w' => e = .returned (.tuple #[.pointer none, .pointer none]) ∧ Below w.heap.size w w' := by
  by_cases hf : 1 ≤ frames ∧ frames ≤ 256
  · have hr : r < 0 ∨ (frames.toNat : Int) < r := by omega
    have HN := Lib.hid (new_yes frames w hf.1 hf.2)
    go_enter Try.func14, Try.ntmps14
    go_wp2_with (fail)
    refine HN.out.mono ?_
    rintro e w1 ⟨pm, bk, rfl, hm, h1, h2, hb⟩
    have S1 : Sat w w1 (memP pm frames.toNat (fun _ => 0) * whole w) := Sat.mem_new (Sat.start w) hb hm h1 h2
    go_wp2_with (fail)
    refine (bud_new_no pm frames.toNat (fun _ => 0) r _ _ _ S1 hr).mono ?_
    rintro e w2 ⟨rfl, rfl⟩
    go_wp2_with (fail)
    go_ret2
    exact ⟨rfl, hb⟩
  · have HN := Lib.hid (new_no frames w hf)
    go_enter Try.func14, Try.ntmps14
    go_wp2_with (fail)
    refine HN.out.mono ?_
    rintro e w1 ⟨rfl, rfl⟩
    go_wp2_with (fail)
    refine (bud_new_nil r _).mono ?_
    rintro e w2 ⟨rfl, rfl⟩
    go_wp2_with (fail)
    go_ret2
    exact ⟨rfl, Below.refl _ _⟩
theorem begun_yes (n r : Nat) (g w : World) (R : HP) (h : Sat g w R) (h1 : 1 ≤ n) (h2 : n ≤ 256) (h3 : r ≤ n) :
    Calls Try.prog 14 #[.int .i64 n, .int .i64 r] w fun e w' => ∃ pm pb, e = .returned (.tuple #[.pointer (some ⟨pm, 0, none⟩), .pointer (some ⟨pb, 0, none⟩)]) ∧ Sat g w' (midP pb pm (rangeT r n) [] * (memP pm n (fun _ => 0) * R)) := by
  have HN := Lib.hid (new_yes n w (by omega) (by omega))
  go_enter Try.func14, Try.ntmps14
  go_wp2_with (fail)
  refine HN.out.mono ?_
  rintro e w1 ⟨pm, bk, rfl, hm, h4, h5, hb⟩
  have S1 : Sat g w1 (memP pm n (fun _ => 0) * R) := Sat.mem_new h hb hm h4 h5
  go_wp2_with (fail)
  refine (s_budnew pm n r (fun _ => 0) g _ _ S1 h3).mono ?_
  rintro e w2 ⟨pb, rfl, S2⟩
  go_wp2_with (fail)
  go_ret2
  exact ⟨pm, pb, rfl, S2⟩
/-- A block of a range of frames. -/
theorem full_range {r n a o : Nat} : QFull (rangeT r n) a o ↔ r ≤ a * 2 ^ o ∧ (a + 1) * 2 ^ o ≤ n := by
  have h0 := Nat.two_pow_pos o
  constructor
  · intro h
    have h1 := h (a * 2 ^ o) (in_block a o)
    have h2 := h (a * 2 ^ o + (2 ^ o - 1)) ((block_iff a o _).2 (by omega))
    unfold rangeT at h1 h2
    rw [Nat.add_mul]; omega
  · rintro ⟨h1, h2⟩ x hx
    have := (block_iff a o x).1 hx
    rw [Nat.add_mul] at h2
    unfold rangeT
    omega
theorem awake_can (a o : Nat) (ho : o ≤ 8) : QCan (rangeT 1 8) a o ↔ (a = 1 ∧ o ≤ 2) := by
  unfold QCan
  rw [full_range, full_range]
  have hh : o = 0 ∨ o = 1 ∨ o = 2 ∨ o = 3 ∨ o = 4 ∨ o = 5 ∨ o = 6 ∨ o = 7 ∨ o = 8 := by omega
  rcases hh with rfl | rfl | rfl | rfl | rfl | rfl | rfl | rfl | rfl <;> simp <;> omega
theorem awake_blocks {L : List Blk} (h : CanB (rangeT 1 8) L) : L = [(1, 0), (2, 1), (4, 2)] := by
  refine riseB_eq (fun x => ?_) h.1 (by unfold RiseB; simp)
  rw [h.2]
  constructor
  · rintro ⟨a, o, ho, rfl, hc⟩
    obtain ⟨rfl, h2⟩ := (awake_can a o ho).1 hc
    have hh : o = 0 ∨ o = 1 ∨ o = 2 := by omega
    rcases hh with rfl | rfl | rfl <;> simp
  · intro hx
    simp at hx
    rcases hx with rfl | rfl | rfl
    · exact ⟨1, 0, by omega, by simp, (awake_can 1 0 (by omega)).2 ⟨rfl, by omega⟩⟩
    · exact ⟨1, 1, by omega, by simp, (awake_can 1 1 (by omega)).2 ⟨rfl, by omega⟩⟩
    · exact ⟨1, 2, by omega, by simp, (awake_can 1 2 (by omega)).2 ⟨rfl, by omega⟩⟩

end Go.Proofs.Ytoiiblajgkdabaa
