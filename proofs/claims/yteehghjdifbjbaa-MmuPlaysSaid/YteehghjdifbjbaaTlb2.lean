/- What (*Buffer).Lines of package tlb returns, by a walk over its text. -/
import Derived.Test.YteehghjdifbjbaaTlb
namespace Go.Proofs.Yteehghjdifbjbaa
set_option linter.unusedSimpArgs false
set_option linter.unusedVariables false
set_option maxRecDepth 100000
open Go.RowKit
set_option maxHeartbeats 4000000

/-! ### Lines -/
def lnCells (l : Ln) : List Value := [.int .i64 l.a, .int .i64 l.p, .int .i64 l.f, .bool l.w]
def lnsCells (l : List Ln) : List Value := l.flatMap lnCells
theorem lnsCells_length (l : List Ln) : (lnsCells l).length = 4 * l.length := by
  induction l with
  | nil => rfl
  | cons a l ih => simp only [lnsCells, List.flatMap_cons, List.length_append] at *; rw [ih]; simp [lnCells]; omega
theorem lnsCells_snoc (l : List Ln) (a : Ln) : lnsCells (l ++ [a]) = lnsCells l ++ lnCells a := by simp [lnsCells]
/-- The lines among the first k places. -/
def linesK (L : Nat → Option Ln) (k : Nat) : List Ln := (List.range k).filterMap L
theorem linesK_succ (L : Nat → Option Ln) (k : Nat) : linesK L (k + 1) = linesK L k ++ (L k).toList := by
  unfold linesK
  rw [List.range_succ, List.filterMap_append]
  cases h : L k <;> simp [h]
theorem linesK_le (L : Nat → Option Ln) (k : Nat) : (linesK L k).length ≤ k := by
  unfold linesK
  have := List.length_filterMap_le L (List.range k)
  simpa using this
theorem four_new (w : World) (a b c d : Value) (t : TypeId) : ∀ j u, [a, b, c, d][j]? = some u → (w.alloc (.cells #[a, b, c, d] t)).cell? ((⟨w.heap.size, 0, none⟩ : Addr).add j) = some u := by
  intro j u h
  match j, h with
  | 0, h => simp at h; subst h; simp [Addr.add, go_sem]
  | 1, h => simp at h; subst h; simp [Addr.add, go_sem]
  | 2, h => simp at h; subst h; simp [Addr.add, go_sem]
  | 3, h => simp at h; subst h; simp [Addr.add, go_sem]
  | j + 4, h => simp at h
theorem infoLine : (Try.prog.info? 41).map (fun i => (i.zero, i.size, i.bytes)) = some (some (.agg #[.int .i64 0, .int .i64 0, .int .i64 0, .bool false]), 4, 32) := by kernel_rfl
def LinesPost (w : World) (B : Nat) (l : List Ln) (e : Ending) (w' : World) : Prop := ∃ v, e = .returned v ∧ w'.ownsRow B 41 4 v l.length (lnsCells l) ∧ Below B w w'

theorem tlb_lines (pb : Nat) (lb : Nat → Nat) (L : Nat → Option Ln) (w : World) (h : TlbIn w pb lb L) :
    Calls Try.prog 26 #[.pointer (some ⟨pb, 0, none⟩)] w (LinesPost w w.heap.size (linesK L 8)) := by
  obtain ⟨i0, hi, hz0, hz1, hz2⟩ := info_parts infoLine
  have q0 := h.ptr 0 (by omega)
  have q1 := h.ptr 1 (by omega)
  have q2 := h.ptr 2 (by omega)
  have q3 := h.ptr 3 (by omega)
  have q4 := h.ptr 4 (by omega)
  have q5 := h.ptr 5 (by omega)
  have q6 := h.ptr 6 (by omega)
  have q7 := h.ptr 7 (by omega)
  obtain ⟨Q, hQ⟩ : ∃ Q, Q = ptrOf lb L := ⟨_, rfl⟩
  rw [← hQ] at q0 q1 q2 q3 q4 q5 q6 q7
  have HQ := Lib.hid hQ
  clear hQ
  obtain ⟨B, hB⟩ : ∃ B, B = w.heap.size := ⟨_, rfl⟩
  have HB := Lib.hid hB
  have hBB : B ≤ w.heap.size := by omega
  have bw : Below B w w := Below.refl _ _
  rw [← hB]
  clear hB
  go_enter Try.func26, Try.ntmps26
  go_wp2_with (fail)
  go_loopw [3, 10] (fun v i wr => ∃ (k : Nat) (d : List Ln), k ≤ 8 ∧ i = .int .i64 k ∧ Hid (d = linesK L k) ∧ d.length ≤ k ∧ wr.ownsRow B 41 4 v d.length (lnsCells d) ∧ Below B w wr) (fun _ i _ => 8 - (intOf i).toNat)
  case atStart => exact ⟨0, [], by omega, rfl, Lib.hid rfl, by simp, World.ownsRow_nil _ _ _ _, bw⟩
  case round =>
    obtain ⟨k, d, hk, rfl, HD, hdl, hown, hb⟩ := hrel
    have hBw : B ≤ wr.heap.size := Nat.le_trans hBB hb.size
    have hin : TlbIn wr pb lb L := h.below (by rw [← HB.out]; exact hb)
    by_cases hlt : k < 8
    · have hix := ptr_at Q k hlt
      have hle := linesK_le L k
      cases hl : L k with
      | none =>
        have hqk : Q k = none := by rw [HQ.out]; unfold ptrOf; rw [hl]; rfl
        rw [hqk] at hix
        have hd : d = linesK L (k + 1) := by rw [linesK_succ, hl, HD.out]; simp
        have HD' := Lib.hid hd
        clear hqk hl hd
        go_wp2_with (fail)
        go_roundw
        case rel => exact ⟨k + 1, d, by omega, by go_num, HD', by omega, hown, hb⟩
        case measure => simp [intOf]; omega
      | some l =>
        have hqk : Q k = some ⟨lb k, 0, none⟩ := by rw [HQ.out]; unfold ptrOf; rw [hl]; rfl
        rw [hqk] at hix
        obtain ⟨s1, s2, s3, s4, s5, s6, s7⟩ := hin.some_ k l hlt hl
        have hd : d ++ [l] = linesK L (k + 1) := by rw [linesK_succ, hl, HD.out]; rfl
        have HD' := Lib.hid hd
        clear hqk hl hd s1
        go_wp2_with (at_builtin; refine wpList_append_own _ rfl _ _ 61 rfl B 41 i0 (.agg #[.int .i64 0, .int .i64 0, .int .i64 0, .bool false]) 4 32 Try.underlying61 hi hz0 hz1 hz2 rfl (by decide) _ _ _ rfl (hown.alloc _) ⟨wr.heap.size, 0, none⟩ 1 1 (lnCells l) rfl rfl (four_new _ _ _ _ _ _) (fun x hx => by simp [lnCells] at hx; rcases hx with rfl | rfl | rfl | rfl <;> rfl) (by unfold maxLen; omega) (by omega) (by simp; omega) ?_; intro v' w3 hown' hgrow3 hnil3)
        rw [← lnsCells_snoc] at hown'
        have hb3 : Below B w w3 := Below.grown (hb.alloc (by omega) _) hgrow3 (by simp; omega) (fun j hj => (hown.lt _ hj).1)
        clear hown
        go_wp2_with (fail)
        go_roundw
        case rel => exact ⟨k + 1, d ++ [l], by omega, by go_num, HD', by simp; omega, by simpa using hown', hb3⟩
        case measure => simp [intOf]; omega
    · obtain rfl : k = 8 := by omega
      go_wp2_with (fail)
      go_ret
      exact ⟨_, rfl, by rw [← HD.out]; exact hown, hb⟩


end Go.Proofs.Yteehghjdifbjbaa
