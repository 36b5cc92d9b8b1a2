/- What the functions of package trunnionref09 return and write, by walks over their text. -/
import Derived.Test.YteehghjdifbjbaaTlb2
namespace Go.Proofs.Yteehghjdifbjbaa
set_option linter.unusedSimpArgs false
set_option linter.unusedVariables false
set_option maxRecDepth 100000
open Go.RowKit
set_option maxHeartbeats 4000000

/-- The reference's buffer, at pr: eight lines, and which are there. -/
structure R9In (w : World) (pr : Nat) (M : Nat → Ln) (I : Nat → Bool) : Prop where
  c0 : ∀ i, i < 8 → w.cell? ⟨pr, i * 4, none⟩ = some (.int .i64 (M i).a)
  c1 : ∀ i, i < 8 → w.cell? ⟨pr, i * 4 + 1, none⟩ = some (.int .i64 (M i).p)
  c2 : ∀ i, i < 8 → w.cell? ⟨pr, i * 4 + 2, none⟩ = some (.int .i64 (M i).f)
  c3 : ∀ i, i < 8 → w.cell? ⟨pr, i * 4 + 3, none⟩ = some (.bool (M i).w)
  is_ : ∀ i, i < 8 → w.cell? ⟨pr, 32 + i, none⟩ = some (.bool (I i))
  free : ∀ j, j < 40 → w.frozen? ⟨pr, j, none⟩ = false
  lt : pr < w.heap.size
theorem R9In.heap {w w' : World} {pr : Nat} {M : Nat → Ln} {I : Nat → Bool} (h : R9In w pr M I) (e : w'.heap[pr]? = w.heap[pr]?) : R9In w' pr M I :=
  ⟨fun i hi => (cell_of_heap e _).trans (h.c0 i hi), fun i hi => (cell_of_heap e _).trans (h.c1 i hi), fun i hi => (cell_of_heap e _).trans (h.c2 i hi), fun i hi => (cell_of_heap e _).trans (h.c3 i hi),
   fun i hi => (cell_of_heap e _).trans (h.is_ i hi), fun i hi => (frozen_of_heap e _).trans (h.free i hi), by
    have := h.lt
    rcases Nat.lt_or_ge pr w'.heap.size with h' | h'
    · exact h'
    · rw [Array.getElem?_eq_none h', Array.getElem?_eq_getElem this] at e; cases e⟩
theorem R9In.below {w w' : World} {pr : Nat} {M : Nat → Ln} {I : Nat → Bool} (h : R9In w pr M I) (t : Below w.heap.size w w') : R9In w' pr M I := h.heap (t.block pr h.lt)
/-- The lines that are there. -/
def L9 (M : Nat → Ln) (I : Nat → Bool) : Nat → Option Ln := fun i => if I i then some (M i) else none
theorem isB_L9 (M : Nat → Ln) (I : Nat → Bool) (a p : Int) (k : Nat) : isB a p (L9 M I k) = (I k && ((M k).a == a) && ((M k).p == p)) := by
  unfold L9
  cases I k <;> simp [isB]

theorem r09_at (pr : Nat) (M : Nat → Ln) (I : Nat → Bool) (a p r : Int) (w : World) (h : R9In w pr M I) (hr : tAt (L9 M I) a p = r) :
    Calls Try.prog 56 #[.pointer (some ⟨pr, 0, none⟩), .int .i64 a, .int .i64 p] w fun e w' => e = .returned (.int .i64 r) ∧ w = w' := by
  have HR := Lib.hid hr
  clear hr
  go_enter Try.func56, Try.ntmps56
  go_wp2_with (fail)
  go_loop [7] (fun i => ∃ (k : Nat), k ≤ 8 ∧ i = .int .i64 k ∧ Hid (∀ j, j < k → isB a p (L9 M I j) = false)) (fun i => 8 - (intOf i).toNat)
  case atStart => exact ⟨0, by omega, rfl, Lib.hid (fun j hj => by omega)⟩
  case round =>
    obtain ⟨k, hk, rfl, HK⟩ := hrel
    by_cases hlt : k < 8
    · have g0 := h.c0 k hlt
      have g1 := h.c1 k hlt
      have gi := h.is_ k hlt
      have hT := isB_L9 M I a p k
      have no : isB a p (L9 M I k) = false → Hid (∀ j, j < k + 1 → isB a p (L9 M I j) = false) := fun hb => Lib.hid fun j hj => by
        by_cases e : j = k
        · rw [e]; exact hb
        · exact HK.out j (by omega)
      have yes : isB a p (L9 M I k) = true → r = k := fun hb => by
        rw [← HR.out]; unfold tAt
        rw [firstI_skip _ k hk HK.out]
        obtain ⟨q, hq⟩ : ∃ q, 8 - k = q + 1 := ⟨8 - k - 1, by omega⟩
        rw [hq]; simp only [firstI]; rw [if_pos hb]
      have NO := Lib.hid no
      have YES := Lib.hid yes
      clear no yes
      cases hx : I k
      · rw [hx] at gi hT
        have HT := NO.out (by rw [hT]; rfl)
        clear hT hx
        go_wp2_with (fail)
        go_round
        case rel => exact ⟨k + 1, by omega, by go_num, HT⟩
        case measure => simp [intOf]; omega
      · rw [hx] at gi hT
        cases hy : ((M k).a == a)
        · rw [hy] at hT
          have HT := NO.out (by rw [hT]; rfl)
          clear hT hx
          go_wp2_with (fail)
          go_round
          case rel => exact ⟨k + 1, by omega, by go_num, HT⟩
          case measure => simp [intOf]; omega
        · rw [hy] at hT
          cases hz : ((M k).p == p)
          · rw [hz] at hT
            have HT := NO.out (by rw [hT]; rfl)
            clear hT hx
            go_wp2_with (fail)
            go_round
            case rel => exact ⟨k + 1, by omega, by go_num, HT⟩
            case measure => simp [intOf]; omega
          · rw [hz] at hT
            have HT := Lib.hid (YES.out (by rw [hT]; rfl))
            clear hT hx
            go_wp2_with (fail)
            go_ret
            exact ⟨by rw [HT.out]; rfl, rfl⟩
    · obtain rfl : k = 8 := by omega
      have hf : tAt (L9 M I) a p = -1 := by
        unfold tAt
        rw [firstI_skip _ 8 (by omega) HK.out]; rfl
      have HF := Lib.hid (HR.out.symm.trans hf)
      clear hf
      go_wp2_with (fail)
      go_ret
      exact ⟨by rw [HF.out]; rfl, rfl⟩

theorem r09_find (pr : Nat) (M : Nat → Ln) (I : Nat → Bool) (a p : Int) (w : World) (h : R9In w pr M I) :
    Calls Try.prog 59 #[.pointer (some ⟨pr, 0, none⟩), .int .i64 a, .int .i64 p] w fun e w' => e = .returned (.tuple #[lnV (tFind (L9 M I) a p), .bool (tFind (L9 M I) a p).isSome]) ∧ Below w.heap.size w w' := by
  have h1 := h.below (w' := w.alloc (.cells #[.int .i64 0, .int .i64 0, .int .i64 0, .bool false] 41)) (by repeat (first | with_reducible exact Below.refl _ _ | with_reducible assumption | with_reducible refine below_drewN ?_ _ | with_reducible refine Below.alloc ?_ (by simp <;> omega) _))
  have hlt := h.lt
  rcases tAt_cases (L9 M I) a p with ⟨e1, e2⟩ | ⟨k, l, hk, e1, hl, rfl, rfl, e2⟩
  · rw [e2]
    go_enter Try.func59, Try.ntmps59
    go_wp2_with (fail)
    refine (r09_at pr M I _ _ _ _ h1 e1).mono ?_
    rintro e w1 ⟨rfl, rfl⟩
    go_wp2_with (fail)
    refine bodyPost_ret (v := .tuple #[.agg #[.int .i64 0, .int .i64 0, .int .i64 0, .bool false], .bool false]) (by simp [results, Try.results59, go_sem]) rfl ⟨rfl, ?_⟩
    repeat (first | with_reducible exact Below.refl _ _ | with_reducible assumption | with_reducible refine below_drewN ?_ _ | with_reducible refine Below.alloc ?_ (by simp <;> omega) _)
  · rw [e2]
    have g0 := h.c0 k hk
    have g1 := h.c1 k hk
    have g2 := h.c2 k hk
    have g3 := h.c3 k hk
    have hM : M k = l := by
      unfold L9 at hl
      split at hl
      · exact Option.some.inj hl
      · cases hl
    rw [hM] at g0 g1 g2 g3
    clear hM
    have hne : ¬ pr = w.heap.size := by omega
    go_enter Try.func59, Try.ntmps59
    go_wp2_with (fail)
    refine (r09_at pr M I _ _ _ _ h1 e1).mono ?_
    rintro e w1 ⟨rfl, rfl⟩
    go_wp2_with (fail)
    refine bodyPost_ret (v := .tuple #[.agg #[.int .i64 l.a, .int .i64 l.p, .int .i64 l.f, .bool l.w], .bool true]) (by simp [results, Try.results59, go_sem]) rfl ⟨rfl, ?_⟩
    repeat (first | with_reducible exact Below.refl _ _ | with_reducible assumption | with_reducible refine below_drewN ?_ _ | with_reducible refine Below.alloc ?_ (by simp <;> omega) _)

theorem R9In.clear {w : World} {pr : Nat} {M : Nat → Ln} {I : Nat → Bool} (h : R9In w pr M I) (k : Nat) (hk : k < 8) (b : Bool) : R9In (w.setCell ⟨pr, 32 + k, none⟩ (.bool b)) pr M (fun i => if i = k then b else I i) := by
  have hc := h.is_ k hk
  have hoth : ∀ i, i ≠ 32 + k → (w.setCell ⟨pr, 32 + k, none⟩ (.bool b)).cell? ⟨pr, i, none⟩ = w.cell? ⟨pr, i, none⟩ := fun i hi => by
    have : (⟨pr, i, none⟩ : Addr) ≠ ⟨pr, 32 + k, none⟩ := by simp [hi]
    simp [go_sem, hi, this]
  refine ⟨fun i hi => ?_, fun i hi => ?_, fun i hi => ?_, fun i hi => ?_, fun i hi => ?_, fun i hi => by simpa [go_sem] using h.free i hi, by have := h.lt; simpa using this⟩
  · rw [hoth _ (by omega)]; exact h.c0 i hi
  · rw [hoth _ (by omega)]; exact h.c1 i hi
  · rw [hoth _ (by omega)]; exact h.c2 i hi
  · rw [hoth _ (by omega)]; exact h.c3 i hi
  · by_cases e : i = k
    · subst e; simp [go_sem, hc]
    · rw [hoth _ (by omega), if_neg e]; exact h.is_ i hi

/-- Which are there still, when those of T among the first k have gone. -/
def dropI (T : Ln → Bool) (M : Nat → Ln) (I : Nat → Bool) (k : Nat) : Nat → Bool := fun i => if i < k then I i && !T (M i) else I i
theorem L9_drop (T : Ln → Bool) (M : Nat → Ln) (I : Nat → Bool) (k : Nat) : L9 M (dropI T M I k) = dropL T (L9 M I) k := by
  funext i
  simp only [L9, dropI, dropL]
  by_cases e : i < k
  · rcases Bool.eq_false_or_eq_true (I i) with hI | hI <;> rcases Bool.eq_false_or_eq_true (T (M i)) with hT | hT <;> simp [Option.filter, hT, hI, e]
  · simp [e]
theorem dropI_keep (T : Ln → Bool) (M : Nat → Ln) (I : Nat → Bool) (k : Nat) (h : (I k && T (M k)) = false) : dropI T M I (k + 1) = dropI T M I k := by
  funext i
  unfold dropI
  by_cases e : i = k
  · subst e
    rw [if_pos (by omega), if_neg (by omega)]
    cases hi : I i
    · rfl
    · rw [hi] at h; simp at h; simp [h]
  · by_cases e2 : i < k
    · rw [if_pos (by omega), if_pos e2]
    · rw [if_neg (by omega), if_neg e2]
theorem dropI_drop (T : Ln → Bool) (M : Nat → Ln) (I : Nat → Bool) (k : Nat) (h : (I k && T (M k)) = true) : dropI T M I (k + 1) = fun i => if i = k then false else dropI T M I k i := by
  funext i
  unfold dropI
  by_cases e : i = k
  · subst e
    rw [if_pos (by omega), if_pos rfl]
    simp at h; simp [h.2]
  · rw [if_neg e]
    by_cases e2 : i < k
    · rw [if_pos (by omega), if_pos e2]
    · rw [if_neg (by omega), if_neg e2]
theorem dropN_L9 (T : Ln → Bool) (M : Nat → Ln) (I : Nat → Bool) (k : Nat) : dropN T (L9 M I) (k + 1) = dropN T (L9 M I) k + (if (I k && T (M k)) = true then 1 else 0) := by
  have : ((L9 M I k).any T) = (I k && T (M k)) := by
    unfold L9; cases I k <;> simp
  simp only [dropN, this]

theorem r09_flush (pr : Nat) (M : Nat → Ln) (I : Nat → Bool) (asid : Int) (w : World) (h : R9In w pr M I) :
    Calls Try.prog 20 #[.pointer (some ⟨pr, 0, none⟩), .int .i64 asid] w fun e w' => e = .returned (.int .i64 (dropN (fun l => l.a == asid) (L9 M I) 8)) ∧ R9In w' pr M (dropI (fun l => l.a == asid) M I 8) ∧ Touch (· = pr) w w' := by
  obtain ⟨T, hT⟩ : ∃ T : Ln → Bool, T = fun l => l.a == asid := ⟨_, rfl⟩
  rw [← hT]
  have HT := Lib.hid hT
  clear hT
  go_enter Try.func20, Try.ntmps20
  go_wp2_with (fail)
  go_loopw [5, 6] (fun n i wr => ∃ (k : Nat), k ≤ 8 ∧ i = .int .i64 k ∧ n = .int .i64 (dropN T (L9 M I) k) ∧ R9In wr pr M (dropI T M I k) ∧ Touch (· = pr) w wr) (fun _ i _ => 8 - (intOf i).toNat)
  case atStart => exact ⟨0, by omega, rfl, rfl, h, Touch.refl _ _⟩
  case round =>
    obtain ⟨k, hk, rfl, rfl, hin, ht⟩ := hrel
    by_cases hlt : k < 8
    · have g0 := hin.c0 k hlt
      have gi := hin.is_ k hlt
      have hfz := hin.free (32 + k) (by omega)
      have hnn := dropN_le T (L9 M I) k
      have hI : dropI T M I k k = I k := by unfold dropI; rw [if_neg (by omega)]
      rw [hI] at gi
      clear hI
      have hN := dropN_L9 T M I k
      have hk1 := dropI_keep T M I k
      have hk2 := dropI_drop T M I k
      have hTk : T (M k) = ((M k).a == asid) := by rw [HT.out]
      cases hx : I k
      · rw [hx] at gi hN hk1
        have HN := Lib.hid hN
        have HD := Lib.hid (hk1 rfl)
        clear hN hk1 hk2 hTk hx
        go_wp2_with (fail)
        go_roundw
        case rel => exact ⟨k + 1, by omega, by go_num, by rw [HN.out]; rfl, by rw [HD.out]; exact hin, ht⟩
        case measure => simp [intOf]; omega
      · rw [hx] at gi hN hk1 hk2
        cases hy : T (M k)
        · rw [hy] at hN hk1
          have HN := Lib.hid hN
          have HD := Lib.hid (hk1 rfl)
          have hyy := hTk.symm.trans hy
          clear hN hk1 hk2 hTk hx hy
          go_wp2_with (fail)
          go_roundw
          case rel => exact ⟨k + 1, by omega, by go_num, by rw [HN.out]; rfl, by rw [HD.out]; exact hin, ht⟩
          case measure => simp [intOf]; omega
        · rw [hy] at hN hk2
          have HN := Lib.hid hN
          have HD := Lib.hid (hk2 rfl)
          have hyy := hTk.symm.trans hy
          clear hN hk1 hk2 hTk hx hy
          go_wp2_with (fail)
          go_roundw
          case rel => exact ⟨k + 1, by omega, by go_num, by rw [HN.out]; go_num, by rw [HD.out]; exact hin.clear k hlt false, Touch.setCell (S := (· = pr)) ht (Or.inl rfl) _⟩
          case measure => simp [intOf]; omega
    · obtain rfl : k = 8 := by omega
      go_wp2_with (fail)
      go_ret
      exact ⟨rfl, hin, ht⟩

theorem r09_lines (pr : Nat) (M : Nat → Ln) (I : Nat → Bool) (w : World) (h : R9In w pr M I) :
    Calls Try.prog 27 #[.pointer (some ⟨pr, 0, none⟩)] w (LinesPost w w.heap.size (linesK (L9 M I) 8)) := by
  obtain ⟨i0, hi, hz0, hz1, hz2⟩ := info_parts infoLine
  obtain ⟨B, hB⟩ : ∃ B, B = w.heap.size := ⟨_, rfl⟩
  have HB := Lib.hid hB
  have hBB : B ≤ w.heap.size := by omega
  have bw : Below B w w := Below.refl _ _
  rw [← hB]
  clear hB
  go_enter Try.func27, Try.ntmps27
  go_wp2_with (fail)
  go_loopw [3, 4] (fun v i wr => ∃ (k : Nat) (d : List Ln), k ≤ 8 ∧ i = .int .i64 k ∧ Hid (d = linesK (L9 M I) k) ∧ d.length ≤ k ∧ wr.ownsRow B 41 4 v d.length (lnsCells d) ∧ Below B w wr) (fun _ i _ => 8 - (intOf i).toNat)
  case atStart => exact ⟨0, [], by omega, rfl, Lib.hid rfl, by simp, World.ownsRow_nil _ _ _ _, bw⟩
  case round =>
    obtain ⟨k, d, hk, rfl, HD, hdl, hown, hb⟩ := hrel
    have hBw : B ≤ wr.heap.size := Nat.le_trans hBB hb.size
    have hin : R9In wr pr M I := h.below (by rw [← HB.out]; exact hb)
    by_cases hlt : k < 8
    · have g0 := hin.c0 k hlt
      have g1 := hin.c1 k hlt
      have g2 := hin.c2 k hlt
      have g3 := hin.c3 k hlt
      have gi := hin.is_ k hlt
      cases hx : I k
      · rw [hx] at gi
        have hd : d = linesK (L9 M I) (k + 1) := by rw [linesK_succ, HD.out]; simp [L9, hx]
        have HD' := Lib.hid hd
        clear hx hd
        go_wp2_with (fail)
        go_roundw
        case rel => exact ⟨k + 1, d, by omega, by go_num, HD', by omega, hown, hb⟩
        case measure => simp [intOf]; omega
      · rw [hx] at gi
        have hd : d ++ [M k] = linesK (L9 M I) (k + 1) := by rw [linesK_succ, HD.out]; simp [L9, hx]
        have HD' := Lib.hid hd
        clear hx hd
        go_wp2_with (at_builtin; refine wpList_append_own _ rfl _ _ 61 rfl B 41 i0 (.agg #[.int .i64 0, .int .i64 0, .int .i64 0, .bool false]) 4 32 Try.underlying61 hi hz0 hz1 hz2 rfl (by decide) _ _ _ rfl (hown.alloc _) ⟨wr.heap.size, 0, none⟩ 1 1 (lnCells (M k)) rfl rfl (four_new _ _ _ _ _ _) (fun x hx => by simp [lnCells] at hx; rcases hx with rfl | rfl | rfl | rfl <;> rfl) (by unfold maxLen; omega) (by omega) (by simp; omega) ?_; intro v' w3 hown' hgrow3 hnil3)
        rw [← lnsCells_snoc] at hown'
        have hb3 : Below B w w3 := Below.grown (hb.alloc (by omega) _) hgrow3 (by simp; omega) (fun j hj => (hown.lt _ hj).1)
        clear hown
        go_wp2_with (fail)
        go_roundw
        case rel => exact ⟨k + 1, d ++ [M k], by omega, by go_num, HD', by simp; omega, by simpa using hown', hb3⟩
        case measure => simp [intOf]; omega
    · obtain rfl : k = 8 := by omega
      go_wp2_with (fail)
      go_ret
      exact ⟨_, rfl, by rw [← HD.out]; exact hown, hb⟩

end Go.Proofs.Yteehghjdifbjbaa
