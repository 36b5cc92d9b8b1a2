/- Part 3 of the proofs: EntryWord, EntryOf, Walk. -/
import Derived.Test.YteehghjdifbjbaaQ2
import Derived.Test.YteehghjdifbjbaaQ1
namespace Go.Proofs.Yteehghjdifbjbaa
set_option linter.unusedSimpArgs false
set_option linter.unusedVariables false
set_option maxRecDepth 100000
open Go.RowKit

set_option maxHeartbeats 4000000 in
theorem word_yes (v wr tb : Bool) (fr : Int) (w : World) (h : rightB v wr tb fr = true) :
    Calls Try.prog 48 #[.agg #[.bool v, .bool wr, .bool tb, .int .i64 fr]] w fun e w' => e = .returned (.tuple #[.int .u64 (wordI v wr tb fr), .int .i64 0]) ∧ Below w.heap.size w w' := by
  obtain ⟨hfr0, hfr1⟩ := right_bd h
  have hv := flag_bd v
  have hwr := flag_bd wr
  have htb := flag_bd tb
  have hw0 : IntKind.u64.wrap fr = fr := u64_in' _ (by omega) (by omega)
  have i0 : ∀ w, (Instr.index 148 (.agg #[.int .i64 0, .int .i64 1, .int .i64 1, .int .i64 1, .int .i64 2, .int .i64 1, .int .i64 8, .int .i64 8]) (.int .i64 0)).run Try.prog w = .ok (.agg #[.int .i64 0, .int .i64 1]) w := fun _ => by kernel_rfl
  have i1 : ∀ w, (Instr.index 148 (.agg #[.int .i64 0, .int .i64 1, .int .i64 1, .int .i64 1, .int .i64 2, .int .i64 1, .int .i64 8, .int .i64 8]) (.int .i64 1)).run Try.prog w = .ok (.agg #[.int .i64 1, .int .i64 1]) w := fun _ => by kernel_rfl
  have i2 : ∀ w, (Instr.index 148 (.agg #[.int .i64 0, .int .i64 1, .int .i64 1, .int .i64 1, .int .i64 2, .int .i64 1, .int .i64 8, .int .i64 8]) (.int .i64 2)).run Try.prog w = .ok (.agg #[.int .i64 2, .int .i64 1]) w := fun _ => by kernel_rfl
  have i3 : ∀ w, (Instr.index 148 (.agg #[.int .i64 0, .int .i64 1, .int .i64 1, .int .i64 1, .int .i64 2, .int .i64 1, .int .i64 8, .int .i64 8]) (.int .i64 3)).run Try.prog w = .ok (.agg #[.int .i64 8, .int .i64 8]) w := fun _ => by kernel_rfl
  go_enter Try.func48, Try.ntmps48
  go_wp2_with (first | (go_at_call 78; refine (right_any _ _ _ _ _).mono ?_; rintro e w' ⟨rfl, o1, rfl⟩; rw [h]) | (go_at_call 75; refine (fields_any _).mono ?_; rintro e w1 ⟨rfl, o2, rfl⟩))
  refine wp_loop_rounds 5 ?_
  rw [rounds_succ]
  go_wp2_with (fail)
  refine wp_region_held_drew (S := (fun w' => w'.cell? ⟨w.heap.size, 0, none⟩ = some (.bool v) ∧ w'.cell? ⟨w.heap.size, 1, none⟩ = some (.bool wr) ∧ w'.cell? ⟨w.heap.size, 2, none⟩ = some (.bool tb) ∧ w'.cell? ⟨w.heap.size, 3, none⟩ = some (.int .i64 fr))) (by kernel_rfl) ?_ (fun hHeld => ?_)
  · (try dsimp only); (simp [go_sem, World.cell?_alloc_past])
  refine wpAnyH_take (i := 0) (v := ?_) rfl (by kernel_rfl) (by kernel_rfl) (by kernel_rfl) (fun _ _ _ h => h) (Or.inl ⟨by rfl, ?_⟩) (by assumption) ?_
  rotate_left
  · (intro w hSw; (try dsimp only at hSw); go_simp; try (with_reducible rfl))
  (try simp only [Act.put, List.setIfInBounds_toArray, List.set_cons_zero, List.set_cons_succ])
  refine wpAnyH_take (i := 1) (v := ?_) rfl (by kernel_rfl) (by kernel_rfl) (by kernel_rfl) (fun _ _ _ h => h) (Or.inl ⟨by rfl, ?_⟩) (by assumption) ?_
  rotate_left
  · (intro w hSw; (try dsimp only at hSw); go_simp; try (with_reducible rfl))
  (try simp only [Act.put, List.setIfInBounds_toArray, List.set_cons_zero, List.set_cons_succ])
  refine wpAnyH_take (i := 3) (v := ?_) rfl (by kernel_rfl) (by kernel_rfl) (by kernel_rfl) (fun _ _ _ h => h) (Or.inl ⟨by rfl, ?_⟩) (by assumption) ?_
  rotate_left
  · (intro w hSw; (try dsimp only at hSw); go_simp; try (with_reducible rfl))
  (try simp only [Act.put, List.setIfInBounds_toArray, List.set_cons_zero, List.set_cons_succ])
  refine wpAnyH_take (i := 4) (v := ?_) rfl (by kernel_rfl) (by kernel_rfl) (by kernel_rfl) (fun _ _ _ h => h) (Or.inl ⟨by rfl, ?_⟩) (by assumption) ?_
  rotate_left
  · (intro w hSw; (try dsimp only at hSw); go_simp; try (with_reducible rfl))
  (try simp only [Act.put, List.setIfInBounds_toArray, List.set_cons_zero, List.set_cons_succ])
  refine wpAnyH_take (i := 6) (v := ?_) rfl (by kernel_rfl) (by kernel_rfl) (by kernel_rfl) (fun _ _ _ h => h) (Or.inl ⟨by rfl, ?_⟩) (by assumption) ?_
  rotate_left
  · (intro w hSw; (try dsimp only at hSw); go_simp; try (with_reducible rfl))
  (try simp only [Act.put, List.setIfInBounds_toArray, List.set_cons_zero, List.set_cons_succ])
  refine wpAnyH_take (i := 7) (v := ?_) rfl (by kernel_rfl) (by kernel_rfl) (by kernel_rfl) (fun _ _ _ h => h) (Or.inl ⟨by rfl, ?_⟩) (by assumption) ?_
  rotate_left
  · (intro w hSw; (try dsimp only at hSw); go_simp; try (with_reducible rfl))
  (try simp only [Act.put, List.setIfInBounds_toArray, List.set_cons_zero, List.set_cons_succ])
  refine wpAnyH_take (i := 9) (v := ?_) rfl (by kernel_rfl) (by kernel_rfl) (by kernel_rfl) (fun _ _ _ h => h) (Or.inl ⟨by rfl, ?_⟩) (by assumption) ?_
  rotate_left
  · (intro w hSw; (try dsimp only at hSw); go_simp; try (with_reducible rfl))
  (try simp only [Act.put, List.setIfInBounds_toArray, List.set_cons_zero, List.set_cons_succ])
  refine wpAnyH_take (i := 10) (v := ?_) rfl (by kernel_rfl) (by kernel_rfl) (by kernel_rfl) (fun _ _ _ h => h) (Or.inl ⟨by rfl, ?_⟩) (by assumption) ?_
  rotate_left
  · (intro w hSw; (try dsimp only at hSw); go_simp; try (with_reducible rfl))
  (try simp only [Act.put, List.setIfInBounds_toArray, List.set_cons_zero, List.set_cons_succ])
  refine wpAnyH_take (i := 11) (v := ?_) rfl (by kernel_rfl) (by kernel_rfl) (by kernel_rfl) (fun _ _ _ h => h) (Or.inl ⟨by rfl, ?_⟩) (by assumption) ?_
  rotate_left
  · (intro w hSw; (try dsimp only at hSw); go_simp; try (with_reducible rfl))
  (try simp only [Act.put, List.setIfInBounds_toArray, List.set_cons_zero, List.set_cons_succ])
  refine wpAnyH_take (i := 13) (v := ?_) rfl (by kernel_rfl) (by kernel_rfl) (by kernel_rfl) (fun _ _ _ h => h) (Or.inl ⟨by rfl, ?_⟩) (by assumption) ?_
  rotate_left
  · (intro w hSw; (try dsimp only at hSw); go_simp; try (with_reducible rfl))
  (try simp only [Act.put, List.setIfInBounds_toArray, List.set_cons_zero, List.set_cons_succ])
  refine wpAnyH_ready (rs := [2]) (by kernel_rfl) (by simp) ?_
  refine AllReadyH.cons rfl (fun K hK => ?_) AllReadyH.nil
  go_simp; go_at_call 79; refine (flag_any _ _).mono ?_; rintro e w' ⟨rfl, rfl⟩
  go_simp
  refine hK.out _ _ ?_ (fun hHeld => ?_)
  · (try dsimp only); (simp [go_sem, World.cell?_alloc_past])
  clear hK K
  (try simp only [Act.put, List.setIfInBounds_toArray, List.set_cons_zero, List.set_cons_succ])
  refine wpAnyH_ready (rs := [5]) (by kernel_rfl) (by simp) ?_
  refine AllReadyH.cons rfl (fun K hK => ?_) AllReadyH.nil
  go_simp; go_at_call 79; refine (flag_any _ _).mono ?_; rintro e w' ⟨rfl, rfl⟩
  go_simp
  refine hK.out _ _ ?_ (fun hHeld => ?_)
  · (try dsimp only); (simp [go_sem, World.cell?_alloc_past])
  clear hK K
  (try simp only [Act.put, List.setIfInBounds_toArray, List.set_cons_zero, List.set_cons_succ])
  refine wpAnyH_ready (rs := [8]) (by kernel_rfl) (by simp) ?_
  refine AllReadyH.cons rfl (fun K hK => ?_) AllReadyH.nil
  go_simp; go_at_call 79; refine (flag_any _ _).mono ?_; rintro e w' ⟨rfl, rfl⟩
  go_simp
  refine hK.out _ _ ?_ (fun hHeld => ?_)
  · (try dsimp only); (simp [go_sem, World.cell?_alloc_past])
  clear hK K
  (try simp only [Act.put, List.setIfInBounds_toArray, List.set_cons_zero, List.set_cons_succ])
  refine wpAnyH_ready (rs := [12]) (by kernel_rfl) (by simp) ?_
  refine AllReadyH.cons rfl (fun K hK => ?_) AllReadyH.nil
  go_simp
  refine hK.out _ _ ?_ (fun hHeld => ?_)
  · (try dsimp only); (simp [go_sem, World.cell?_alloc_past])
  clear hK K
  (try simp only [Act.put, List.setIfInBounds_toArray, List.set_cons_zero, List.set_cons_succ])
  refine wpAnyH_take (i := 14) (v := ?_) rfl (by kernel_rfl) (by kernel_rfl) (by kernel_rfl) (fun _ _ _ h => h) (Or.inl ⟨by rfl, ?_⟩) (by assumption) ?_
  rotate_left
  · (intro w hSw; (try dsimp only at hSw); go_simp; try (with_reducible rfl))
  (try simp only [Act.put, List.setIfInBounds_toArray, List.set_cons_zero, List.set_cons_succ])
  refine wpAnyH_ready (rs := [15]) (by kernel_rfl) (by simp) ?_
  refine AllReadyH.cons rfl (fun K hK => ?_) AllReadyH.nil
  go_simp
  refine hK.out _ _ ?_ (fun hHeld => ?_)
  · (try dsimp only); (simp [go_sem, World.cell?_alloc_past])
  clear hK K
  (try simp only [Act.put, List.setIfInBounds_toArray, List.set_cons_zero, List.set_cons_succ])
  refine wpAnyH_take (i := 16) (v := ?_) rfl (by kernel_rfl) (by kernel_rfl) (by kernel_rfl) (fun _ _ _ h => h) (Or.inl ⟨by rfl, ?_⟩) (by assumption) ?_
  rotate_left
  · (intro w hSw; (try dsimp only at hSw); go_simp; try (with_reducible rfl))
  (try simp only [Act.put, List.setIfInBounds_toArray, List.set_cons_zero, List.set_cons_succ])
  refine wpAnyH_done (by kernel_rfl) ?_ _
  go_wp2_with (fail)
  refine (put_yes _ _ _ _ _ (by omega) (by omega) (by omega) (by omega) (by omega) (by omega) (by first | (simp; omega) | omega)).mono ?_
  rintro e w2 ⟨rfl, n0, rfl⟩
  rw [word_p0]
  go_wp2_with (fail)
  rw [rounds_succ]
  go_wp2_with (fail)
  refine wp_region_held_drew (S := (fun w' => w'.cell? ⟨w.heap.size, 0, none⟩ = some (.bool v) ∧ w'.cell? ⟨w.heap.size, 1, none⟩ = some (.bool wr) ∧ w'.cell? ⟨w.heap.size, 2, none⟩ = some (.bool tb) ∧ w'.cell? ⟨w.heap.size, 3, none⟩ = some (.int .i64 fr))) (by kernel_rfl) ?_ (fun hHeld => ?_)
  · (try dsimp only); (simp [go_sem, World.cell?_alloc_past])
  refine wpAnyH_take (i := 0) (v := ?_) rfl (by kernel_rfl) (by kernel_rfl) (by kernel_rfl) (fun _ _ _ h => h) (Or.inl ⟨by rfl, ?_⟩) (by assumption) ?_
  rotate_left
  · (intro w hSw; (try dsimp only at hSw); go_simp; try (with_reducible rfl))
  (try simp only [Act.put, List.setIfInBounds_toArray, List.set_cons_zero, List.set_cons_succ])
  refine wpAnyH_take (i := 1) (v := ?_) rfl (by kernel_rfl) (by kernel_rfl) (by kernel_rfl) (fun _ _ _ h => h) (Or.inl ⟨by rfl, ?_⟩) (by assumption) ?_
  rotate_left
  · (intro w hSw; (try dsimp only at hSw); go_simp; try (with_reducible rfl))
  (try simp only [Act.put, List.setIfInBounds_toArray, List.set_cons_zero, List.set_cons_succ])
  refine wpAnyH_take (i := 3) (v := ?_) rfl (by kernel_rfl) (by kernel_rfl) (by kernel_rfl) (fun _ _ _ h => h) (Or.inl ⟨by rfl, ?_⟩) (by assumption) ?_
  rotate_left
  · (intro w hSw; (try dsimp only at hSw); go_simp; try (with_reducible rfl))
  (try simp only [Act.put, List.setIfInBounds_toArray, List.set_cons_zero, List.set_cons_succ])
  refine wpAnyH_take (i := 4) (v := ?_) rfl (by kernel_rfl) (by kernel_rfl) (by kernel_rfl) (fun _ _ _ h => h) (Or.inl ⟨by rfl, ?_⟩) (by assumption) ?_
  rotate_left
  · (intro w hSw; (try dsimp only at hSw); go_simp; try (with_reducible rfl))
  (try simp only [Act.put, List.setIfInBounds_toArray, List.set_cons_zero, List.set_cons_succ])
  refine wpAnyH_take (i := 6) (v := ?_) rfl (by kernel_rfl) (by kernel_rfl) (by kernel_rfl) (fun _ _ _ h => h) (Or.inl ⟨by rfl, ?_⟩) (by assumption) ?_
  rotate_left
  · (intro w hSw; (try dsimp only at hSw); go_simp; try (with_reducible rfl))
  (try simp only [Act.put, List.setIfInBounds_toArray, List.set_cons_zero, List.set_cons_succ])
  refine wpAnyH_take (i := 7) (v := ?_) rfl (by kernel_rfl) (by kernel_rfl) (by kernel_rfl) (fun _ _ _ h => h) (Or.inl ⟨by rfl, ?_⟩) (by assumption) ?_
  rotate_left
  · (intro w hSw; (try dsimp only at hSw); go_simp; try (with_reducible rfl))
  (try simp only [Act.put, List.setIfInBounds_toArray, List.set_cons_zero, List.set_cons_succ])
  refine wpAnyH_take (i := 9) (v := ?_) rfl (by kernel_rfl) (by kernel_rfl) (by kernel_rfl) (fun _ _ _ h => h) (Or.inl ⟨by rfl, ?_⟩) (by assumption) ?_
  rotate_left
  · (intro w hSw; (try dsimp only at hSw); go_simp; try (with_reducible rfl))
  (try simp only [Act.put, List.setIfInBounds_toArray, List.set_cons_zero, List.set_cons_succ])
  refine wpAnyH_take (i := 10) (v := ?_) rfl (by kernel_rfl) (by kernel_rfl) (by kernel_rfl) (fun _ _ _ h => h) (Or.inl ⟨by rfl, ?_⟩) (by assumption) ?_
  rotate_left
  · (intro w hSw; (try dsimp only at hSw); go_simp; try (with_reducible rfl))
  (try simp only [Act.put, List.setIfInBounds_toArray, List.set_cons_zero, List.set_cons_succ])
  refine wpAnyH_take (i := 11) (v := ?_) rfl (by kernel_rfl) (by kernel_rfl) (by kernel_rfl) (fun _ _ _ h => h) (Or.inl ⟨by rfl, ?_⟩) (by assumption) ?_
  rotate_left
  · (intro w hSw; (try dsimp only at hSw); go_simp; try (with_reducible rfl))
  (try simp only [Act.put, List.setIfInBounds_toArray, List.set_cons_zero, List.set_cons_succ])
  refine wpAnyH_take (i := 13) (v := ?_) rfl (by kernel_rfl) (by kernel_rfl) (by kernel_rfl) (fun _ _ _ h => h) (Or.inl ⟨by rfl, ?_⟩) (by assumption) ?_
  rotate_left
  · (intro w hSw; (try dsimp only at hSw); go_simp; try (with_reducible rfl))
  (try simp only [Act.put, List.setIfInBounds_toArray, List.set_cons_zero, List.set_cons_succ])
  refine wpAnyH_ready (rs := [2]) (by kernel_rfl) (by simp) ?_
  refine AllReadyH.cons rfl (fun K hK => ?_) AllReadyH.nil
  go_simp; go_at_call 79; refine (flag_any _ _).mono ?_; rintro e w' ⟨rfl, rfl⟩
  go_simp
  refine hK.out _ _ ?_ (fun hHeld => ?_)
  · (try dsimp only); (simp [go_sem, World.cell?_alloc_past])
  clear hK K
  (try simp only [Act.put, List.setIfInBounds_toArray, List.set_cons_zero, List.set_cons_succ])
  refine wpAnyH_ready (rs := [5]) (by kernel_rfl) (by simp) ?_
  refine AllReadyH.cons rfl (fun K hK => ?_) AllReadyH.nil
  go_simp; go_at_call 79; refine (flag_any _ _).mono ?_; rintro e w' ⟨rfl, rfl⟩
  go_simp
  refine hK.out _ _ ?_ (fun hHeld => ?_)
  · (try dsimp only); (simp [go_sem, World.cell?_alloc_past])
  clear hK K
  (try simp only [Act.put, List.setIfInBounds_toArray, List.set_cons_zero, List.set_cons_succ])
  refine wpAnyH_ready (rs := [8]) (by kernel_rfl) (by simp) ?_
  refine AllReadyH.cons rfl (fun K hK => ?_) AllReadyH.nil
  go_simp; go_at_call 79; refine (flag_any _ _).mono ?_; rintro e w' ⟨rfl, rfl⟩
  go_simp
  refine hK.out _ _ ?_ (fun hHeld => ?_)
  · (try dsimp only); (simp [go_sem, World.cell?_alloc_past])
  clear hK K
  (try simp only [Act.put, List.setIfInBounds_toArray, List.set_cons_zero, List.set_cons_succ])
  refine wpAnyH_ready (rs := [12]) (by kernel_rfl) (by simp) ?_
  refine AllReadyH.cons rfl (fun K hK => ?_) AllReadyH.nil
  go_simp
  refine hK.out _ _ ?_ (fun hHeld => ?_)
  · (try dsimp only); (simp [go_sem, World.cell?_alloc_past])
  clear hK K
  (try simp only [Act.put, List.setIfInBounds_toArray, List.set_cons_zero, List.set_cons_succ])
  refine wpAnyH_take (i := 14) (v := ?_) rfl (by kernel_rfl) (by kernel_rfl) (by kernel_rfl) (fun _ _ _ h => h) (Or.inl ⟨by rfl, ?_⟩) (by assumption) ?_
  rotate_left
  · (intro w hSw; (try dsimp only at hSw); go_simp; try (with_reducible rfl))
  (try simp only [Act.put, List.setIfInBounds_toArray, List.set_cons_zero, List.set_cons_succ])
  refine wpAnyH_ready (rs := [15]) (by kernel_rfl) (by simp) ?_
  refine AllReadyH.cons rfl (fun K hK => ?_) AllReadyH.nil
  go_simp
  refine hK.out _ _ ?_ (fun hHeld => ?_)
  · (try dsimp only); (simp [go_sem, World.cell?_alloc_past])
  clear hK K
  (try simp only [Act.put, List.setIfInBounds_toArray, List.set_cons_zero, List.set_cons_succ])
  refine wpAnyH_take (i := 16) (v := ?_) rfl (by kernel_rfl) (by kernel_rfl) (by kernel_rfl) (fun _ _ _ h => h) (Or.inl ⟨by rfl, ?_⟩) (by assumption) ?_
  rotate_left
  · (intro w hSw; (try dsimp only at hSw); go_simp; try (with_reducible rfl))
  (try simp only [Act.put, List.setIfInBounds_toArray, List.set_cons_zero, List.set_cons_succ])
  refine wpAnyH_done (by kernel_rfl) ?_ _
  go_wp2_with (fail)
  refine (put_yes _ _ _ _ _ (by omega) (by omega) (by omega) (by omega) (by omega) (by omega) (by first | (simp; omega) | omega)).mono ?_
  rintro e w2 ⟨rfl, n1, rfl⟩
  rw [word_p1]
  go_wp2_with (fail)
  rw [rounds_succ]
  go_wp2_with (fail)
  refine wp_region_held_drew (S := (fun w' => w'.cell? ⟨w.heap.size, 0, none⟩ = some (.bool v) ∧ w'.cell? ⟨w.heap.size, 1, none⟩ = some (.bool wr) ∧ w'.cell? ⟨w.heap.size, 2, none⟩ = some (.bool tb) ∧ w'.cell? ⟨w.heap.size, 3, none⟩ = some (.int .i64 fr))) (by kernel_rfl) ?_ (fun hHeld => ?_)
  · (try dsimp only); (simp [go_sem, World.cell?_alloc_past])
  refine wpAnyH_take (i := 0) (v := ?_) rfl (by kernel_rfl) (by kernel_rfl) (by kernel_rfl) (fun _ _ _ h => h) (Or.inl ⟨by rfl, ?_⟩) (by assumption) ?_
  rotate_left
  · (intro w hSw; (try dsimp only at hSw); go_simp; try (with_reducible rfl))
  (try simp only [Act.put, List.setIfInBounds_toArray, List.set_cons_zero, List.set_cons_succ])
  refine wpAnyH_take (i := 1) (v := ?_) rfl (by kernel_rfl) (by kernel_rfl) (by kernel_rfl) (fun _ _ _ h => h) (Or.inl ⟨by rfl, ?_⟩) (by assumption) ?_
  rotate_left
  · (intro w hSw; (try dsimp only at hSw); go_simp; try (with_reducible rfl))
  (try simp only [Act.put, List.setIfInBounds_toArray, List.set_cons_zero, List.set_cons_succ])
  refine wpAnyH_take (i := 3) (v := ?_) rfl (by kernel_rfl) (by kernel_rfl) (by kernel_rfl) (fun _ _ _ h => h) (Or.inl ⟨by rfl, ?_⟩) (by assumption) ?_
  rotate_left
  · (intro w hSw; (try dsimp only at hSw); go_simp; try (with_reducible rfl))
  (try simp only [Act.put, List.setIfInBounds_toArray, List.set_cons_zero, List.set_cons_succ])
  refine wpAnyH_take (i := 4) (v := ?_) rfl (by kernel_rfl) (by kernel_rfl) (by kernel_rfl) (fun _ _ _ h => h) (Or.inl ⟨by rfl, ?_⟩) (by assumption) ?_
  rotate_left
  · (intro w hSw; (try dsimp only at hSw); go_simp; try (with_reducible rfl))
  (try simp only [Act.put, List.setIfInBounds_toArray, List.set_cons_zero, List.set_cons_succ])
  refine wpAnyH_take (i := 6) (v := ?_) rfl (by kernel_rfl) (by kernel_rfl) (by kernel_rfl) (fun _ _ _ h => h) (Or.inl ⟨by rfl, ?_⟩) (by assumption) ?_
  rotate_left
  · (intro w hSw; (try dsimp only at hSw); go_simp; try (with_reducible rfl))
  (try simp only [Act.put, List.setIfInBounds_toArray, List.set_cons_zero, List.set_cons_succ])
  refine wpAnyH_take (i := 7) (v := ?_) rfl (by kernel_rfl) (by kernel_rfl) (by kernel_rfl) (fun _ _ _ h => h) (Or.inl ⟨by rfl, ?_⟩) (by assumption) ?_
  rotate_left
  · (intro w hSw; (try dsimp only at hSw); go_simp; try (with_reducible rfl))
  (try simp only [Act.put, List.setIfInBounds_toArray, List.set_cons_zero, List.set_cons_succ])
  refine wpAnyH_take (i := 9) (v := ?_) rfl (by kernel_rfl) (by kernel_rfl) (by kernel_rfl) (fun _ _ _ h => h) (Or.inl ⟨by rfl, ?_⟩) (by assumption) ?_
  rotate_left
  · (intro w hSw; (try dsimp only at hSw); go_simp; try (with_reducible rfl))
  (try simp only [Act.put, List.setIfInBounds_toArray, List.set_cons_zero, List.set_cons_succ])
  refine wpAnyH_take (i := 10) (v := ?_) rfl (by kernel_rfl) (by kernel_rfl) (by kernel_rfl) (fun _ _ _ h => h) (Or.inl ⟨by rfl, ?_⟩) (by assumption) ?_
  rotate_left
  · (intro w hSw; (try dsimp only at hSw); go_simp; try (with_reducible rfl))
  (try simp only [Act.put, List.setIfInBounds_toArray, List.set_cons_zero, List.set_cons_succ])
  refine wpAnyH_take (i := 11) (v := ?_) rfl (by kernel_rfl) (by kernel_rfl) (by kernel_rfl) (fun _ _ _ h => h) (Or.inl ⟨by rfl, ?_⟩) (by assumption) ?_
  rotate_left
  · (intro w hSw; (try dsimp only at hSw); go_simp; try (with_reducible rfl))
  (try simp only [Act.put, List.setIfInBounds_toArray, List.set_cons_zero, List.set_cons_succ])
  refine wpAnyH_take (i := 13) (v := ?_) rfl (by kernel_rfl) (by kernel_rfl) (by kernel_rfl) (fun _ _ _ h => h) (Or.inl ⟨by rfl, ?_⟩) (by assumption) ?_
  rotate_left
  · (intro w hSw; (try dsimp only at hSw); go_simp; try (with_reducible rfl))
  (try simp only [Act.put, List.setIfInBounds_toArray, List.set_cons_zero, List.set_cons_succ])
  refine wpAnyH_ready (rs := [2]) (by kernel_rfl) (by simp) ?_
  refine AllReadyH.cons rfl (fun K hK => ?_) AllReadyH.nil
  go_simp; go_at_call 79; refine (flag_any _ _).mono ?_; rintro e w' ⟨rfl, rfl⟩
  go_simp
  refine hK.out _ _ ?_ (fun hHeld => ?_)
  · (try dsimp only); (simp [go_sem, World.cell?_alloc_past])
  clear hK K
  (try simp only [Act.put, List.setIfInBounds_toArray, List.set_cons_zero, List.set_cons_succ])
  refine wpAnyH_ready (rs := [5]) (by kernel_rfl) (by simp) ?_
  refine AllReadyH.cons rfl (fun K hK => ?_) AllReadyH.nil
  go_simp; go_at_call 79; refine (flag_any _ _).mono ?_; rintro e w' ⟨rfl, rfl⟩
  go_simp
  refine hK.out _ _ ?_ (fun hHeld => ?_)
  · (try dsimp only); (simp [go_sem, World.cell?_alloc_past])
  clear hK K
  (try simp only [Act.put, List.setIfInBounds_toArray, List.set_cons_zero, List.set_cons_succ])
  refine wpAnyH_ready (rs := [8]) (by kernel_rfl) (by simp) ?_
  refine AllReadyH.cons rfl (fun K hK => ?_) AllReadyH.nil
  go_simp; go_at_call 79; refine (flag_any _ _).mono ?_; rintro e w' ⟨rfl, rfl⟩
  go_simp
  refine hK.out _ _ ?_ (fun hHeld => ?_)
  · (try dsimp only); (simp [go_sem, World.cell?_alloc_past])
  clear hK K
  (try simp only [Act.put, List.setIfInBounds_toArray, List.set_cons_zero, List.set_cons_succ])
  refine wpAnyH_ready (rs := [12]) (by kernel_rfl) (by simp) ?_
  refine AllReadyH.cons rfl (fun K hK => ?_) AllReadyH.nil
  go_simp
  refine hK.out _ _ ?_ (fun hHeld => ?_)
  · (try dsimp only); (simp [go_sem, World.cell?_alloc_past])
  clear hK K
  (try simp only [Act.put, List.setIfInBounds_toArray, List.set_cons_zero, List.set_cons_succ])
  refine wpAnyH_take (i := 14) (v := ?_) rfl (by kernel_rfl) (by kernel_rfl) (by kernel_rfl) (fun _ _ _ h => h) (Or.inl ⟨by rfl, ?_⟩) (by assumption) ?_
  rotate_left
  · (intro w hSw; (try dsimp only at hSw); go_simp; try (with_reducible rfl))
  (try simp only [Act.put, List.setIfInBounds_toArray, List.set_cons_zero, List.set_cons_succ])
  refine wpAnyH_ready (rs := [15]) (by kernel_rfl) (by simp) ?_
  refine AllReadyH.cons rfl (fun K hK => ?_) AllReadyH.nil
  go_simp
  refine hK.out _ _ ?_ (fun hHeld => ?_)
  · (try dsimp only); (simp [go_sem, World.cell?_alloc_past])
  clear hK K
  (try simp only [Act.put, List.setIfInBounds_toArray, List.set_cons_zero, List.set_cons_succ])
  refine wpAnyH_take (i := 16) (v := ?_) rfl (by kernel_rfl) (by kernel_rfl) (by kernel_rfl) (fun _ _ _ h => h) (Or.inl ⟨by rfl, ?_⟩) (by assumption) ?_
  rotate_left
  · (intro w hSw; (try dsimp only at hSw); go_simp; try (with_reducible rfl))
  (try simp only [Act.put, List.setIfInBounds_toArray, List.set_cons_zero, List.set_cons_succ])
  refine wpAnyH_done (by kernel_rfl) ?_ _
  go_wp2_with (fail)
  refine (put_yes _ _ _ _ _ (by omega) (by omega) (by omega) (by omega) (by omega) (by omega) (by first | (simp; omega) | omega)).mono ?_
  rintro e w2 ⟨rfl, n2, rfl⟩
  rw [word_p2]
  go_wp2_with (fail)
  rw [rounds_succ]
  go_wp2_with (fail)
  refine wp_region_held_drew (S := (fun w' => w'.cell? ⟨w.heap.size, 0, none⟩ = some (.bool v) ∧ w'.cell? ⟨w.heap.size, 1, none⟩ = some (.bool wr) ∧ w'.cell? ⟨w.heap.size, 2, none⟩ = some (.bool tb) ∧ w'.cell? ⟨w.heap.size, 3, none⟩ = some (.int .i64 fr))) (by kernel_rfl) ?_ (fun hHeld => ?_)
  · (try dsimp only); (simp [go_sem, World.cell?_alloc_past])
  refine wpAnyH_take (i := 0) (v := ?_) rfl (by kernel_rfl) (by kernel_rfl) (by kernel_rfl) (fun _ _ _ h => h) (Or.inl ⟨by rfl, ?_⟩) (by assumption) ?_
  rotate_left
  · (intro w hSw; (try dsimp only at hSw); go_simp; try (with_reducible rfl))
  (try simp only [Act.put, List.setIfInBounds_toArray, List.set_cons_zero, List.set_cons_succ])
  refine wpAnyH_take (i := 1) (v := ?_) rfl (by kernel_rfl) (by kernel_rfl) (by kernel_rfl) (fun _ _ _ h => h) (Or.inl ⟨by rfl, ?_⟩) (by assumption) ?_
  rotate_left
  · (intro w hSw; (try dsimp only at hSw); go_simp; try (with_reducible rfl))
  (try simp only [Act.put, List.setIfInBounds_toArray, List.set_cons_zero, List.set_cons_succ])
  refine wpAnyH_take (i := 3) (v := ?_) rfl (by kernel_rfl) (by kernel_rfl) (by kernel_rfl) (fun _ _ _ h => h) (Or.inl ⟨by rfl, ?_⟩) (by assumption) ?_
  rotate_left
  · (intro w hSw; (try dsimp only at hSw); go_simp; try (with_reducible rfl))
  (try simp only [Act.put, List.setIfInBounds_toArray, List.set_cons_zero, List.set_cons_succ])
  refine wpAnyH_take (i := 4) (v := ?_) rfl (by kernel_rfl) (by kernel_rfl) (by kernel_rfl) (fun _ _ _ h => h) (Or.inl ⟨by rfl, ?_⟩) (by assumption) ?_
  rotate_left
  · (intro w hSw; (try dsimp only at hSw); go_simp; try (with_reducible rfl))
  (try simp only [Act.put, List.setIfInBounds_toArray, List.set_cons_zero, List.set_cons_succ])
  refine wpAnyH_take (i := 6) (v := ?_) rfl (by kernel_rfl) (by kernel_rfl) (by kernel_rfl) (fun _ _ _ h => h) (Or.inl ⟨by rfl, ?_⟩) (by assumption) ?_
  rotate_left
  · (intro w hSw; (try dsimp only at hSw); go_simp; try (with_reducible rfl))
  (try simp only [Act.put, List.setIfInBounds_toArray, List.set_cons_zero, List.set_cons_succ])
  refine wpAnyH_take (i := 7) (v := ?_) rfl (by kernel_rfl) (by kernel_rfl) (by kernel_rfl) (fun _ _ _ h => h) (Or.inl ⟨by rfl, ?_⟩) (by assumption) ?_
  rotate_left
  · (intro w hSw; (try dsimp only at hSw); go_simp; try (with_reducible rfl))
  (try simp only [Act.put, List.setIfInBounds_toArray, List.set_cons_zero, List.set_cons_succ])
  refine wpAnyH_take (i := 9) (v := ?_) rfl (by kernel_rfl) (by kernel_rfl) (by kernel_rfl) (fun _ _ _ h => h) (Or.inl ⟨by rfl, ?_⟩) (by assumption) ?_
  rotate_left
  · (intro w hSw; (try dsimp only at hSw); go_simp; try (with_reducible rfl))
  (try simp only [Act.put, List.setIfInBounds_toArray, List.set_cons_zero, List.set_cons_succ])
  refine wpAnyH_take (i := 10) (v := ?_) rfl (by kernel_rfl) (by kernel_rfl) (by kernel_rfl) (fun _ _ _ h => h) (Or.inl ⟨by rfl, ?_⟩) (by assumption) ?_
  rotate_left
  · (intro w hSw; (try dsimp only at hSw); go_simp; try (with_reducible rfl))
  (try simp only [Act.put, List.setIfInBounds_toArray, List.set_cons_zero, List.set_cons_succ])
  refine wpAnyH_take (i := 11) (v := ?_) rfl (by kernel_rfl) (by kernel_rfl) (by kernel_rfl) (fun _ _ _ h => h) (Or.inl ⟨by rfl, ?_⟩) (by assumption) ?_
  rotate_left
  · (intro w hSw; (try dsimp only at hSw); go_simp; try (with_reducible rfl))
  (try simp only [Act.put, List.setIfInBounds_toArray, List.set_cons_zero, List.set_cons_succ])
  refine wpAnyH_take (i := 13) (v := ?_) rfl (by kernel_rfl) (by kernel_rfl) (by kernel_rfl) (fun _ _ _ h => h) (Or.inl ⟨by rfl, ?_⟩) (by assumption) ?_
  rotate_left
  · (intro w hSw; (try dsimp only at hSw); go_simp; try (with_reducible rfl))
  (try simp only [Act.put, List.setIfInBounds_toArray, List.set_cons_zero, List.set_cons_succ])
  refine wpAnyH_ready (rs := [2]) (by kernel_rfl) (by simp) ?_
  refine AllReadyH.cons rfl (fun K hK => ?_) AllReadyH.nil
  go_simp; go_at_call 79; refine (flag_any _ _).mono ?_; rintro e w' ⟨rfl, rfl⟩
  go_simp
  refine hK.out _ _ ?_ (fun hHeld => ?_)
  · (try dsimp only); (simp [go_sem, World.cell?_alloc_past])
  clear hK K
  (try simp only [Act.put, List.setIfInBounds_toArray, List.set_cons_zero, List.set_cons_succ])
  refine wpAnyH_ready (rs := [5]) (by kernel_rfl) (by simp) ?_
  refine AllReadyH.cons rfl (fun K hK => ?_) AllReadyH.nil
  go_simp; go_at_call 79; refine (flag_any _ _).mono ?_; rintro e w' ⟨rfl, rfl⟩
  go_simp
  refine hK.out _ _ ?_ (fun hHeld => ?_)
  · (try dsimp only); (simp [go_sem, World.cell?_alloc_past])
  clear hK K
  (try simp only [Act.put, List.setIfInBounds_toArray, List.set_cons_zero, List.set_cons_succ])
  refine wpAnyH_ready (rs := [8]) (by kernel_rfl) (by simp) ?_
  refine AllReadyH.cons rfl (fun K hK => ?_) AllReadyH.nil
  go_simp; go_at_call 79; refine (flag_any _ _).mono ?_; rintro e w' ⟨rfl, rfl⟩
  go_simp
  refine hK.out _ _ ?_ (fun hHeld => ?_)
  · (try dsimp only); (simp [go_sem, World.cell?_alloc_past])
  clear hK K
  (try simp only [Act.put, List.setIfInBounds_toArray, List.set_cons_zero, List.set_cons_succ])
  refine wpAnyH_ready (rs := [12]) (by kernel_rfl) (by simp) ?_
  refine AllReadyH.cons rfl (fun K hK => ?_) AllReadyH.nil
  go_simp
  refine hK.out _ _ ?_ (fun hHeld => ?_)
  · (try dsimp only); (simp [go_sem, World.cell?_alloc_past])
  clear hK K
  (try simp only [Act.put, List.setIfInBounds_toArray, List.set_cons_zero, List.set_cons_succ])
  refine wpAnyH_take (i := 14) (v := ?_) rfl (by kernel_rfl) (by kernel_rfl) (by kernel_rfl) (fun _ _ _ h => h) (Or.inl ⟨by rfl, ?_⟩) (by assumption) ?_
  rotate_left
  · (intro w hSw; (try dsimp only at hSw); go_simp; try (with_reducible rfl))
  (try simp only [Act.put, List.setIfInBounds_toArray, List.set_cons_zero, List.set_cons_succ])
  refine wpAnyH_ready (rs := [15]) (by kernel_rfl) (by simp) ?_
  refine AllReadyH.cons rfl (fun K hK => ?_) AllReadyH.nil
  go_simp
  refine hK.out _ _ ?_ (fun hHeld => ?_)
  · (try dsimp only); (simp [go_sem, World.cell?_alloc_past])
  clear hK K
  (try simp only [Act.put, List.setIfInBounds_toArray, List.set_cons_zero, List.set_cons_succ])
  refine wpAnyH_take (i := 16) (v := ?_) rfl (by kernel_rfl) (by kernel_rfl) (by kernel_rfl) (fun _ _ _ h => h) (Or.inl ⟨by rfl, ?_⟩) (by assumption) ?_
  rotate_left
  · (intro w hSw; (try dsimp only at hSw); go_simp; try (with_reducible rfl))
  (try simp only [Act.put, List.setIfInBounds_toArray, List.set_cons_zero, List.set_cons_succ])
  refine wpAnyH_done (by kernel_rfl) ?_ _
  go_wp2_with (fail)
  refine (put_yes _ _ _ _ _ (by omega) (by omega) (by omega) (by omega) (by omega) (by omega) (by first | (simp; omega) | omega)).mono ?_
  rintro e w2 ⟨rfl, n3, rfl⟩
  rw [word_p3]
  go_wp2_with (fail)
  rw [rounds_succ]
  go_wp2_with (fail)
  go_ret2
  exact ⟨rfl, by repeat (first | exact Below.refl _ _ | refine Below.alloc ?_ (by simp <;> omega) _ | refine Below.drew ?_ | refine below_drewN ?_ _ )⟩

/-- What entry.Word returns: the word, and the error. -/
def wI (v wr tb : Bool) (fr : Int) : Int := if rightB v wr tb fr then wordI v wr tb fr else 0
def wE (v wr tb : Bool) (fr : Int) : Int := if rightB v wr tb fr then 0 else 1
theorem word_any (v wr tb : Bool) (fr : Int) (w : World) :
    Calls Try.prog 48 #[.agg #[.bool v, .bool wr, .bool tb, .int .i64 fr]] w fun e w' => e = .returned (.tuple #[.int .u64 (wI v wr tb fr), .int .i64 (wE v wr tb fr)]) ∧ Below w.heap.size w w' := by
  unfold wI wE
  cases h : rightB v wr tb fr
  · exact word_no v wr tb fr w h
  · exact word_yes v wr tb fr w h

end Go.Proofs.Yteehghjdifbjbaa

namespace Go.Proofs.Yteehghjdifbjbaa
set_option linter.unusedSimpArgs false
set_option linter.unusedVariables false
set_option maxRecDepth 100000
open Go.RowKit
set_option maxHeartbeats 2000000

/-- The parts of a word. -/
def pV (x : Int) : Bool := decide (x % 2 = 1)
def pW (x : Int) : Bool := decide (x / 2 % 2 = 1)
def pT (x : Int) : Bool := decide (x / 4 % 2 = 1)
def pF (x : Int) : Int := x / 256 % 256
/-- Is a word an entry's? -/
def ofB (x : Int) : Bool := rightB (pV x) (pW x) (pT x) (pF x) && decide (wordI (pV x) (pW x) (pT x) (pF x) = x)

theorem of_g0 (x : Int) : x / 2 ^ Int.toNat 0 % 2 ^ Int.toNat 1 = x % 2 := by simp
theorem of_g1 (x : Int) : x / 2 ^ Int.toNat 1 % 2 ^ Int.toNat 1 = x / 2 % 2 := by simp
theorem of_g2 (x : Int) : x / 2 ^ Int.toNat 2 % 2 ^ Int.toNat 1 = x / 4 % 2 := by simp
theorem of_g3 (x : Int) : x / 2 ^ Int.toNat 8 % 2 ^ Int.toNat 8 = x / 256 % 256 := by simp
theorem pV_eq (x : Int) : (x % 2 == 1) = pV x := by unfold pV; rw [Bool.eq_iff_iff]; simp
theorem pW_eq (x : Int) : (x / 2 % 2 == 1) = pW x := by unfold pW; rw [Bool.eq_iff_iff]; simp
theorem pF_eq (x : Int) : x / 256 % 256 = pF x := rfl
theorem pT_eq (x : Int) : (x / 4 % 2 == 1) = pT x := by unfold pT; rw [Bool.eq_iff_iff]; simp

theorem of_yes (x : Int) (w : World) (hx : 0 ≤ x) (hx' : x < 18446744073709551616) (hE : (wE (pV x) (pW x) (pT x) (pF x) != 0) = false) (hX : (wI (pV x) (pW x) (pT x) (pF x) != x) = false) :
    Calls Try.prog 44 #[.int .u64 x] w fun e w' => e = .returned (.tuple #[.agg #[.bool (pV x), .bool (pW x), .bool (pT x), .int .i64 (pF x)], .int .i64 0]) ∧ Below w.heap.size w w' := by
  have i0 : ∀ w, (Instr.index 148 (.agg #[.int .i64 0, .int .i64 1, .int .i64 1, .int .i64 1, .int .i64 2, .int .i64 1, .int .i64 8, .int .i64 8]) (.int .i64 0)).run Try.prog w = .ok (.agg #[.int .i64 0, .int .i64 1]) w := fun _ => by kernel_rfl
  have i1 : ∀ w, (Instr.index 148 (.agg #[.int .i64 0, .int .i64 1, .int .i64 1, .int .i64 1, .int .i64 2, .int .i64 1, .int .i64 8, .int .i64 8]) (.int .i64 1)).run Try.prog w = .ok (.agg #[.int .i64 1, .int .i64 1]) w := fun _ => by kernel_rfl
  have i2 : ∀ w, (Instr.index 148 (.agg #[.int .i64 0, .int .i64 1, .int .i64 1, .int .i64 1, .int .i64 2, .int .i64 1, .int .i64 8, .int .i64 8]) (.int .i64 2)).run Try.prog w = .ok (.agg #[.int .i64 2, .int .i64 1]) w := fun _ => by kernel_rfl
  have i3 : ∀ w, (Instr.index 148 (.agg #[.int .i64 0, .int .i64 1, .int .i64 1, .int .i64 1, .int .i64 2, .int .i64 1, .int .i64 8, .int .i64 8]) (.int .i64 3)).run Try.prog w = .ok (.agg #[.int .i64 8, .int .i64 8]) w := fun _ => by kernel_rfl
  have hpF0 : 0 ≤ x / 256 % 256 := by omega
  have hpF1 : x / 256 % 256 < 256 := by omega
  go_enter Try.func44, Try.ntmps44
  go_wp2_with (go_at_call 75; refine (fields_any _).mono ?_; rintro e w' ⟨rfl, o1, rfl⟩)
  refine wp_loop_rounds 5 ?_
  rw [rounds_succ]
  go_wp2_with (fail)
  refine (get_yes _ _ _ _ (by omega) (by omega) (by omega) (by omega) (by omega)).mono ?_
  rintro e w2 ⟨rfl, rfl⟩
  rw [of_g0]
  go_wp2_with (fail)
  rw [rounds_succ]
  go_wp2_with (fail)
  refine (get_yes _ _ _ _ (by omega) (by omega) (by omega) (by omega) (by omega)).mono ?_
  rintro e w2 ⟨rfl, rfl⟩
  rw [of_g1]
  go_wp2_with (fail)
  rw [rounds_succ]
  go_wp2_with (fail)
  refine (get_yes _ _ _ _ (by omega) (by omega) (by omega) (by omega) (by omega)).mono ?_
  rintro e w2 ⟨rfl, rfl⟩
  rw [of_g2]
  go_wp2_with (fail)
  rw [rounds_succ]
  go_wp2_with (fail)
  refine (get_yes _ _ _ _ (by omega) (by omega) (by omega) (by omega) (by omega)).mono ?_
  rintro e w2 ⟨rfl, rfl⟩
  rw [of_g3]
  go_wp2_with (fail)
  rw [rounds_succ]
  go_wp2_with (fail)
  simp only [pW_eq, pT_eq]
  simp only [pV_eq, pF_eq]
  refine (word_any _ _ _ _ _).mono ?_
  rintro e w3 ⟨rfl, hb⟩
  obtain ⟨hc, hf⟩ := bcell hb
  have c0 : w3.cell? ⟨w.heap.size, 0, none⟩ = some (.bool false) := by rw [hc _ _ (by simp <;> omega)]; simp [go_sem, World.cell?_alloc_past]
  have c1 : w3.cell? ⟨w.heap.size, 1, none⟩ = some (.bool false) := by rw [hc _ _ (by simp <;> omega)]; simp [go_sem, World.cell?_alloc_past]
  have c2 : w3.cell? ⟨w.heap.size, 2, none⟩ = some (.bool false) := by rw [hc _ _ (by simp <;> omega)]; simp [go_sem, World.cell?_alloc_past]
  have c3 : w3.cell? ⟨w.heap.size, 3, none⟩ = some (.int .i64 0) := by rw [hc _ _ (by simp <;> omega)]; simp [go_sem, World.cell?_alloc_past]
  go_wp2_with (fail)
  refine bodyPost_ret (v := .tuple #[.agg #[.bool (pV x), .bool (pW x), .bool (pT x), .int .i64 (pF x)], .int .i64 0]) (by simp [results, Try.results44, go_sem, c0, c1, c2, c3]) rfl ⟨rfl, ?_⟩
  have hz := hb.size
  have hb' : Below w.heap.size w w3 := by
    refine Below.trans ?_ (hb.mono ?_)
    · repeat (first | exact Below.refl _ _ | assumption | refine Below.alloc ?_ (by simp <;> omega) _ | refine below_drewN ?_ _ | refine Below.drew ?_ | refine Below.setCell ?_ (by simp <;> omega) _)
    · simp <;> omega
  repeat (first | exact hb' | refine Below.setCell ?_ (by simp) _ | refine Below.alloc ?_ (by simp at hz ⊢ <;> omega) _)

theorem of_no1 (x : Int) (w : World) (hx : 0 ≤ x) (hx' : x < 18446744073709551616) (hE : (wE (pV x) (pW x) (pT x) (pF x) != 0) = true) :
    Calls Try.prog 44 #[.int .u64 x] w fun e w' => e = .returned (.tuple #[.agg #[.bool false, .bool false, .bool false, .int .i64 0], .int .i64 1]) ∧ Below w.heap.size w w' := by
  have i0 : ∀ w, (Instr.index 148 (.agg #[.int .i64 0, .int .i64 1, .int .i64 1, .int .i64 1, .int .i64 2, .int .i64 1, .int .i64 8, .int .i64 8]) (.int .i64 0)).run Try.prog w = .ok (.agg #[.int .i64 0, .int .i64 1]) w := fun _ => by kernel_rfl
  have i1 : ∀ w, (Instr.index 148 (.agg #[.int .i64 0, .int .i64 1, .int .i64 1, .int .i64 1, .int .i64 2, .int .i64 1, .int .i64 8, .int .i64 8]) (.int .i64 1)).run Try.prog w = .ok (.agg #[.int .i64 1, .int .i64 1]) w := fun _ => by kernel_rfl
  have i2 : ∀ w, (Instr.index 148 (.agg #[.int .i64 0, .int .i64 1, .int .i64 1, .int .i64 1, .int .i64 2, .int .i64 1, .int .i64 8, .int .i64 8]) (.int .i64 2)).run Try.prog w = .ok (.agg #[.int .i64 2, .int .i64 1]) w := fun _ => by kernel_rfl
  have i3 : ∀ w, (Instr.index 148 (.agg #[.int .i64 0, .int .i64 1, .int .i64 1, .int .i64 1, .int .i64 2, .int .i64 1, .int .i64 8, .int .i64 8]) (.int .i64 3)).run Try.prog w = .ok (.agg #[.int .i64 8, .int .i64 8]) w := fun _ => by kernel_rfl
  have hpF0 : 0 ≤ x / 256 % 256 := by omega
  have hpF1 : x / 256 % 256 < 256 := by omega
  go_enter Try.func44, Try.ntmps44
  go_wp2_with (go_at_call 75; refine (fields_any _).mono ?_; rintro e w' ⟨rfl, o1, rfl⟩)
  refine wp_loop_rounds 5 ?_
  rw [rounds_succ]
  go_wp2_with (fail)
  refine (get_yes _ _ _ _ (by omega) (by omega) (by omega) (by omega) (by omega)).mono ?_
  rintro e w2 ⟨rfl, rfl⟩
  rw [of_g0]
  go_wp2_with (fail)
  rw [rounds_succ]
  go_wp2_with (fail)
  refine (get_yes _ _ _ _ (by omega) (by omega) (by omega) (by omega) (by omega)).mono ?_
  rintro e w2 ⟨rfl, rfl⟩
  rw [of_g1]
  go_wp2_with (fail)
  rw [rounds_succ]
  go_wp2_with (fail)
  refine (get_yes _ _ _ _ (by omega) (by omega) (by omega) (by omega) (by omega)).mono ?_
  rintro e w2 ⟨rfl, rfl⟩
  rw [of_g2]
  go_wp2_with (fail)
  rw [rounds_succ]
  go_wp2_with (fail)
  refine (get_yes _ _ _ _ (by omega) (by omega) (by omega) (by omega) (by omega)).mono ?_
  rintro e w2 ⟨rfl, rfl⟩
  rw [of_g3]
  go_wp2_with (fail)
  rw [rounds_succ]
  go_wp2_with (fail)
  simp only [pW_eq, pT_eq]
  simp only [pV_eq, pF_eq]
  refine (word_any _ _ _ _ _).mono ?_
  rintro e w3 ⟨rfl, hb⟩
  obtain ⟨hc, hf⟩ := bcell hb
  have c0 : w3.cell? ⟨w.heap.size, 0, none⟩ = some (.bool false) := by rw [hc _ _ (by simp <;> omega)]; simp [go_sem, World.cell?_alloc_past]
  have c1 : w3.cell? ⟨w.heap.size, 1, none⟩ = some (.bool false) := by rw [hc _ _ (by simp <;> omega)]; simp [go_sem, World.cell?_alloc_past]
  have c2 : w3.cell? ⟨w.heap.size, 2, none⟩ = some (.bool false) := by rw [hc _ _ (by simp <;> omega)]; simp [go_sem, World.cell?_alloc_past]
  have c3 : w3.cell? ⟨w.heap.size, 3, none⟩ = some (.int .i64 0) := by rw [hc _ _ (by simp <;> omega)]; simp [go_sem, World.cell?_alloc_past]
  go_wp2_with (fail)
  refine bodyPost_ret (v := .tuple #[.agg #[.bool false, .bool false, .bool false, .int .i64 0], .int .i64 1]) (by simp [results, Try.results44, go_sem, c0, c1, c2, c3]) rfl ⟨rfl, ?_⟩
  have hz := hb.size
  have hb' : Below w.heap.size w w3 := by
    refine Below.trans ?_ (hb.mono ?_)
    · repeat (first | exact Below.refl _ _ | assumption | refine Below.alloc ?_ (by simp <;> omega) _ | refine below_drewN ?_ _ | refine Below.drew ?_ | refine Below.setCell ?_ (by simp <;> omega) _)
    · simp <;> omega
  repeat (first | exact hb' | refine Below.setCell ?_ (by simp) _ | refine Below.alloc ?_ (by simp at hz ⊢ <;> omega) _)

theorem of_no2 (x : Int) (w : World) (hx : 0 ≤ x) (hx' : x < 18446744073709551616) (hE : (wE (pV x) (pW x) (pT x) (pF x) != 0) = false) (hX : (wI (pV x) (pW x) (pT x) (pF x) != x) = true) :
    Calls Try.prog 44 #[.int .u64 x] w fun e w' => e = .returned (.tuple #[.agg #[.bool false, .bool false, .bool false, .int .i64 0], .int .i64 1]) ∧ Below w.heap.size w w' := by
  have i0 : ∀ w, (Instr.index 148 (.agg #[.int .i64 0, .int .i64 1, .int .i64 1, .int .i64 1, .int .i64 2, .int .i64 1, .int .i64 8, .int .i64 8]) (.int .i64 0)).run Try.prog w = .ok (.agg #[.int .i64 0, .int .i64 1]) w := fun _ => by kernel_rfl
  have i1 : ∀ w, (Instr.index 148 (.agg #[.int .i64 0, .int .i64 1, .int .i64 1, .int .i64 1, .int .i64 2, .int .i64 1, .int .i64 8, .int .i64 8]) (.int .i64 1)).run Try.prog w = .ok (.agg #[.int .i64 1, .int .i64 1]) w := fun _ => by kernel_rfl
  have i2 : ∀ w, (Instr.index 148 (.agg #[.int .i64 0, .int .i64 1, .int .i64 1, .int .i64 1, .int .i64 2, .int .i64 1, .int .i64 8, .int .i64 8]) (.int .i64 2)).run Try.prog w = .ok (.agg #[.int .i64 2, .int .i64 1]) w := fun _ => by kernel_rfl
  have i3 : ∀ w, (Instr.index 148 (.agg #[.int .i64 0, .int .i64 1, .int .i64 1, .int .i64 1, .int .i64 2, .int .i64 1, .int .i64 8, .int .i64 8]) (.int .i64 3)).run Try.prog w = .ok (.agg #[.int .i64 8, .int .i64 8]) w := fun _ => by kernel_rfl
  have hpF0 : 0 ≤ x / 256 % 256 := by omega
  have hpF1 : x / 256 % 256 < 256 := by omega
  go_enter Try.func44, Try.ntmps44
  go_wp2_with (go_at_call 75; refine (fields_any _).mono ?_; rintro e w' ⟨rfl, o1, rfl⟩)
  refine wp_loop_rounds 5 ?_
  rw [rounds_succ]
  go_wp2_with (fail)
  refine (get_yes _ _ _ _ (by omega) (by omega) (by omega) (by omega) (by omega)).mono ?_
  rintro e w2 ⟨rfl, rfl⟩
  rw [of_g0]
  go_wp2_with (fail)
  rw [rounds_succ]
  go_wp2_with (fail)
  refine (get_yes _ _ _ _ (by omega) (by omega) (by omega) (by omega) (by omega)).mono ?_
  rintro e w2 ⟨rfl, rfl⟩
  rw [of_g1]
  go_wp2_with (fail)
  rw [rounds_succ]
  go_wp2_with (fail)
  refine (get_yes _ _ _ _ (by omega) (by omega) (by omega) (by omega) (by omega)).mono ?_
  rintro e w2 ⟨rfl, rfl⟩
  rw [of_g2]
  go_wp2_with (fail)
  rw [rounds_succ]
  go_wp2_with (fail)
  refine (get_yes _ _ _ _ (by omega) (by omega) (by omega) (by omega) (by omega)).mono ?_
  rintro e w2 ⟨rfl, rfl⟩
  rw [of_g3]
  go_wp2_with (fail)
  rw [rounds_succ]
  go_wp2_with (fail)
  simp only [pW_eq, pT_eq]
  simp only [pV_eq, pF_eq]
  refine (word_any _ _ _ _ _).mono ?_
  rintro e w3 ⟨rfl, hb⟩
  obtain ⟨hc, hf⟩ := bcell hb
  have c0 : w3.cell? ⟨w.heap.size, 0, none⟩ = some (.bool false) := by rw [hc _ _ (by simp <;> omega)]; simp [go_sem, World.cell?_alloc_past]
  have c1 : w3.cell? ⟨w.heap.size, 1, none⟩ = some (.bool false) := by rw [hc _ _ (by simp <;> omega)]; simp [go_sem, World.cell?_alloc_past]
  have c2 : w3.cell? ⟨w.heap.size, 2, none⟩ = some (.bool false) := by rw [hc _ _ (by simp <;> omega)]; simp [go_sem, World.cell?_alloc_past]
  have c3 : w3.cell? ⟨w.heap.size, 3, none⟩ = some (.int .i64 0) := by rw [hc _ _ (by simp <;> omega)]; simp [go_sem, World.cell?_alloc_past]
  go_wp2_with (fail)
  refine bodyPost_ret (v := .tuple #[.agg #[.bool false, .bool false, .bool false, .int .i64 0], .int .i64 1]) (by simp [results, Try.results44, go_sem, c0, c1, c2, c3]) rfl ⟨rfl, ?_⟩
  have hz := hb.size
  have hb' : Below w.heap.size w w3 := by
    refine Below.trans ?_ (hb.mono ?_)
    · repeat (first | exact Below.refl _ _ | assumption | refine Below.alloc ?_ (by simp <;> omega) _ | refine below_drewN ?_ _ | refine Below.drew ?_ | refine Below.setCell ?_ (by simp <;> omega) _)
    · simp <;> omega
  repeat (first | exact hb' | refine Below.setCell ?_ (by simp) _ | refine Below.alloc ?_ (by simp at hz ⊢ <;> omega) _)

theorem index_yes0 (p : Int) (w : World) (h0 : 0 ≤ p) (h1 : p < 4096) :
    Calls Try.prog 70 #[.int .i64 p, .int .i64 0] w fun e w' => e = .returned (.tuple #[.int .i64 (p / 256), .int .i64 0]) ∧ w = w' := by
  have e1 : p / 16 / 16 % 16 = p / 256 := by omega
  have H := Lib.hid e1
  clear e1
  go_enter Try.func70, Try.ntmps70
  go_wp2
  refine wp_loop_rounds 3 ?_
  iterate 3 (rw [rounds_succ]; go_wp2)
  go_ret2
  exact ⟨by rw [← H.out]; rfl, rfl⟩
theorem index_yes1 (p : Int) (w : World) (h0 : 0 ≤ p) (h1 : p < 4096) :
    Calls Try.prog 70 #[.int .i64 p, .int .i64 1] w fun e w' => e = .returned (.tuple #[.int .i64 (p / 16 % 16), .int .i64 0]) ∧ w = w' := by
  go_enter Try.func70, Try.ntmps70
  go_wp2
  refine wp_loop_rounds 2 ?_
  iterate 2 (rw [rounds_succ]; go_wp2)
  go_ret2
  exact ⟨rfl, rfl⟩
theorem index_yes2 (p : Int) (w : World) (h0 : 0 ≤ p) (h1 : p < 4096) :
    Calls Try.prog 70 #[.int .i64 p, .int .i64 2] w fun e w' => e = .returned (.tuple #[.int .i64 (p % 16), .int .i64 0]) ∧ w = w' := by
  go_enter Try.func70, Try.ntmps70
  go_wp2
  refine wp_loop_rounds 1 ?_
  rw [rounds_succ]; go_wp2
  go_ret2
  exact ⟨rfl, rfl⟩

/-- A page's place in the table of a level. -/
def idxI (p l : Int) : Int := if l = 0 then p / 256 else if l = 1 then p / 16 % 16 else p % 16
theorem index_yes (p l : Int) (w : World) (h0 : 0 ≤ p) (h1 : p < 4096) (h2 : 0 ≤ l) (h3 : l < 3) :
    Calls Try.prog 70 #[.int .i64 p, .int .i64 l] w fun e w' => e = .returned (.tuple #[.int .i64 (idxI p l), .int .i64 0]) ∧ w = w' := by
  have : l = 0 ∨ l = 1 ∨ l = 2 := by omega
  rcases this with rfl | rfl | rfl
  · exact index_yes0 p w h0 h1
  · exact index_yes1 p w h0 h1
  · exact index_yes2 p w h0 h1
theorem index_no (p l : Int) (w : World) (h : ¬ (0 ≤ p ∧ p < 4096 ∧ 0 ≤ l ∧ l < 3)) :
    Calls Try.prog 70 #[.int .i64 p, .int .i64 l] w fun e w' => e = .returned (.tuple #[.int .i64 0, .int .i64 1]) ∧ w = w' := by
  have h' : p < 0 ∨ (¬ p < 0 ∧ 4096 ≤ p) ∨ (¬ p < 0 ∧ ¬ 4096 ≤ p ∧ l < 0) ∨ (¬ p < 0 ∧ ¬ 4096 ≤ p ∧ ¬ l < 0 ∧ 3 ≤ l) := by omega
  clear h
  rcases h' with a | ⟨a, b⟩ | ⟨a, b, c⟩ | ⟨a, b, c, d⟩
  all_goals
    go_enter Try.func70, Try.ntmps70
    go_wp2
    go_ret2
    exact ⟨rfl, rfl⟩

theorem split_yes (a : Int) (w : World) (h0 : 0 ≤ a) (h1 : a < 65536) :
    Calls Try.prog 57 #[.int .i64 a] w fun e w' => e = .returned (.tuple #[.int .i64 (a / 16), .int .i64 (a % 16), .int .i64 0]) ∧ w = w' := by
  go_enter Try.func57, Try.ntmps57
  go_wp2
  go_ret3
  exact ⟨rfl, rfl⟩
theorem split_no (a : Int) (w : World) (h : ¬ (0 ≤ a ∧ a < 65536)) :
    Calls Try.prog 57 #[.int .i64 a] w fun e w' => e = .returned (.tuple #[.int .i64 0, .int .i64 0, .int .i64 1]) ∧ w = w' := by
  have h' : a < 0 ∨ (¬ a < 0 ∧ 65536 ≤ a) := by omega
  clear h
  rcases h' with h | ⟨h, h'⟩
  all_goals
    go_enter Try.func57, Try.ntmps57
    go_wp2
    go_ret3
    exact ⟨rfl, rfl⟩

/-- What was read of a word, as a word: it is that word. -/
theorem of_right (x : Int) (h : ofB x = true) : rightB (pV x) (pW x) (pT x) (pF x) = true ∧ wordI (pV x) (pW x) (pT x) (pF x) = x := by
  simpa [ofB] using h
/-- An entry that may be is read of its word as it was. -/
theorem parts_of_word (v wr tb : Bool) (fr : Int) (h : rightB v wr tb fr = true) :
    pV (wordI v wr tb fr) = v ∧ pW (wordI v wr tb fr) = wr ∧ pT (wordI v wr tb fr) = tb ∧ pF (wordI v wr tb fr) = fr := by
  obtain ⟨h0, h1⟩ := right_bd h
  cases v <;> cases wr <;> cases tb <;> simp [pV, pW, pT, pF, wordI, flagI] <;> omega
theorem word_ofB (v wr tb : Bool) (fr : Int) (h : rightB v wr tb fr = true) : ofB (wordI v wr tb fr) = true := by
  obtain ⟨a, b, c, d⟩ := parts_of_word v wr tb fr h
  simp [ofB, a, b, c, d, h]
theorem word_bd (v wr tb : Bool) (fr : Int) (h : rightB v wr tb fr = true) : 0 ≤ wordI v wr tb fr ∧ wordI v wr tb fr < 65536 := by
  obtain ⟨h0, h1⟩ := right_bd h
  cases v <;> cases wr <;> cases tb <;> simp [wordI, flagI] <;> omega
theorem wI_bd (v wr tb : Bool) (fr : Int) : 0 ≤ wI v wr tb fr ∧ wI v wr tb fr < 65536 := by
  unfold wI
  cases h : rightB v wr tb fr
  · simp
  · simpa using word_bd v wr tb fr h

/-- What entry.Of returns: the parts, and the error. -/
def oV (x : Int) : Bool := ofB x && pV x
def oW (x : Int) : Bool := ofB x && pW x
def oT (x : Int) : Bool := ofB x && pT x
def oF (x : Int) : Int := if ofB x then pF x else 0
def oE (x : Int) : Int := if ofB x then 0 else 1
theorem of_any (x : Int) (w : World) (hx : 0 ≤ x) (hx' : x < 18446744073709551616) :
    Calls Try.prog 44 #[.int .u64 x] w fun e w' => e = .returned (.tuple #[.agg #[.bool (oV x), .bool (oW x), .bool (oT x), .int .i64 (oF x)], .int .i64 (oE x)]) ∧ Below w.heap.size w w' := by
  unfold oV oW oT oF oE
  cases hr : rightB (pV x) (pW x) (pT x) (pF x)
  · have h : ofB x = false := by simp [ofB, hr]
    rw [h]
    exact of_no1 x w hx hx' (by simp [wE, hr])
  · by_cases hw : wordI (pV x) (pW x) (pT x) (pF x) = x
    · have h : ofB x = true := by simp [ofB, hr, hw]
      rw [h]
      exact of_yes x w hx hx' (by simp [wE, hr]) (by simp [wI, hr, hw])
    · have h : ofB x = false := by simp [ofB, hr, hw]
      rw [h]
      exact of_no2 x w hx hx' (by simp [wE, hr]) (by simp [wI, hr, hw])


end Go.Proofs.Yteehghjdifbjbaa

namespace Go.Proofs.Yteehghjdifbjbaa
set_option linter.unusedSimpArgs false
set_option linter.unusedVariables false
set_option maxRecDepth 100000
open Go.RowKit
set_option maxHeartbeats 1000000

theorem wk_has_yes (pm bk n : Nat) (W : Nat → Int) (f : Int) (w : World) (hm : MemIn w pm bk n W) (h0 : 0 ≤ f) (h1 : f < n) :
    Calls Try.prog 43 #[.pointer (some ⟨pm, 0, none⟩), .int .i64 f] w fun e w' => e = .returned (.bool true) ∧ w = w' := by
  go_enter Try.func43, Try.ntmps43
  go_wp2_with (go_at_call 62; refine (frames_any pm bk n W _ hm).mono ?_; rintro e w' ⟨rfl, rfl⟩)
  go_ret
  exact ⟨rfl, rfl⟩
theorem wk_has_no (pm bk n : Nat) (W : Nat → Int) (f : Int) (w : World) (hm : MemIn w pm bk n W) (h : ¬ (0 ≤ f ∧ f < n)) :
    Calls Try.prog 43 #[.pointer (some ⟨pm, 0, none⟩), .int .i64 f] w fun e w' => e = .returned (.bool false) ∧ w = w' := by
  have hh : f < 0 ∨ (¬ f < 0 ∧ n ≤ f) := by omega
  clear h
  rcases hh with h | ⟨h, h'⟩
  all_goals
    go_enter Try.func43, Try.ntmps43
    go_wp2_with (go_at_call 62; refine (frames_any pm bk n W _ hm).mono ?_; rintro e w' ⟨rfl, rfl⟩)
    go_ret
    exact ⟨by simp <;> omega, rfl⟩

/-- Is there such a place? -/
def inT (n : Nat) (f p : Int) : Prop := (0 ≤ f ∧ f < n) ∧ (0 ≤ p ∧ p < 16)
instance (n : Nat) (f p : Int) : Decidable (inT n f p) := by unfold inT; exact inferInstance

theorem ret_ent {w w1 : World} {o : Obj} (ho : o = .cells #[.bool false, .bool false, .bool false, .int .i64 0] 34) (hb : Below (w.alloc o).heap.size (w.alloc o) w1) :
    (w1.cell? ⟨w.heap.size, 0, none⟩ = some (.bool false) ∧ w1.cell? ⟨w.heap.size, 1, none⟩ = some (.bool false) ∧ w1.cell? ⟨w.heap.size, 2, none⟩ = some (.bool false) ∧ w1.cell? ⟨w.heap.size, 3, none⟩ = some (.int .i64 0)) ∧
    (w1.frozen? ⟨w.heap.size, 0, none⟩ = false ∧ w1.frozen? ⟨w.heap.size, 1, none⟩ = false ∧ w1.frozen? ⟨w.heap.size, 2, none⟩ = false ∧ w1.frozen? ⟨w.heap.size, 3, none⟩ = false) ∧ w.heap.size < w1.heap.size ∧ Below w.heap.size w w1 := by
  subst ho
  refine ⟨⟨keep hb (by simp) (by simp [go_sem]), keep hb (by simp) (by simp [go_sem]), keep hb (by simp) (by simp [go_sem]), keep hb (by simp) (by simp [go_sem])⟩,
    ⟨keepF hb (by simp) (by simp [go_sem]), keepF hb (by simp) (by simp [go_sem]), keepF hb (by simp) (by simp [go_sem]), keepF hb (by simp) (by simp [go_sem])⟩, ?_, ?_⟩
  · have := hb.size; simp at this; omega
  · exact ((Below.refl _ _).alloc (Nat.le_refl _) _).trans (hb.mono (by simp))

theorem get_in (pm bk n : Nat) (W : Nat → Int) (f p : Int) (w : World) (hm : MemIn w pm bk n W) (h : inT n f p) (E : Int) (hE : oE (W (16 * f + p).toNat) = E) (v wr tb : Bool) (fr : Int)
    (hv : oV (W (16 * f + p).toNat) = v) (hwr : oW (W (16 * f + p).toNat) = wr) (htb : oT (W (16 * f + p).toNat) = tb) (hfr : oF (W (16 * f + p).toNat) = fr) (hz : E ≠ 0 → v = false ∧ wr = false ∧ tb = false ∧ fr = 0) :
    Calls Try.prog 10 #[.pointer (some ⟨pm, 0, none⟩), .int .i64 f, .int .i64 p] w fun e w' => e = .returned (.tuple #[.agg #[.bool v, .bool wr, .bool tb, .int .i64 fr], .int .i64 (if E = 0 then 0 else 11)]) ∧ Below w.heap.size w w' := by
  obtain ⟨⟨f0, f1⟩, ⟨p0, p1⟩⟩ := h
  have hn := hm.n2
  have hlo := hm.lo (16 * f + p).toNat
  have hhi := hm.hi (16 * f + p).toNat
  have HE := Lib.hid hE; have HV := Lib.hid hv; have HW := Lib.hid hwr; have HT := Lib.hid htb; have HF := Lib.hid hfr
  clear hE hv hwr htb hfr
  have hx : Hid ((f * 16 + p).toNat = (16 * f + p).toNat) := by show _ = _; omega
  go_enter Try.func10, Try.ntmps10
  go_wp2_with (fail)
  refine (wk_has_yes pm bk n W _ _ ?_ f0 f1).mono ?_
  · exact hm.below ((Below.refl _ _).alloc (Nat.le_refl _) _)
  rintro e w1 ⟨rfl, rfl⟩
  go_wp2_with (fail)
  refine (read_yes pm bk n W _ _ ?_ (by omega) (by omega)).mono ?_
  · exact hm.below ((Below.refl _ _).alloc (Nat.le_refl _) _)
  rintro e w1 ⟨rfl, rfl⟩
  rw [hx.out]
  go_wp2_with (fail)
  refine (of_any _ _ hlo (by omega)).mono ?_
  rintro e w1 ⟨rfl, hb⟩
  obtain ⟨⟨c0, c1, c2, c3⟩, ⟨d0, d1, d2, d3⟩, z1, k1⟩ := ret_ent rfl hb
  rw [HE.out, HV.out, HW.out, HT.out, HF.out]
  by_cases hE : E = 0
  · have hE' : (E != 0) = false := by simp [hE]
    have H0 := Lib.hid hE
    clear hE
    go_wp2_with (fail)
    refine bodyPost_ret (v := .tuple #[.agg #[.bool v, .bool wr, .bool tb, .int .i64 fr], .int .i64 0]) (by simp [results, Try.results10, go_sem, c0, c1, c2, c3, z1]) rfl ⟨by simp [H0.out], ?_⟩
    repeat (first | exact k1 | refine Below.setCell ?_ (by simp) _ | refine Below.alloc ?_ (by have := k1.size; simp <;> omega) _)
  · have hE' : (E != 0) = true := by simp [hE]
    obtain ⟨rfl, rfl, rfl, rfl⟩ := hz hE
    have H0 := Lib.hid hE
    clear hE
    go_wp2_with (fail)
    refine bodyPost_ret (v := .tuple #[.agg #[.bool false, .bool false, .bool false, .int .i64 0], .int .i64 11]) (by simp [results, Try.results10, go_sem, c0, c1, c2, c3, z1]) rfl ⟨by simp [H0.out], ?_⟩
    repeat (first | exact k1 | refine Below.setCell ?_ (by simp) _ | refine Below.alloc ?_ (by have := k1.size; simp <;> omega) _)

theorem get_out (pm bk n : Nat) (W : Nat → Int) (f p : Int) (w : World) (hm : MemIn w pm bk n W) (h : ¬ inT n f p) :
    Calls Try.prog 10 #[.pointer (some ⟨pm, 0, none⟩), .int .i64 f, .int .i64 p] w fun e w' => e = .returned (.tuple #[.agg #[.bool false, .bool false, .bool false, .int .i64 0], .int .i64 1]) ∧ Below w.heap.size w w' := by
  have hm1 : MemIn (w.alloc (.cells #[.bool false, .bool false, .bool false, .int .i64 0] 34)) pm bk n W := hm.below ((Below.refl _ _).alloc (Nat.le_refl _) _)
  by_cases hf : 0 ≤ f ∧ f < n
  · obtain ⟨f0, f1⟩ := hf
    have hh : p < 0 ∨ (¬ p < 0 ∧ 16 ≤ p) := by
      by_cases p < 0
      · left; assumption
      · right
        refine ⟨by assumption, ?_⟩
        by_cases p < 16
        · exact absurd ⟨⟨f0, f1⟩, by omega, by assumption⟩ h
        · omega
    clear h
    rcases hh with h | ⟨h, h'⟩
    all_goals
      go_enter Try.func10, Try.ntmps10
      go_wp2_with (fail)
      refine (wk_has_yes pm bk n W _ _ hm1 f0 f1).mono ?_
      rintro e w1 ⟨rfl, rfl⟩
      go_wp2_with (fail)
      refine bodyPost_ret (v := .tuple #[.agg #[.bool false, .bool false, .bool false, .int .i64 0], .int .i64 1]) (by simp [results, Try.results10, go_sem]) rfl ⟨rfl, ?_⟩
      repeat (first | exact Below.refl _ _ | refine Below.setCell ?_ (by simp) _ | refine Below.alloc ?_ (by simp <;> omega) _)
  · go_enter Try.func10, Try.ntmps10
    go_wp2_with (fail)
    refine (wk_has_no pm bk n W _ _ hm1 hf).mono ?_
    rintro e w1 ⟨rfl, rfl⟩
    go_wp2_with (fail)
    refine bodyPost_ret (v := .tuple #[.agg #[.bool false, .bool false, .bool false, .int .i64 0], .int .i64 1]) (by simp [results, Try.results10, go_sem]) rfl ⟨rfl, ?_⟩
    repeat (first | exact Below.refl _ _ | refine Below.setCell ?_ (by simp) _ | refine Below.alloc ?_ (by simp <;> omega) _)

/-- What walk.Get returns: the entry's parts, and the error. -/
def gV (W : Nat → Int) (n : Nat) (f p : Int) : Bool := decide (inT n f p) && oV (W (16 * f + p).toNat)
def gW (W : Nat → Int) (n : Nat) (f p : Int) : Bool := decide (inT n f p) && oW (W (16 * f + p).toNat)
def gT (W : Nat → Int) (n : Nat) (f p : Int) : Bool := decide (inT n f p) && oT (W (16 * f + p).toNat)
def gF (W : Nat → Int) (n : Nat) (f p : Int) : Int := if inT n f p then oF (W (16 * f + p).toNat) else 0
def gE (W : Nat → Int) (n : Nat) (f p : Int) : Int := if inT n f p then (if oE (W (16 * f + p).toNat) = 0 then 0 else 11) else 1

theorem get_any (pm bk n : Nat) (W : Nat → Int) (f p : Int) (w : World) (hm : MemIn w pm bk n W) :
    Calls Try.prog 10 #[.pointer (some ⟨pm, 0, none⟩), .int .i64 f, .int .i64 p] w fun e w' => e = .returned (.tuple #[.agg #[.bool (gV W n f p), .bool (gW W n f p), .bool (gT W n f p), .int .i64 (gF W n f p)], .int .i64 (gE W n f p)]) ∧ Below w.heap.size w w' := by
  unfold gV gW gT gF gE
  by_cases h : inT n f p
  · simp only [h, decide_true, Bool.true_and, if_true]
    exact get_in pm bk n W f p w hm h _ rfl _ _ _ _ rfl rfl rfl rfl (fun hE => by
      have ho : ofB (W (16 * f + p).toNat) = false := by
        cases hb : ofB (W (16 * f + p).toNat) with
        | false => rfl
        | true => exact absurd (by simp [oE, hb]) hE
      simp [oV, oW, oT, oF, ho])
  · simp only [h, decide_false, Bool.false_and, if_false]
    exact get_out pm bk n W f p w hm h

theorem put_in (pm bk n : Nat) (W : Nat → Int) (f p : Int) (v wr tb : Bool) (fr : Int) (w : World) (hm : MemIn w pm bk n W) (h : inT n f p) (hr : rightB v wr tb fr = true) :
    Calls Try.prog 17 #[.pointer (some ⟨pm, 0, none⟩), .int .i64 f, .int .i64 p, .agg #[.bool v, .bool wr, .bool tb, .int .i64 fr]] w fun e w' => e = .returned (.int .i64 0) ∧ MemIn w' pm bk n (setW W (16 * f + p).toNat (wordI v wr tb fr)) ∧ Touch (· = bk) w w' := by
  obtain ⟨⟨f0, f1⟩, ⟨p0, p1⟩⟩ := h
  have hn := hm.n2
  have hE : wE v wr tb fr = 0 := by simp [wE, hr]
  have hI : wI v wr tb fr = wordI v wr tb fr := by simp [wI, hr]
  obtain ⟨b0, b1⟩ := word_bd v wr tb fr hr
  have HE := Lib.hid hE; have HI := Lib.hid hI
  clear hE hI
  have hx : Hid ((f * 16 + p).toNat = (16 * f + p).toNat) := by show _ = _; omega
  go_enter Try.func17, Try.ntmps17
  go_wp2_with (fail)
  refine (word_any _ _ _ _ _).mono ?_
  rintro e w1 ⟨rfl, hb⟩
  rw [HE.out, HI.out]
  have k1 : Below w.heap.size w w1 := ((Below.refl _ _).alloc (Nat.le_refl _) _).trans (hb.mono (by simp))
  have hm1 := hm.below k1
  go_wp2_with (fail)
  refine (wk_has_yes pm bk n W _ _ hm1 f0 f1).mono ?_
  rintro e w2 ⟨rfl, rfl⟩
  go_wp2_with (fail)
  refine (write_yes pm bk n W _ _ _ hm1 (by omega) (by omega) b0 (by omega)).mono ?_
  rintro e w2 ⟨rfl, hm2, ht⟩
  rw [hx.out] at hm2
  go_wp2_with (fail)
  go_ret
  exact ⟨rfl, hm2, (Touch.of_below k1).trans ht⟩

theorem put_out (pm bk n : Nat) (W : Nat → Int) (f p : Int) (v wr tb : Bool) (fr : Int) (w : World) (hm : MemIn w pm bk n W) (h : ¬ (inT n f p ∧ rightB v wr tb fr = true)) :
    Calls Try.prog 17 #[.pointer (some ⟨pm, 0, none⟩), .int .i64 f, .int .i64 p, .agg #[.bool v, .bool wr, .bool tb, .int .i64 fr]] w fun e w' => e = .returned (.int .i64 1) ∧ Below w.heap.size w w' := by
  cases hr : rightB v wr tb fr
  · have hE : wE v wr tb fr = 1 := by simp [wE, hr]
    have HE := Lib.hid hE
    clear hE
    go_enter Try.func17, Try.ntmps17
    go_wp2_with (fail)
    refine (word_any _ _ _ _ _).mono ?_
    rintro e w1 ⟨rfl, hb⟩
    rw [HE.out]
    have k1 : Below w.heap.size w w1 := ((Below.refl _ _).alloc (Nat.le_refl _) _).trans (hb.mono (by simp))
    go_wp2_with (fail)
    go_ret
    exact ⟨rfl, k1⟩
  · have hE : wE v wr tb fr = 0 := by simp [wE, hr]
    have HE := Lib.hid hE
    clear hE
    have h' : ¬ inT n f p := fun hi => h ⟨hi, hr⟩
    have hh : ¬ (0 ≤ f ∧ f < n) ∨ ((0 ≤ f ∧ f < n) ∧ p < 0) ∨ ((0 ≤ f ∧ f < n) ∧ ¬ p < 0 ∧ 16 ≤ p) := by unfold inT at h'; omega
    clear h h'
    rcases hh with hf | ⟨hf, h1⟩ | ⟨hf, h1, h2⟩
    all_goals
      go_enter Try.func17, Try.ntmps17
      go_wp2_with (fail)
      refine (word_any _ _ _ _ _).mono ?_
      rintro e w1 ⟨rfl, hb⟩
      rw [HE.out]
      have k1 : Below w.heap.size w w1 := ((Below.refl _ _).alloc (Nat.le_refl _) _).trans (hb.mono (by simp))
      have hm1 := hm.below k1
      go_wp2_with (fail)
      first
        | (refine (wk_has_no pm bk n W _ _ hm1 hf).mono ?_; rintro e w2 ⟨rfl, rfl⟩)
        | (refine (wk_has_yes pm bk n W _ _ hm1 hf.1 hf.2).mono ?_; rintro e w2 ⟨rfl, rfl⟩)
      go_wp2_with (fail)
      go_ret
      exact ⟨rfl, k1⟩

end Go.Proofs.Yteehghjdifbjbaa
