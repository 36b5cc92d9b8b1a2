/- What New, Ticks, Slots, Remove of package slots return and write, by walks over their text. -/
import Derived.Test.YtjacbcephokbbaaDoorPlace2
namespace Go.Proofs.YtjacbcephokbbaaDoor
set_option linter.unusedSimpArgs false
set_option linter.unusedVariables false
set_option maxRecDepth 100000
open Go.RowKit
set_option maxHeartbeats 4000000

theorem ticks_any (pt : Nat) (v : Value) (n : Int) (S : Nat → Bool) (L : List Win) (w : World) (h : TabIn w pt v n S L) :
    Calls Tryd.prog 24 #[.pointer (some ⟨pt, 0, none⟩)] w fun e w' => e = .returned (.int .i64 n) ∧ w = w' := by
  have c0 := h.c0
  go_enter Tryd.func24, Tryd.ntmps24
  go_wp2_with (fail)
  go_ret
  exact ⟨rfl, rfl⟩

def noneS : Nat → Bool := fun _ => false
theorem wordB_none (j : Nat) : wordB noneS j = 0 := by
  unfold wordB
  have : ∀ n, bitsI (fun k => noneS (64 * j + k)) n = 0 := fun n => by
    induction n with
    | zero => rfl
    | succ n ih => unfold bitsI; rw [ih]; rfl
  exact this 64
theorem tabOk_new {n : Int} (h1 : 1 ≤ n) (h2 : n ≤ 256) : TabOk n noneS [] := ⟨h1, h2, by simp, List.Pairwise.nil, fun _ _ => rfl⟩
theorem four {k : Nat} (h : k < 4) : k = 0 ∨ k = 1 ∨ k = 2 ∨ k = 3 := by omega
theorem tab_new (w : World) (n : Int) (t : TypeId) : TabIn (w.alloc (.cells #[.int .i64 n, .int .u64 0, .int .u64 0, .int .u64 0, .int .u64 0, .slice none 0 0] t)) w.heap.size (.slice none 0 0) n noneS [] := by
  refine ⟨by simp [go_sem], ⟨fun j hj => ?_, fun j hj => by simp [go_sem]⟩, by simp [go_sem], by simp [go_sem], World.ownsRow_nil _ _ _ _, by simp [Value.ownBlock], by simp⟩
  rw [wordB_none]
  rcases four hj with h | h | h | h <;> subst h <;> simp [go_sem]
theorem slots_new_no (n : Int) (w : World) (h : ¬ (1 ≤ n ∧ n ≤ 256)) :
    Calls Tryd.prog 9 #[.int .i64 n] w fun e w' => e = .returned (.tuple #[.pointer none, .int .i64 1]) ∧ w = w' := by
  have hh : n < 1 ∨ (¬ n < 1 ∧ 256 < n) := by omega
  clear h
  rcases hh with h | ⟨h, h'⟩
  all_goals
    go_enter Tryd.func9, Tryd.ntmps9
    go_wp2_with (fail)
    go_ret2
    exact ⟨rfl, rfl⟩
def SlotsNew (w : World) (n : Int) (e : Ending) (w' : World) : Prop := e = .returned (.tuple #[.pointer (some ⟨w.heap.size, 0, none⟩), .int .i64 0]) ∧ TabIn w' w.heap.size (.slice none 0 0) n noneS [] ∧ Below w.heap.size w w'
theorem slots_new_yes (n : Int) (w : World) (h1 : 1 ≤ n) (h2 : n ≤ 256) : Calls Tryd.prog 9 #[.int .i64 n] w (SlotsNew w n) := by
  have hN := Lib.hid (tab_new w n 56)
  go_enter Tryd.func9, Tryd.ntmps9
  go_wp2_with (fail)
  go_ret2
  exact ⟨rfl, hN.out, by repeat (first | with_reducible exact Below.refl _ _ | with_reducible assumption | with_reducible refine below_drewN ?_ _ | with_reducible refine Below.alloc ?_ (by simp <;> omega) _)⟩

theorem three_new (w : World) (a b c : Value) (t : TypeId) : ∀ j u, [a, b, c][j]? = some u → (w.alloc (.cells #[a, b, c] t)).cell? ((⟨w.heap.size, 0, none⟩ : Addr).add j) = some u := by
  intro j u h
  match j, h with
  | 0, h => simp at h; subst h; simp [Addr.add, go_sem]
  | 1, h => simp at h; subst h; simp [Addr.add, go_sem]
  | 2, h => simp at h; subst h; simp [Addr.add, go_sem]
  | j + 3, h => simp at h
theorem infoSlot : (Tryd.prog.info? 38).map (fun i => (i.zero, i.size, i.bytes)) = some (some (.agg #[.int .i64 0, .int .i64 0, .int .i64 0]), 3, 24) := by kernel_rfl
def SlotsPost (w : World) (B : Nat) (L : List Win) (e : Ending) (w' : World) : Prop := ∃ v, e = .returned v ∧ w'.ownsRow B 38 3 v L.length (winCells L) ∧ Below B w w'

theorem slots_slots (pt : Nat) (v : Value) (n : Int) (S : Nat → Bool) (L : List Win) (w : World) (h : TabIn w pt v n S L) (hlen : L.length ≤ 256) :
    Calls Tryd.prog 14 #[.pointer (some ⟨pt, 0, none⟩)] w (SlotsPost w w.heap.size L) := by
  obtain ⟨i0, hi, hz0, hz1, hz2⟩ := info_parts infoSlot
  obtain ⟨a, cap, hv, hw⟩ := own_wins h.row rfl
  have c5 := h.c5
  rw [hv] at c5
  obtain ⟨B, hB⟩ : ∃ B, B = w.heap.size := ⟨_, rfl⟩
  have HB := Lib.hid hB
  have hBB : B ≤ w.heap.size := by omega
  have bw : Below B w w := Below.refl _ _
  rw [← hB]
  clear hB h hv
  go_enter Tryd.func14, Tryd.ntmps14
  go_wp2_with (fail)
  go_loopw [3, 11] (fun lv i wr => ∃ k : Nat, k ≤ L.length ∧ i = .int .i64 k ∧ wr.ownsRow B 38 3 lv k (winCells (L.take k)) ∧ Below B w wr) (fun _ i _ => L.length - (intOf i).toNat)
  case atStart => exact ⟨0, by omega, rfl, World.ownsRow_nil _ _ _ _, bw⟩
  case round =>
    obtain ⟨k, hk, rfl, hown, hb⟩ := hrel
    have hBw : B ≤ wr.heap.size := Nat.le_trans hBB hb.size
    by_cases hlt : k < L.length
    · rcases hw.below (by rw [← HB.out]; exact hb) with h0 | ⟨b, rfl, hbl, hc⟩
      · rw [h0] at hlt; simp at hlt
      obtain ⟨q0, q1, q2⟩ := hc k hlt
      have hts : L.take (k + 1) = L.take k ++ [L[k]] := List.take_succ_eq_append_getElem hlt
      obtain ⟨x, hxx⟩ : ∃ x, L[k] = x := ⟨_, rfl⟩
      rw [hxx] at q0 q1 q2 hts
      have HTS := Lib.hid hts
      have i1 : (k : Int) < L.length := by omega
      clear hxx hc hw hts
      obtain ⟨wa, hwa⟩ : ∃ wa, wa = wr.alloc (.cells #[.int .i64 x.p, .int .i64 x.f, .int .i64 x.l] 58) := ⟨_, rfl⟩
      have hba : Below B w wa := by rw [hwa]; exact hb.alloc hBw _
      have howna := hown.alloc (.cells #[.int .i64 x.p, .int .i64 x.f, .int .i64 x.l] 58)
      have hha := howna.alloc (.cells #[.int .i64 x.p, .int .i64 x.f, .int .i64 x.l] 38)
      rw [← hwa] at howna
      have hBa : B ≤ wa.heap.size := Nat.le_trans hBB hba.size
      have z0 : wa.cell? ⟨wr.heap.size, 0, none⟩ = some (.int .i64 x.p) := by rw [hwa]; simp [go_sem]
      have z1 : wa.cell? ⟨wr.heap.size, 1, none⟩ = some (.int .i64 x.f) := by rw [hwa]; simp [go_sem]
      have z2 : wa.cell? ⟨wr.heap.size, 2, none⟩ = some (.int .i64 x.l) := by rw [hwa]; simp [go_sem]
      go_upto_region 5 with (fail)
      rw [← hwa]
      clear hwa hha
      go_wp2_with (at_builtin; refine wpList_append_own _ rfl _ _ 35 rfl B 38 i0 (.agg #[.int .i64 0, .int .i64 0, .int .i64 0]) 3 24 Tryd.underlying35 hi hz0 hz1 hz2 rfl (by decide) _ _ _ rfl (howna.alloc _) ⟨wa.heap.size, 0, none⟩ 1 1 (encW x) rfl rfl (three_new _ _ _ _ _) (fun y hy => by simp [encW] at hy; rcases hy with rfl | rfl | rfl <;> rfl) (by unfold maxLen; omega) (by omega) (by simp; omega) ?_; intro v' w3 hown' hgrow3 hnil3)
      rw [← winCells_snoc, ← HTS.out] at hown'
      have hb3 : Below B w w3 := Below.grown (hba.alloc (by omega) _) hgrow3 (by simp; omega) (fun j hj => (howna.lt _ hj).1)
      clear hown howna
      go_wp2_with (fail)
      go_roundw
      case rel => exact ⟨k + 1, by omega, by go_num, hown', hb3⟩
      case measure => simp [intOf]; omega
    · obtain rfl : k = L.length := by omega
      rw [List.take_length] at hown
      go_wp2_with (fail)
      go_ret
      exact ⟨_, rfl, hown, hb⟩

end Go.Proofs.YtjacbcephokbbaaDoor
