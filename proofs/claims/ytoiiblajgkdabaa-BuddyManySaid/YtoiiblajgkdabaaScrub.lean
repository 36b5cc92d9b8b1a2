/- Has, Scrub and Zero of package memory, and what they are of the reference's: by walks over their text. -/
import Derived.Test.YtoiiblajgkdabaaMemP
import Derived.Test.YtoiiblajgkdabaaClass
import Derived.Laws.IdiomCopy
import Derived.WalkMore
namespace Go.Proofs.Ytoiiblajgkdabaa
set_option linter.unusedSimpArgs false
set_option linter.unusedVariables false
set_option maxRecDepth 100000
open Go.RowKit
set_option maxHeartbeats 4000000

/-- The words with m frames from f on made noughts. -/
def scrubW (W : Nat → Int) (f m : Nat) : Nat → Int := fun i => if 16 * f ≤ i ∧ i < 16 * (f + m) then 0 else W i
theorem scrubW_zero (W : Nat → Int) (f : Nat) : scrubW W f 0 = W := by funext i; unfold scrubW; rw [if_neg (by omega)]
theorem scrubW_step (W : Nat → Int) (f m : Nat) : scrubW (scrubW W f m) (f + m) 1 = scrubW W f (m + 1) := by
  funext i
  unfold scrubW
  by_cases h1 : 16 * (f + m) ≤ i ∧ i < 16 * (f + m + 1)
  · rw [if_pos h1, if_pos (by omega)]
  · rw [if_neg h1]
    by_cases h2 : 16 * f ≤ i ∧ i < 16 * (f + m)
    · rw [if_pos h2, if_pos (by omega)]
    · rw [if_neg h2, if_neg (by omega)]

theorem heapCells (b : Nat) : ∀ (vs : List Value) (o : Nat) (w : World) (k : Nat), k ≠ b → (w.setCells b o vs).heap[k]? = w.heap[k]?
  | [], _, _, _, _ => rfl
  | v :: r, o, w, k, h => by rw [World.setCells, heapCells b r _ _ k h]; exact Below.heap_setCell _ _ _ _ h
theorem touchCells (b : Nat) : ∀ (vs : List Value) (o : Nat) (w : World), Touch (· = b) w (w.setCells b o vs)
  | [], _, w => Touch.refl _ w
  | v :: r, o, w => (Touch.setCell (S := (· = b)) (Touch.refl _ w) (p := ⟨b, o, none⟩) (Or.inl rfl) v).trans (touchCells b r (o + 1) _)
theorem MemIn.zero16 {w : World} {pm bk n : Nat} {W : Nat → Int} (hm : MemIn w pm bk n W) (k : Nat) (hk : k < n) :
    MemIn (w.setCells bk (16 * k) (List.replicate 16 (.int .u64 0))) pm bk n (scrubW W k 1) := by
  have ht := touchCells bk (List.replicate 16 (.int .u64 0)) (16 * k) w
  refine ⟨?_, ?_, ?_, ?_, ?_, ?_, ?_, hm.ne, hm.n1, hm.n2⟩
  · rw [cell_of_heap (ht.block pm hm.pm_lt hm.ne)]; exact hm.ptr
  · intro i hi
    unfold scrubW
    by_cases h : 16 * k ≤ i ∧ i < 16 * (k + 1)
    · rw [if_pos h]
      obtain ⟨j, rfl⟩ : ∃ j, i = 16 * k + j := ⟨i - 16 * k, by omega⟩
      rw [World.cell?_setCells_in bk _ _ _ (fun j hj => by rw [hm.cell _ (by simp at hj; omega)]; rfl) j (by simp; omega)]
      rw [List.getElem_replicate]
    · rw [if_neg h, World.cell?_setCells_out bk _ _ _ _ (fun _ _ => by simp; omega)]
      exact hm.cell i hi
  · intro i hi; rw [World.frozen?_setCells]; exact hm.free i hi
  · intro i; unfold scrubW; split; exact Int.le_refl _; exact hm.lo i
  · intro i; unfold scrubW; split; decide; exact hm.hi i
  · exact Nat.lt_of_lt_of_le hm.pm_lt ht.size
  · exact Nat.lt_of_lt_of_le hm.bk_lt ht.size

theorem list_copy_cells {P : Program} {w : World} {ops : Array Oper} {rest : List Oper} {o : Oper} {a : Act} {Q : Exit → Act → World → Prop} (hgd : o.guard = none) (d s : Operand) (dT sT : TypeId)
    (ho : o.op = .call { callee := .builtin .copy, args := #[d, s], argTypes := #[dT, sT] }) (elem : TypeId) (hu : P.underlying dT = some (.slice elem)) (hsz : (P.info? elem).map (·.size) = some 1)
    (b off dLen dCap : Nat) (ad : Addr) (sLen sCap : Nat) (hd : a.eval d = .slice (some ⟨b, off, none⟩) dLen dCap) (hs : a.eval s = .slice (some ad) sLen sCap)
    (cs : List Value) (hn : cs.length = Nat.min sLen dLen) (hsrc : ∀ j v, cs[j]? = some v → w.cell? (ad.add j) = some v)
    (hc : ∀ j, j < cs.length → (w.cell? ⟨b, off + j, none⟩).isSome = true) (hf : ∀ j, j < cs.length → w.frozen? ⟨b, off + j, none⟩ = false) (h1 : ∀ v ∈ cs, v.oneCell' = true)
    (h : wpList P ops Q rest (a.put o.dst (goInt cs.length)) (w.setCells b off cs)) : wpList P ops Q (o :: rest) a w := by
  refine wpList_plain hgd fun K hK => ?_
  have hrun := run_copy_cells (P := P) w dT sT o.type elem b off dLen dCap ad sLen sCap cs hu hsz hn hsrc hc hf h1
  unfold Oper.wp
  simp [execOp, ho, resolve, invoke, builtin, hd, hs, hrun, Result.andThen]
  exact hK _ _ h

theorem has_yes (pm bk n : Nat) (W : Nat → Int) (f m : Int) (w : World) (hm : MemIn w pm bk n W) (h1 : 1 ≤ m) (h2 : m ≤ n) (h3 : 0 ≤ f) (h4 : f ≤ n - m) :
    Calls Try.prog 56 #[.pointer (some ⟨pm, 0, none⟩), .int .i64 f, .int .i64 m] w fun e w' => e = .returned (.bool true) ∧ w = w' := by
  have hp := hm.ptr
  have hn := hm.n2
  have d1 : decide (1 ≤ m) = true := by simp; omega
  have d2 : decide (m ≤ n) = true := by simp; omega
  have d3 : decide (0 ≤ f) = true := by simp; omega
  have d4 : decide (f ≤ n - m) = true := by simp; omega
  have hw : IntKind.i64.wrap ((n : Int) - m) = (n : Int) - m := IntWalk.i64_in _ ⟨by omega, by omega⟩
  clear hm
  go_enter Try.func56, Try.ntmps56
  go_wp2_with (fail)
  go_ret
  exact ⟨rfl, rfl⟩
theorem has_no (pm bk n : Nat) (W : Nat → Int) (f m : Int) (w : World) (hm : MemIn w pm bk n W) (h : ¬ (1 ≤ m ∧ m ≤ n ∧ 0 ≤ f ∧ f ≤ n - m)) :
    Calls Try.prog 56 #[.pointer (some ⟨pm, 0, none⟩), .int .i64 f, .int .i64 m] w fun e w' => e = .returned (.bool false) ∧ w = w' := by
  have hp := hm.ptr
  have hn := hm.n2
  clear hm
  have hh : m < 1 ∨ (1 ≤ m ∧ (n : Int) < m) ∨ (1 ≤ m ∧ m ≤ n ∧ f < 0) ∨ (1 ≤ m ∧ m ≤ n ∧ 0 ≤ f ∧ n - m < f) := by omega
  clear h
  rcases hh with h1 | ⟨h1, h2⟩ | ⟨h1, h2, h3⟩ | ⟨h1, h2, h3, h4⟩
  · go_enter Try.func56, Try.ntmps56
    go_wp2_with (fail)
    go_ret
    exact ⟨rfl, rfl⟩
  · go_enter Try.func56, Try.ntmps56
    go_wp2_with (fail)
    go_ret
    exact ⟨rfl, rfl⟩
  · go_enter Try.func56, Try.ntmps56
    go_wp2_with (fail)
    go_ret
    exact ⟨rfl, rfl⟩
  · have hw : IntKind.i64.wrap ((n : Int) - m) = (n : Int) - m := IntWalk.i64_in _ ⟨by omega, by omega⟩
    have d4 : decide (f ≤ n - m) = false := by simp; omega
    go_enter Try.func56, Try.ntmps56
    go_wp2_with (fail)
    go_ret
    exact ⟨rfl, rfl⟩

theorem scrub_no (pm bk n : Nat) (W : Nat → Int) (f m : Int) (w : World) (hm : MemIn w pm bk n W) (h : ¬ (1 ≤ m ∧ m ≤ n ∧ 0 ≤ f ∧ f ≤ n - m)) :
    Calls Try.prog 54 #[.pointer (some ⟨pm, 0, none⟩), .int .i64 f, .int .i64 m] w fun e w' => e = .returned (.int .i64 1) ∧ w = w' := by
  have H := has_no pm bk n W f m w hm h
  go_enter Try.func54, Try.ntmps54
  go_wp2_with (fail)
  refine H.mono ?_
  rintro e w' ⟨rfl, rfl⟩
  go_wp2_with (fail)
  go_ret
  exact ⟨rfl, rfl⟩

theorem scrub_yes (pm bk n : Nat) (W : Nat → Int) (f m : Nat) (w : World) (hm : MemIn w pm bk n W) (h1 : 1 ≤ m) (h2 : f + m ≤ n) :
    Calls Try.prog 54 #[.pointer (some ⟨pm, 0, none⟩), .int .i64 f, .int .i64 m] w fun e w' => e = .returned (.int .i64 0) ∧ MemIn w' pm bk n (scrubW W f m) ∧ Touch (· = bk) w w' := by
  have H := Lib.hid (has_yes pm bk n W f m w hm (by omega) (by omega) (by omega) (by omega))
  have hn := hm.n2
  go_enter Try.func54, Try.ntmps54
  go_wp2_with (fail)
  refine H.out.mono ?_
  rintro e w' ⟨rfl, rfl⟩
  go_wp2_with (fail)
  obtain ⟨nb, hnb⟩ : ∃ nb, nb = w.heap.size := ⟨_, rfl⟩
  have hsl := hm.bk_lt
  have hz : ∀ j, j < 16 → (w.alloc (.cells #[.int .u64 0, .int .u64 0, .int .u64 0, .int .u64 0, .int .u64 0, .int .u64 0, .int .u64 0, .int .u64 0, .int .u64 0, .int .u64 0, .int .u64 0, .int .u64 0, .int .u64 0, .int .u64 0, .int .u64 0, .int .u64 0] 99)).cell? ⟨nb, j, none⟩ = some (.int .u64 0) := fun j hj => by
    rw [hnb, World.cell?_alloc_at _ _ _ _ rfl]
    have : j = 0 ∨ j = 1 ∨ j = 2 ∨ j = 3 ∨ j = 4 ∨ j = 5 ∨ j = 6 ∨ j = 7 ∨ j = 8 ∨ j = 9 ∨ j = 10 ∨ j = 11 ∨ j = 12 ∨ j = 13 ∨ j = 14 ∨ j = 15 := by omega
    rcases this with rfl | rfl | rfl | rfl | rfl | rfl | rfl | rfl | rfl | rfl | rfl | rfl | rfl | rfl | rfl | rfl <;> rfl
  have hb0 : Below w.heap.size w (w.alloc (.cells #[.int .u64 0, .int .u64 0, .int .u64 0, .int .u64 0, .int .u64 0, .int .u64 0, .int .u64 0, .int .u64 0, .int .u64 0, .int .u64 0, .int .u64 0, .int .u64 0, .int .u64 0, .int .u64 0, .int .u64 0, .int .u64 0] 99)) := (Below.refl _ _).alloc (Nat.le_refl _) _
  obtain ⟨w1, hw1⟩ : ∃ w1, w1 = w.alloc (.cells #[.int .u64 0, .int .u64 0, .int .u64 0, .int .u64 0, .int .u64 0, .int .u64 0, .int .u64 0, .int .u64 0, .int .u64 0, .int .u64 0, .int .u64 0, .int .u64 0, .int .u64 0, .int .u64 0, .int .u64 0, .int .u64 0] 99) := ⟨_, rfl⟩
  have hs1 : nb < w1.heap.size := by rw [hw1, hnb]; simp
  rw [← hw1] at hz hb0
  rw [← hnb, ← hw1]
  have hne : nb ≠ bk := by omega
  clear hw1 hnb
  go_loopw [15] (fun i wr => ∃ k : Nat, k ≤ m ∧ i = .int .i64 k ∧ MemIn wr pm bk n (scrubW W f k) ∧ Touch (· = bk) w1 wr) (fun i _ => m - (intOf i).toNat)
  case atStart => exact ⟨0, by omega, rfl, by rw [scrubW_zero]; exact hm.below hb0, Touch.refl _ _⟩
  case round =>
    obtain ⟨k, hk, rfl, hmk, htk⟩ := hrel
    by_cases hkm : k < m
    · have hd : decide ((k : Int) < m) = true := by simp; omega
      have hm2 : MemIn wr.drew pm bk n (scrubW W f k) := hmk.below ((Below.refl _ _).drew)
      have ht2 : Touch (· = bk) w1 wr.drew := htk.trans (Touch.of_below ((Below.refl _ _).drew))
      have q0 : ∀ p : Wc (fun w' => wr.drew = w'), p.w.cell? ⟨pm, 0, none⟩ = some (.slice (some ⟨bk, 0, none⟩) n n) := fun p => by rw [← p.h]; exact hm2.ptr
      have hzz : ∀ j, j < 16 → wr.drew.cell? ⟨nb, j, none⟩ = some (.int .u64 0) := fun j hj => by rw [cell_of_heap (ht2.block nb hs1 hne)]; exact hz j hj
      have hwa : IntKind.i64.wrap ((f : Int) + (k : Int)) = ((f + k : Nat) : Int) := by push_cast; exact IntWalk.i64_in _ ⟨by omega, by omega⟩
      have hlt : ((f + k : Nat) : Int) < (n : Int) := by omega
      have HZ := Lib.hid hz
      have HM2 := Lib.hid hm2
      have HZZ := Lib.hid hzz
      clear hm2 hmk hz hzz htk
      go_wp2_with (fail)
      refine region_tail (fun w' => wr.drew = w') 10 (by kernel_rfl) (by kernel_rfl) rfl ?_
      intro _
      simp only [List.take_succ_cons, List.take_zero, List.drop_succ_cons, List.drop_zero]
      (repeat (first | go_big_quiet_step (fail) | quiet_step (fail)))
      refine wpQuiet_nil ?_
      rintro _ rfl
      clear q0
      have hz16 := HM2.out.zero16 (f + k) (by omega)
      have hcc : ∀ j, j < (List.replicate 16 (Value.int .u64 0)).length → wr.drew.cell? ⟨bk, (f + k) * 16 + j, none⟩ = some (.int .u64 (scrubW W f k ((f + k) * 16 + j))) := fun j hj => HM2.out.cell _ (by simp at hj; omega)
      refine list_copy_cells (by rfl) _ _ _ _ (by rfl) 35 (by rfl) (by kernel_rfl) bk ((f + k) * 16) 16 16 ⟨nb, 0, none⟩ 16 16 (by rfl) (by rfl) (List.replicate 16 (.int .u64 0)) (by rfl)
        (fun j v hv => by
          obtain ⟨hj, rfl⟩ := List.getElem?_eq_some_iff.1 hv
          rw [List.getElem_replicate]
          have := HZZ.out j (by simpa using hj)
          have hadd : (⟨nb, 0, none⟩ : Addr).add j = ⟨nb, j, none⟩ := by unfold Addr.add; split <;> simp_all
          rw [hadd]; exact this)
        (fun j hj => by rw [hcc j hj]; rfl) (fun j hj => HM2.out.free _ (by simp at hj; omega)) (fun v hv => by rw [List.eq_of_mem_replicate hv]; rfl) ?_
      rw [show 16 * (f + k) = (f + k) * 16 by omega, scrubW_step] at hz16
      have ht3 := ht2.trans (touchCells bk (List.replicate 16 (.int .u64 0)) ((f + k) * 16) wr.drew)
      obtain ⟨w5, hw5⟩ : ∃ w5, w5 = wr.drew.setCells bk ((f + k) * 16) (List.replicate 16 (.int .u64 0)) := ⟨_, rfl⟩
      rw [← hw5] at hz16 ht3 ⊢
      clear hw5 hcc
      have hz := HZ.out
      go_wp2_with (fail)
      go_roundw
      case rel => exact ⟨k + 1, by omega, by go_num, hz16, ht3⟩
      case measure => simp [intOf]; omega
    · obtain rfl : k = m := by omega
      go_wp2_with (fail)
      go_ret
      exact ⟨rfl, hmk, (Touch.of_below hb0).trans htk⟩

theorem eq16 (w : World) : (Op.equalIn 10000 99 (.agg #[.int .u64 0, .int .u64 0, .int .u64 0, .int .u64 0, .int .u64 0, .int .u64 0, .int .u64 0, .int .u64 0, .int .u64 0, .int .u64 0, .int .u64 0, .int .u64 0, .int .u64 0, .int .u64 0, .int .u64 0, .int .u64 0]) (.agg #[.int .u64 0, .int .u64 0, .int .u64 0, .int .u64 0, .int .u64 0, .int .u64 0, .int .u64 0, .int .u64 0, .int .u64 0, .int .u64 0, .int .u64 0, .int .u64 0, .int .u64 0, .int .u64 0, .int .u64 0, .int .u64 0])).run Try.prog w = .ok true w := by
  have u3 := Try.underlying35
  have a3 := Try.isAgg35
  have z3 := Try.sizeOf35
  rw [show (10000 : Nat) = 9999 + 1 from rfl, Op.equalIn]
  simp only [Sem.run_bind, run_underlying Try.underlying99, Result.andThen_ok]
  simp only [Std.Legacy.Range.forIn_eq_forIn_range', Std.Legacy.Range.size, Nat.sub_zero, Nat.add_sub_cancel, Nat.div_one, List.range'_succ, List.range'_zero, List.forIn_cons, List.forIn_nil]
  go_simp
theorem zero_yes (pm bk n : Nat) (W : Nat → Int) (f : Nat) (w : World) (hm : MemIn w pm bk n W) (hf : f < n) (h0 : ∀ i, 16 * f ≤ i → i < 16 * (f + 1) → W i = 0) :
    Calls Try.prog 22 #[.pointer (some ⟨pm, 0, none⟩), .int .i64 f] w fun e w' => e = .returned (.bool true) ∧ w = w' := by
  have H := Lib.hid (has_yes pm bk n W f 1 w hm (by omega) (by omega) (by omega) (by omega))
  have hn := hm.n2
  have hp := hm.ptr
  have hff : (f : Int) < (n : Int) := by omega
  have hc : ∀ j, j < 16 → w.cell? ⟨bk, f * 16 + j, none⟩ = some (.int .u64 0) := fun j hj => by rw [hm.cell _ (by omega), h0 _ (by omega) (by omega)]
  have c0 : w.cell? ⟨bk, f * 16, none⟩ = some (.int .u64 0) := hc 0 (by omega)
  have h16 := eq16
  have c1 := hc 1 (by omega); have c2 := hc 2 (by omega); have c3 := hc 3 (by omega)
  have c4 := hc 4 (by omega); have c5 := hc 5 (by omega); have c6 := hc 6 (by omega); have c7 := hc 7 (by omega)
  have c8 := hc 8 (by omega); have c9 := hc 9 (by omega); have c10 := hc 10 (by omega); have c11 := hc 11 (by omega)
  have c12 := hc 12 (by omega); have c13 := hc 13 (by omega); have c14 := hc 14 (by omega); have c15 := hc 15 (by omega)
  clear hc h0 hm
  go_enter Try.func22, Try.ntmps22
  go_wp2_with (fail)
  refine H.out.mono ?_
  rintro e w' ⟨rfl, rfl⟩
  go_wp2_with (fail)
  go_ret
  exact ⟨rfl, rfl⟩

end Go.Proofs.Ytoiiblajgkdabaa
