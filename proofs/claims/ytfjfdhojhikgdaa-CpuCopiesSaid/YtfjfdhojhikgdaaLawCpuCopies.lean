/- CpuCopies returns true, by a walk over its text. -/
import Derived.Test.YtfjfdhojhikgdaaLawCpu
import Derived.Test.YtfjfdhojhikgdaaCopy13
namespace Go.Proofs.Ytfjfdhojhikgdaa
set_option linter.unusedSimpArgs false
set_option linter.unusedVariables false
open Go.RowKit
set_option maxHeartbeats 8000000

theorem cpuCopies_out (a : Option Addr) (n cap : Nat) (w : World) (hm : n ≤ 9223372036854775807) (h : n < 1 ∨ (1 ≤ n ∧ 30 < n)) :
    Calls Try.prog 9 #[.slice a n cap] w fun e w' => e = .returned (.bool true) ∧ Below w.heap.size w w' := by
  rcases h with h | ⟨h, h2⟩
  · obtain rfl : n = 0 := by omega
    go_enter Try.func9, Try.ntmps9
    go_wp2_with (fail)
    refine (awake13 _).mono ?_
    rintro e w1 ⟨rfl, hb1⟩
    go_wp2_with (fail)
    go_ret
    exact ⟨rfl, hb1⟩
  · go_enter Try.func9, Try.ntmps9
    go_wp2_with (fail)
    refine (awake13 _).mono ?_
    rintro e w1 ⟨rfl, hb1⟩
    go_wp2_with (fail)
    go_ret
    exact ⟨rfl, hb1⟩

def cop13 (n : Int) : List Int := [1, 1, 0, 0, n, 1, 2, 0, 0, 1, 6, 4, 3, 0, 20, 7, 4, 3, 0, 60, 2, 3, 3, 2, 0, 3, 1, 1, 2, 0, 9, 1, 0, 0, 8, 8, 0, 0, 0, 2, 0, 0, 0, 0, 0]
theorem cop13_ok (n : Int) (h0 : 0 ≤ n) (h1 : n ≤ 300) : InsOk (fun i j => (cop13 n).getD (i * 5 + j) 0) 9 := by
  intro i hi
  have : i = 0 ∨ i = 1 ∨ i = 2 ∨ i = 3 ∨ i = 4 ∨ i = 5 ∨ i = 6 ∨ i = 7 ∨ i = 8 := by omega
  rcases this with rfl | rfl | rfl | rfl | rfl | rfl | rfl | rfl | rfl <;> simp [cop13] <;> omega
/-- The words that are laid: the program's, and k of those that came in. -/
def layW (n : Int) (V : Nat → Int) (k : Nat) : Nat → Int := fun j => if j < 9 then progV (cop13 n) 9 j else if 20 ≤ j ∧ j < 20 + k then V (j - 20) else 0
theorem layW_copy (n : Int) (V : Nat → Int) (k : Nat) : CopyW (layW n V k) n := by
  refine ⟨?_, ?_, ?_, ?_, ?_, ?_, ?_, ?_, ?_⟩ <;> simp [layW, progV, wordX, cop13, rightI, needB]
theorem layW_bd {n : Int} (h0 : 0 ≤ n) (h1 : n ≤ 300) {V : Nat → Int} (hV : ∀ i, 0 ≤ V i ∧ V i < 18446744073709551616) (k j : Nat) : 0 ≤ layW n V k j ∧ layW n V k j < 18446744073709551616 := by
  unfold layW
  split
  · exact progV_bd (cop13_ok n h0 h1) j
  · split
    · exact hV _
    · omega

set_option maxRecDepth 100000 in
theorem cpuCopies_walk (a : Option Addr) (n cap : Nat) (V : Nat → Int) (w : World) (ha : WArg w a n V) (hV : ∀ i, 0 ≤ V i ∧ V i < 18446744073709551616) (h1 : 1 ≤ n) (h2 : n ≤ 30) :
    Calls Try.prog 9 #[.slice a n cap] w fun e w' => e = .returned (.bool true) ∧ Below w.heap.size w w' := by
  obtain ⟨d, r', hrun, hr8, hr3⟩ := copy_all (layW n V n) n h1 h2 (layW_copy n V n)
  have HRUN := Lib.hid hrun; have H3 := Lib.hid hr3; have H8 := Lib.hid hr8
  clear hrun hr3 hr8
  obtain ⟨i0, hi, hz0, hz1, hz2⟩ := info_parts info_u64
  have hmk : ∀ w, (Instr.makeSlice 26 (.int .i64 100) (.int .i64 100)).run Try.prog w = _ := fun w => run_make (P := Try.prog) w 26 22 i0 _ Try.underlying26 hi hz0 .i64 .i64 100 100 (by omega) (by omega) (by rw [hz2]; omega) (by omega)
  rw [hz1] at hmk
  go_enter Try.func9, Try.ntmps9
  go_wp2_with (fail)
  refine (awake13 _).mono ?_
  rintro e w1 ⟨rfl, hb1⟩
  go_wp2_with (fail)
  refine (words_walk w1.heap.size 9 9 (fun i j => (cop13 n).getD (i * 5 + j) 0) _ (by simp) (ins_cells w1 (cop13 n) 50 9 rfl) (cop13_ok n (by omega) (by omega)) (by omega) (by omega)).mono ?_
  rintro e w2 ⟨g, c, rfl, hg, hgl, hgc, hb2⟩
  have k2 : Below w.heap.size w w2 := hb1.trans (Below.trans ((Below.refl _ _).alloc hb1.size _) (hb2.mono (by have := hb1.size; simp; omega)))
  have k2s := k2.size
  have hb1s := hb1.size
  obtain ⟨w3, hw3⟩ : ∃ w3, w3 = w2.alloc (.cells (madeCells #[.int .u64 0] 100) 22) := ⟨_, rfl⟩
  have hb3 : Below w2.heap.size w2 w3 := by rw [hw3]; exact (Below.refl _ _).alloc (Nat.le_refl _) _
  have k3 := k2.trans (hb3.mono k2.size)
  have s3 : w3.heap.size = w2.heap.size + 1 := by rw [hw3]; simp
  have hws3 : WordsIn w3 w2.heap.size 100 (fun j => if j < 0 then progV (cop13 n) 9 j else 0) := by
    refine ⟨fun i hi => ?_, fun i hi => ?_, fun i => by simp, by omega⟩
    · rw [hw3, World.cell?_alloc_at _ _ _ _ rfl]
      unfold madeCells
      simp only [Array.getElem?_map, Array.getElem?_range, hi, if_true, Option.map_some]
      simp [Nat.mod_one]
    · rw [hw3, World.frozen?_alloc_at _ _ _ _ rfl]
  have hgc3 : ∀ i, i < 9 → w3.cell? ⟨g, i, none⟩ = some (.int .u64 (progV (cop13 n) 9 i)) := fun i hi => by rw [keep hb3 hgl (hgc i hi)]; simp [progV, hi]
  have hgne : ¬ g = w2.heap.size := by omega
  have hpb := progV_bd (cop13_ok n (by omega) (by omega))
  have HGC := Lib.hid hgc3; have HPB := Lib.hid hpb
  clear hgc3 hgc hpb
  go_wp2_with (fail)
  rw [← hw3]
  clear hw3 hmk
  go_loopw [7] (fun i wr => ∃ k : Nat, i = .int .i64 k ∧ k ≤ 9 ∧ WordsIn wr w2.heap.size 100 (fun j => if j < k then progV (cop13 n) 9 j else 0) ∧ Touch (· = w2.heap.size) w3 wr) (fun i _ => 9 - (intOf i).toNat)
  case atStart => exact ⟨0, rfl, by omega, hws3, Touch.refl _ _⟩
  case round =>
    obtain ⟨k, rfl, hk, hwr, htr⟩ := hrel
    rename World => wr
    by_cases hlt : k < 9
    · have q1 := keepT htr (by omega) hgne (HGC.out k hlt)
      have q2 := hwr.cell k (by omega)
      have q3 := hwr.free k (by omega)
      have q4 := hwr.lt
      have kv0 : (0 : Int) ≤ k := by omega
      have kv1 : (k : Int) < 9 := by omega
      have hset := hwr.set k (by omega) (progV (cop13 n) 9 k) (HPB.out k)
      have hW : setF (fun j => if j < k then progV (cop13 n) 9 j else 0) k (progV (cop13 n) 9 k) = (fun j => if j < k + 1 then progV (cop13 n) 9 j else 0) := by
        funext j
        unfold setF
        by_cases e : j = k
        · subst e; simp
        · have : (j < k + 1) = (j < k) := by simp; omega
          simp [e, this]
      rw [hW] at hset
      have hts : Touch (· = w2.heap.size) w3 (wr.setCell ⟨w2.heap.size, k, none⟩ (.int .u64 (progV (cop13 n) 9 k))) := htr.setCell (Or.inl rfl) _
      have HST := Lib.hid hset
      clear hset hW
      generalize progV (cop13 n) 9 k = X at q1 HST hts
      go_wp2_with (fail)
      go_roundw
      case rel => exact ⟨k + 1, by go_num, by omega, HST.out, hts⟩
      case measure => simp [intOf]; omega
    · have hk9 : k = 9 := by omega
      subst hk9
      have hW : (fun j => if j < 9 then progV (cop13 n) 9 j else 0) = layW n V 0 := by
        funext j
        unfold layW
        split
        · rfl
        · rw [if_neg (by omega)]
      rw [hW] at hwr
      clear hW
      have kr : Below w.heap.size w wr := k3.trans (htr.below k3.size (fun j hj => by omega))
      have har := ha.below kr
      have srr := htr.size
      go_wp2_with (fail)
      go_loopw [8] (fun i wq => ∃ k : Nat, i = .int .i64 k ∧ k ≤ n ∧ WordsIn wq w2.heap.size 100 (layW n V k) ∧ Touch (· = w2.heap.size) wr wq) (fun i _ => n - (intOf i).toNat)
      case atStart => exact ⟨0, rfl, by omega, hwr, Touch.refl _ _⟩
      case round =>
        obtain ⟨k, rfl, hk, hwq, htq⟩ := hrel
        rename World => wq
        have sq := htq.size
        by_cases hlt : k < n
        · rcases har with h0 | ⟨b, off, rfl, hbl, hc⟩
          · omega
          have hbw : b < w.heap.size := by
            rcases ha with h0 | ⟨b', off', he, hb', _⟩
            · omega
            · cases he; exact hb'
          have q1 := keepT htq hbl (by omega) (hc k hlt)
          have q2 := hwq.cell (20 + k) (by omega)
          have q3 := hwq.free (20 + k) (by omega)
          have q4 := hwq.lt
          have q5 : b < wq.heap.size := by omega
          have kv0 : (0 : Int) ≤ k := by omega
          have kv1 : (k : Int) < n := by omega
          have kv2 : ((20 : Int) + k).toNat = 20 + k := by omega
          have hset := hwq.set (20 + k) (by omega) (V k) (hV k)
          have hW : setF (layW n V k) (20 + k) (V k) = layW n V (k + 1) := by
            funext j
            unfold setF layW
            by_cases e : j = 20 + k
            · subst e
              rw [if_pos rfl, if_neg (by omega), if_pos (by omega)]
              congr 1; omega
            · rw [if_neg e]
              by_cases h9 : j < 9
              · rw [if_pos h9, if_pos h9]
              · rw [if_neg h9, if_neg h9]
                by_cases hh : 20 ≤ j ∧ j < 20 + k
                · rw [if_pos hh, if_pos (by omega)]
                · rw [if_neg hh, if_neg (by omega)]
          rw [hW] at hset
          have hts : Touch (· = w2.heap.size) wr (wq.setCell ⟨w2.heap.size, 20 + k, none⟩ (.int .u64 (V k))) := htq.setCell (Or.inl rfl) _
          have HST := Lib.hid hset
          have HKV := Lib.hid kv2
          clear hset hW kv2
          generalize V k = X at q1 HST hts
          go_wp2_with (fail)
          try rw [HKV.out]
          go_roundw
          case rel => exact ⟨k + 1, by go_num, by omega, HST.out, hts⟩
          case measure => simp [intOf]; omega
        · have hkn : k = n := by omega
          subst hkn
          have kq : Below w.heap.size w wq := kr.trans (htq.below kr.size (fun j hj => by omega))
          go_wp2_with (fail)
          have hlb := layW_bd (n := (k : Int)) (by omega) (by omega) hV k
          have hwql := hwq.lt
          refine (of_any _ 100 100 (layW k V k) 60 _ (Or.inr ⟨w2.heap.size, 0, rfl, hwq.lt, fun i hi => by rw [Nat.zero_add]; exact hwq.cell i hi⟩) (fun h => by cases h) hlb (by omega)).mono ?_
          rintro e w5 ⟨pf, bk, c5, rfl, hf5, hpf, hbk, hb5⟩
          have hlb2 := Lib.hid hlb
          clear hlb
          have k5 := kq.trans (hb5.mono kq.size)
          have s5 := hb5.size
          obtain ⟨w6, hw6⟩ : ∃ w6, w6 = w5.alloc (.cells #[.int .u64 0, .int .u64 0, .int .u64 0, .int .u64 0, .int .u64 0, .int .u64 0, .int .u64 0, .int .u64 0, .int .u64 0] 25) := ⟨_, rfl⟩
          have hb6 : Below w5.heap.size w5 w6 := by rw [hw6]; exact (Below.refl _ _).alloc (Nat.le_refl _) _
          have k6 := k5.trans (hb6.mono k5.size)
          have hr6 : RegsIn w6 w5.heap.size (fun _ => 0) := by rw [hw6]; exact regs_new _
          have hf6 := (hf5.below hb6).flat
          have hrl6 := hr6.row.lt
          have hws6 : WordsIn w6 w2.heap.size 100 (layW k V k) := (hwq.touch (S := fun _ => False) (Touch.of_below hb5) id).touch (S := fun _ => False) (Touch.of_below hb6) id
          have har6 := ha.below k6
          have l1 := hf5.pf_lt
          have l2 := hf5.words.lt
          have l3 := hf5.ne
          obtain ⟨R, hR⟩ : ∃ R, R = runM 100 60 1000 (fun _ => 0) (layW k V k) := ⟨_, rfl⟩
          have hq := HRUN.out
          unfold RunsTo at hq
          rw [← hR] at hq
          have HQ := Lib.hid hq
          clear hq
          go_wp2_with (fail)
          rw [← hw6]
          clear hw6
          refine (run_walk w5.heap.size pf bk w6.heap.size 100 c5 (layW k V k) (fun _ => 0) 60 [] none 1000 _ hr6 hf6 (by simp) (by omega) (by omega) (by omega) (by omega) R hR.symm).mono ?_
          rintro e w7 ⟨rfl, hr7, ⟨lb7, hf7, hn7⟩, ht7⟩
          clear hR
          have nT : ∀ j, j < w5.heap.size → j ≠ pf → j ≠ bk → ¬ TS w5.heap.size pf bk none j := by
            intro j h0 h1 h2
            rintro (h | h | h | h)
            · omega
            · exact h1 h
            · exact h2 h
            · cases h
          have k7 : Below w.heap.size w w7 := k6.trans (ht7.below k6.size (fun j hj => nT j (by omega) (by omega) (by omega)))
          have hws7 := hws6.touch ht7 (nT _ (by omega) (by omega) (by omega))
          have har7 := ha.below k7
          obtain ⟨q1, q2, q3, q4⟩ := HQ.out
          rw [q3] at hr7
          rw [q4] at hf7
          rw [q1, q2]
          clear q1 q2 q3 q4 HQ HRUN
          have c3 : w7.cell? ⟨w5.heap.size, 3, none⟩ = some (.int .u64 k) := by rw [hr7.row.cell 3 (by omega), H3.out]
          have c8 : w7.cell? ⟨w5.heap.size, 8, none⟩ = some (.int .u64 8) := by rw [hr7.row.cell 8 (by omega), H8.out]
          have cf := hf7.ptr
          go_wp2_with (fail)
          go_loop [14] (fun i => ∃ q : Nat, i = .int .i64 q ∧ q ≤ 100) (fun i => 100 - (intOf i).toNat)
          case atStart => exact ⟨0, rfl, by omega⟩
          case round =>
            obtain ⟨q, rfl, hq⟩ := hrel
            by_cases hlq : q < 100
            · have d1 := hws7.cell q hlq
              have d2 := hf7.words.cell q hlq
              have kv0 : (0 : Int) ≤ q := by omega
              have kv1 : (q : Int) < 100 := by omega
              by_cases h60 : 60 ≤ q ∧ q < 60 + k
              · obtain ⟨ha0, hb0⟩ := h60
                rcases har7 with h0 | ⟨b, off, rfl, hbl, hc⟩
                · omega
                have d3 := hc (q - 60) (by omega)
                have e1 : copied (layW k V k) 0 k q = V (q - 60) := by
                  unfold copied
                  rw [if_pos (by omega)]
                  unfold layW
                  rw [if_neg (by omega), if_pos (by omega)]
                  first | done | (congr 1; done) | (congr 1; omega)
                rw [e1] at d2
                have ei : ((q : Int) - 60).toNat = q - 60 := by omega
                have t1 : (60 : Int) ≤ q := by omega
                have t2 : (q : Int) < 60 + k := by omega
                have t3 : (0 : Int) ≤ (q : Int) - 60 := by omega
                have t4 : (q : Int) - 60 < k := by omega
                clear e1
                generalize V (q - 60) = X at d2 d3
                generalize layW k V k q = Y at d1
                go_wp2_with (fail)
                go_round
                case rel => exact ⟨q + 1, by go_num, by omega⟩
                case measure => simp [intOf]; omega
              · have e1 : copied (layW k V k) 0 k q = layW k V k q := by
                  unfold copied
                  rw [if_neg (by omega)]
                rw [e1] at d2
                clear e1
                generalize layW k V k q = Y at d1 d2
                have hcs : (q : Int) < 60 ∨ (¬ (q : Int) < 60 ∧ 60 + (k : Int) ≤ q) := by omega
                rcases hcs with hcs | ⟨hcs, hcs2⟩
                all_goals
                  go_wp2_with (fail)
                  go_round
                  case rel => exact ⟨q + 1, by go_num, by omega⟩
                  case measure => simp [intOf]; omega
            · go_wp2_with (fail)
              go_ret
              exact ⟨rfl, k7⟩

end Go.Proofs.Ytfjfdhojhikgdaa
