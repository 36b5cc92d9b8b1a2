/- Blocks of package buddy. -/
import Derived.Test.YtoiiblajgkdabaaBud8
import Derived.Test.YtoiiblajgkdabaaSortB3
import Derived.Test.YtoiiblajgkdabaaApp
namespace Go.Proofs.Ytoiiblajgkdabaa
set_option linter.unusedSimpArgs false
set_option linter.unusedVariables false
set_option maxRecDepth 100000
open Go.RowKit
set_option maxHeartbeats 4000000

/-- The blocks of the first lists, one list after the other. -/
def catF (F : Nat → List Int) : Nat → List Blk
  | 0 => []
  | k + 1 => catF F k ++ (F k).map fun f => (f, (k : Int))
theorem catF_len (F : Nat → List Int) : ∀ k, k ≤ 9 → (∀ o, o < 9 → (F o).length ≤ 256) → (catF F k).length ≤ k * 256
  | 0, _, _ => Nat.le_refl _
  | k + 1, h, hl => by
    have ih := catF_len F k (by omega) hl
    have := hl k (by omega)
    unfold catF; simp; omega

theorem infoBlk : (Try.prog.info? 39).map (fun i => (i.zero, i.size, i.bytes)) = some (some (.agg #[.int .i64 0, .int .i64 0]), 2, 16) := by kernel_rfl
theorem maxLen_geB {n : Nat} (h : n ≤ 1000000000) : n ≤ maxLen := by unfold maxLen; omega
theorem cell_ltB {w : World} {b o : Nat} {v : Value} (h : w.cell? ⟨b, o, none⟩ = some v) : b < w.heap.size := by
  rcases Nat.lt_or_ge b w.heap.size with h' | h'
  · exact h'
  · simp [World.cell?, Array.getElem?_eq_none h'] at h
theorem lit_srcB (w : World) (f k : Int) (t : TypeId) : Src (w.alloc (.cells #[.int .i64 f, .int .i64 k] t)) 2 (.slice (some ⟨w.heap.size, 0, none⟩) 1 1) 1 (encL (f, k)) := by
  refine ⟨rfl, Or.inr ⟨w.heap.size, 0, 1, rfl, fun j u hj => ?_, fun _ => by simp⟩⟩
  rw [Nat.zero_add, World.cell?_alloc_at _ _ _ _ rfl]
  have hj' := (List.getElem?_eq_some_iff.1 hj).1
  simp [encL] at hj'
  have : j = 0 ∨ j = 1 := by omega
  rcases this with rfl | rfl
  · exact hj
  · exact hj

structure BlksPost (w : World) (L : List Blk) (e : Ending) (w' : World) : Prop where
  ex : ∃ v, e = .returned v ∧ w'.ownsRow w.heap.size 39 2 v L.length (blkCells L)
  below : Below w.heap.size w w'
def CanB (T : Nat → Prop) (L : List Blk) : Prop := RiseB L ∧ ∀ x : Blk, x ∈ L ↔ ∃ a o : Nat, o ≤ 8 ∧ x = (((a * 2 ^ o : Nat) : Int), (o : Int)) ∧ QCan T a o

theorem mem_catF (F : Nat → List Int) (x : Blk) : ∀ k, x ∈ catF F k ↔ ∃ o : Nat, o < k ∧ x.1 ∈ F o ∧ x.2 = (o : Int)
  | 0 => by simp [catF]
  | k + 1 => by
    unfold catF
    rw [List.mem_append, mem_catF F x k, List.mem_map]
    constructor
    · rintro (⟨o, h1, h2⟩ | ⟨f, hf, rfl⟩)
      · exact ⟨o, by omega, h2⟩
      · exact ⟨k, by omega, hf, rfl⟩
    · rintro ⟨o, h1, h2, h3⟩
      by_cases e : o = k
      · subst e; exact Or.inr ⟨x.1, h2, Prod.ext rfl h3.symm⟩
      · exact Or.inl ⟨o, by omega, h2, h3⟩
theorem nodup_catF {F : Nat → List Int} (h : ∀ o, o < 9 → (F o).Pairwise (· < ·)) : ∀ k, k ≤ 9 → (catF F k).Nodup
  | 0, _ => List.nodup_nil
  | k + 1, hk => by
    unfold catF
    refine List.nodup_append.2 ⟨nodup_catF h k (by omega), ?_, fun x hx y hy => ?_⟩
    · have h1 := h k (by omega)
      rw [List.Nodup, List.pairwise_map]
      exact h1.imp fun hab e => by simp at e; omega
    · obtain ⟨o, ho, _, h2⟩ := (mem_catF F x k).1 hx
      obtain ⟨f, _, rfl⟩ := List.mem_map.1 hy
      rintro rfl
      simp at h2
      omega
theorem can_frame' {T : Nat → Prop} {a b o d : Nat} (h1 : QCan T a o) (h2 : QCan T b (o + (d + 1))) (ho : o + (d + 1) ≤ 8) (he : a * 2 ^ o = b * 2 ^ (o + (d + 1))) : False := by
  have h0 := Nat.two_pow_pos o
  have ha : a = b * 2 ^ (d + 1) := by
    rw [Nat.pow_add, Nat.mul_comm (2 ^ o), ← Nat.mul_assoc] at he
    exact Nat.eq_of_mul_eq_mul_right h0 he
  refine h1.2 (by omega) (full_up (d := d) (b := b) (by rw [show o + 1 + d = o + (d + 1) by omega]; exact h2.1) ?_)
  rw [ha, Nat.pow_succ, ← Nat.mul_assoc, Nat.mul_div_cancel _ (by omega), Nat.mul_div_cancel _ (Nat.two_pow_pos d)]
theorem can_frame {T : Nat → Prop} {a b o p : Nat} (h1 : QCan T a o) (h2 : QCan T b p) (ho : o ≤ 8) (hp : p ≤ 8) (he : a * 2 ^ o = b * 2 ^ p) : a = b ∧ o = p := by
  rcases Nat.lt_trichotomy o p with h | rfl | h
  · obtain ⟨d, rfl⟩ : ∃ d, p = o + (d + 1) := ⟨p - o - 1, by omega⟩
    exact (can_frame' h1 h2 hp he).elim
  · exact ⟨Nat.eq_of_mul_eq_mul_right (Nat.two_pow_pos o) he, rfl⟩
  · obtain ⟨d, rfl⟩ : ∃ d, o = p + (d + 1) := ⟨o - p - 1, by omega⟩
    exact (can_frame' h2 h1 ho he.symm).elim
theorem canB_of {T : Nat → Prop} {F : Nat → List Int} (h : CanF T F) {M : List Blk} (hp : M.Perm (catF F 9)) (hs : ∀ i j (hi : i < j) (hj : j < M.length), ¬ M[j].1 < M[i].1) : CanB T M := by
  have hm : ∀ x : Blk, x ∈ M ↔ ∃ a o : Nat, o ≤ 8 ∧ x = (((a * 2 ^ o : Nat) : Int), (o : Int)) ∧ QCan T a o := fun x => by
    rw [hp.mem_iff, mem_catF]
    constructor
    · rintro ⟨o, ho, h1, h2⟩
      obtain ⟨a, ha, hc⟩ := ((h o ho).2 _).1 h1
      exact ⟨a, o, by omega, Prod.ext ha h2, hc⟩
    · rintro ⟨a, o, ho, rfl, hc⟩
      exact ⟨o, by omega, ((h o (by omega)).2 _).2 ⟨a, rfl, hc⟩, rfl⟩
  refine ⟨?_, hm⟩
  have hnd : M.Nodup := hp.nodup_iff.2 (nodup_catF (fun o ho => (h o ho).1) 9 (Nat.le_refl _))
  refine List.pairwise_iff_getElem.2 fun i j hi hj hij => ?_
  have h1 := hs i j hij hj
  have h2 : M[i] ≠ M[j] := List.pairwise_iff_getElem.1 hnd i j hi hj hij
  have h3 : M[i].1 ≠ M[j].1 := fun e => h2 (by
    obtain ⟨a, o, ho, e1, hc⟩ := (hm M[i]).1 (List.getElem_mem _)
    obtain ⟨b, p, hp', e2, hc'⟩ := (hm M[j]).1 (List.getElem_mem _)
    rw [e1, e2] at e
    simp only at e
    obtain ⟨rfl, rfl⟩ := can_frame hc hc' ho hp' (by omega)
    rw [e1, e2])
  omega

theorem s_blocks (pb pm : Nat) (T : Nat → Prop) (H : List Blk) (g w : World) (R : HP) (h : Sat g w (midP pb pm T H * R)) :
    Calls Try.prog 19 #[.pointer (some ⟨pb, 0, none⟩)] w fun e w' => ∃ L, CanB T L ∧ BlksPost w L e w' := by
  obtain ⟨hb, A, C, F, hcan, hlen, g0, g10, hmap, hls⟩ := h.mid_read
  have c0 : w.cell? ⟨pb, 1, none⟩ = _ := (hls 0 (by omega)).1
  have c1 : w.cell? ⟨pb, 2, none⟩ = _ := (hls 1 (by omega)).1
  have c2 : w.cell? ⟨pb, 3, none⟩ = _ := (hls 2 (by omega)).1
  have c3 : w.cell? ⟨pb, 4, none⟩ = _ := (hls 3 (by omega)).1
  have c4 : w.cell? ⟨pb, 5, none⟩ = _ := (hls 4 (by omega)).1
  have c5 : w.cell? ⟨pb, 6, none⟩ = _ := (hls 5 (by omega)).1
  have c6 : w.cell? ⟨pb, 7, none⟩ = _ := (hls 6 (by omega)).1
  have c7 : w.cell? ⟨pb, 8, none⟩ = _ := (hls 7 (by omega)).1
  have c8 : w.cell? ⟨pb, 9, none⟩ = _ := (hls 8 (by omega)).1
  go_enter Try.func19, Try.ntmps19
  go_wp2_with (fail)
  have HN := fun k hk => nine_at (fun i => Value.slice (A i) (F i).length (C i)) k hk
  obtain ⟨i0, hi, hzz⟩ := Option.map_eq_some_iff.1 infoBlk
  simp only [Prod.mk.injEq] at hzz
  obtain ⟨hz0, hz1, hz2⟩ := hzz
  have hst : ∀ (w' : World), Below w.heap.size w w' → ∀ o, o < 9 → F o = [] ∨ ∃ gb, A o = some ⟨gb, 0, none⟩ ∧ ∀ j (_ : j < (F o).length), w'.cell? ⟨gb, j, none⟩ = some (.int .i64 (F o)[j]) := fun w' hb o ho => by
    rcases (hls o ho).2 with h | ⟨gb, h1, h2⟩
    · exact Or.inl h
    · exact Or.inr ⟨gb, h1, fun j hj => keep hb (cell_ltB (h2 j hj)) (h2 j hj)⟩
  have HST := Lib.hid hst
  have HI := Lib.hid (⟨hi, hz0, hz1, hz2⟩ : _ ∧ _ ∧ _ ∧ _)
  clear hst hls hi hz0 hz1 hz2
  go_loopw [3, 12] (fun v i wr => ∃ k : Nat, k ≤ 9 ∧ i = .int .i64 k ∧ Hid (wr.ownsRow w.heap.size 39 2 v (catF F k).length (blkCells (catF F k))) ∧ Below w.heap.size w wr) (fun _ i _ => 9 - (intOf i).toNat)
  case atStart => exact ⟨0, by omega, rfl, Lib.hid (World.ownsRow_nil _ _ _ _), Below.refl _ _⟩
  case round =>
    obtain ⟨k, hk, rfl, HROW, hbw⟩ := hrel
    by_cases hk9 : k < 9
    · have hd : decide ((k : Int) < 9) = true := by simp; omega
      have hn := HN k hk9
      have hl1 := catF_len F k (by omega) hlen
      have hl2 := hlen k hk9
      go_wp2_with (fail)
      obtain ⟨wo, rfl⟩ : ∃ wo : World, wo = wr := ⟨_, rfl⟩
      go_loopw [3, 18] (fun v i wr => ∃ j : Nat, j ≤ (F k).length ∧ i = .int .i64 j ∧ Hid (wr.ownsRow w.heap.size 39 2 v ((catF F k).length + j) (blkCells (catF F k ++ ((F k).take j).map fun f => (f, (k : Int))))) ∧ Below w.heap.size w wr) (fun _ i _ => (F k).length - (intOf i).toNat)
      case atStart => exact ⟨0, by omega, rfl, Lib.hid (by simpa using HROW.out), hbw⟩
      case round =>
        obtain ⟨j, hj, rfl, HROWJ, hbj⟩ := hrel
        by_cases hjl : j < (F k).length
        · have hdj : decide ((j : Int) < ((F k).length : Int)) = true := by simp; omega
          have hst := (HST.out _ hbj k hk9).resolve_left (fun e => by rw [e] at hjl; simp at hjl)
          obtain ⟨gb, hA, hcell⟩ := hst
          have q0 := hcell j hjl
          obtain ⟨f, hf⟩ : ∃ f, f = (F k)[j] := ⟨_, rfl⟩
          rw [← hf] at q0
          have HF := Lib.hid hf
          have hjz : (j : Int) < ((F k).length : Int) := by omega
          clear hf hcell
          rw [hA]
          have HO := Lib.hid ((HROWJ.out).alloc (.cells #[.int .i64 f, .int .i64 k] 39))
          have hsz := hbj.size
          go_wp2_with (at_builtin; refine list_app (by rfl) _ _ _ (by rfl) w.heap.size 39 i0 (.agg #[.int .i64 0, .int .i64 0]) 2 16 Try.underlying31 HI.out.1 HI.out.2.1 HI.out.2.2.1 HI.out.2.2.2 rfl (by decide) _ _ _ (by rfl) HO.out _ 1 (encL (f, (k : Int))) (by rfl) (lit_srcB _ f k _) (by intro u hu; simp [encL] at hu; rcases hu with rfl | rfl <;> rfl) (maxLen_geB (by omega)) (by omega) (by simp; omega) ?_; refine fun v' w5 ha => Hold.out ?_)
          refine ⟨?_⟩
          have hb5 := ha.on (w0 := w) (hbj.alloc (by omega) _) (by simp; omega)
          have HR5 : Hid (w5.ownsRow w.heap.size 39 2 v' ((catF F k).length + (j + 1)) (blkCells (catF F k ++ ((F k).take (j + 1)).map fun f => (f, (k : Int))))) := Lib.hid (by
            have h1 := ha.own
            rw [List.take_succ_eq_append_getElem hjl, List.map_append, ← List.append_assoc, List.map_singleton, blkCells_snoc, ← HF.out]
            exact h1)
          go_wp2_with (fail)
          go_roundw
          case rel => exact ⟨j + 1, by omega, by go_num, HR5, hb5⟩
          case measure => simp [intOf]; omega
        · obtain rfl : j = (F k).length := by omega
          go_wp2_with (fail)
          go_roundw
          case rel => exact ⟨k + 1, by omega, by go_num, Lib.hid (by have h1 := HROWJ.out; rw [List.take_length] at h1; unfold catF; simpa using h1), hbj⟩
          case measure => simp [intOf]; omega
    · obtain rfl : k = 9 := by omega
      have hl9 := catF_len F 9 (by omega) hlen
      rcases HROW.out.2 with ⟨rfl, hn0⟩ | ⟨g', cap, cur, rfl, hg', hh, _⟩
      · have hnil : catF F 9 = [] := List.eq_nil_of_length_eq_zero hn0
        go_wp2_with (fail)
        refine (sort_nil _ _).mono ?_
        rintro e w' ⟨rfl, rfl⟩
        go_wp2_with (fail)
        go_ret
        exact ⟨[], canB_of hcan (by rw [hnil]) (fun i j _ hj => by simp at hj), ⟨_, rfl, World.ownsRow_nil _ _ _ _⟩, hbw⟩
      · have hso := sortBlocks w.heap.size 39 g' _ cap (catF F 9) _ HROW.out rfl (by omega)
        have HSO := Lib.hid hso
        have HG := Lib.hid hg'
        clear hso hh hg'
        go_wp2_with (fail)
        refine HSO.out.mono ?_
        rintro e w' ⟨rfl, M, hp, hs, ho, ht⟩
        have HP := Lib.hid hp
        go_wp2_with (fail)
        go_ret
        refine ⟨M, canB_of hcan HP.out (fun i j hi hj => Int.not_lt.2 (hs i j hi hj)), ⟨_, rfl, by rw [HP.out.length_eq]; exact ho⟩, ?_⟩
        exact hbw.trans (ht.below hbw.size (fun k hk e => by have := HG.out; omega))

end Go.Proofs.Ytoiiblajgkdabaa
