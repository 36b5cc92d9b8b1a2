/- Part 6 of the proofs: Bud9, RngB, Bud10, Law04, Awake04, BudMany, BitsPlain, Bits, Entry. -/
import Derived.Test.YtoiiblajgkdabaaP5
import Derived.Test.YtoiiblajgkdabaaP1
import Derived.Laws.BitsAllLaws
import Derived.RowKit
namespace Go.Proofs.Ytoiiblajgkdabaa
set_option linter.unusedSimpArgs false
set_option linter.unusedVariables false
set_option maxRecDepth 100000
open Go.RowKit
set_option maxHeartbeats 4000000

/-- The blocks of the first lists, one list after the other. -/
def catF (F : Nat → List Int) : Nat → List Blk
  | 0 => []
  | k + 1 => catF F k ++ (F k).map fun f => (f, (k : Int))
theorem catF_len (F : Nat → List Int) : ∀ k, k ≤ 9 → (∀ o, o < 9 → (F o).length ≤ 256) → (catF F k).length ≤ k * 256
  | 0, _, _ => Nat.le_refl _
  | k + 1, h, hl => by
    have ih := catF_len F k (by omega) hl
    have := hl k (by omega)
    unfold catF; simp; omega

theorem infoBlk : (Try.prog.info? 39).map (fun i => (i.zero, i.size, i.bytes)) = some (some (.agg #[.int .i64 0, .int .i64 0]), 2, 16) := by kernel_rfl
theorem maxLen_geB {n : Nat} (h : n ≤ 1000000000) : n ≤ maxLen := by unfold maxLen; omega
theorem cell_ltB {w : World} {b o : Nat} {v : Value} (h : w.cell? ⟨b, o, none⟩ = some v) : b < w.heap.size := by
  rcases Nat.lt_or_ge b w.heap.size with h' | h'
  · exact h'
  · simp [World.cell?, Array.getElem?_eq_none h'] at h
theorem lit_srcB (w : World) (f k : Int) (t : TypeId) : Src (w.alloc (.cells #[.int .i64 f, .int .i64 k] t)) 2 (.slice (some ⟨w.heap.size, 0, none⟩) 1 1) 1 (encL (f, k)) := by
  refine ⟨rfl, Or.inr ⟨w.heap.size, 0, 1, rfl, fun j u hj => ?_, fun _ => by simp⟩⟩
  rw [Nat.zero_add, World.cell?_alloc_at _ _ _ _ rfl]
  have hj' := (List.getElem?_eq_some_iff.1 hj).1
  simp [encL] at hj'
  have : j = 0 ∨ j = 1 := by omega
  rcases this with rfl | rfl
  · exact hj
  · exact hj

structure BlksPost (w : World) (L : List Blk) (e : Ending) (w' : World) : Prop where
  ex : ∃ v, e = .returned v ∧ w'.ownsRow w.heap.size 39 2 v L.length (blkCells L)
  below : Below w.heap.size w w'
def CanB (T : Nat → Prop) (L : List Blk) : Prop := RiseB L ∧ ∀ x : Blk, x ∈ L ↔ ∃ a o : Nat, o ≤ 8 ∧ x = (((a * 2 ^ o : Nat) : Int), (o : Int)) ∧ QCan T a o

theorem mem_catF (F : Nat → List Int) (x : Blk) : ∀ k, x ∈ catF F k ↔ ∃ o : Nat, o < k ∧ x.1 ∈ F o ∧ x.2 = (o : Int)
  | 0 => by simp [catF]
  | k + 1 => by
    unfold catF
    rw [List.mem_append, mem_catF F x k, List.mem_map]
    constructor
    · rintro (⟨o, h1, h2⟩ | ⟨f, hf, rfl⟩)
      · exact ⟨o, by omega, h2⟩
      · exact ⟨k, by omega, hf, rfl⟩
    · rintro ⟨o, h1, h2, h3⟩
      by_cases e : o = k
      · subst e; exact Or.inr ⟨x.1, h2, Prod.ext rfl h3.symm⟩
      · exact Or.inl ⟨o, by omega, h2, h3⟩
theorem nodup_catF {F : Nat → List Int} (h : ∀ o, o < 9 → (F o).Pairwise (· < ·)) : ∀ k, k ≤ 9 → (catF F k).Nodup
  | 0, _ => List.nodup_nil
  | k + 1, hk => by
    unfold catF
    refine List.nodup_append.2 ⟨nodup_catF h k (by omega), ?_, fun x hx y hy => ?_⟩
    · have h1 := h k (by omega)
      rw [List.Nodup, List.pairwise_map]
      exact h1.imp fun hab e => by simp at e; omega
    · obtain ⟨o, ho, _, h2⟩ := (mem_catF F x k).1 hx
      obtain ⟨f, _, rfl⟩ := List.mem_map.1 hy
      rintro rfl
      simp at h2
      omega
theorem can_frame' {T : Nat → Prop} {a b o d : Nat} (h1 : QCan T a o) (h2 : QCan T b (o + (d + 1))) (ho : o + (d + 1) ≤ 8) (he : a * 2 ^ o = b * 2 ^ (o + (d + 1))) : False := by
  have h0 := Nat.two_pow_pos o
  have ha : a = b * 2 ^ (d + 1) := by
    rw [Nat.pow_add, Nat.mul_comm (2 ^ o), ← Nat.mul_assoc] at he
    exact Nat.eq_of_mul_eq_mul_right h0 he
  refine h1.2 (by omega) (full_up (d := d) (b := b) (by rw [show o + 1 + d = o + (d + 1) by omega]; exact h2.1) ?_)
  rw [ha, Nat.pow_succ, ← Nat.mul_assoc, Nat.mul_div_cancel _ (by omega), Nat.mul_div_cancel _ (Nat.two_pow_pos d)]
theorem can_frame {T : Nat → Prop} {a b o p : Nat} (h1 : QCan T a o) (h2 : QCan T b p) (ho : o ≤ 8) (hp : p ≤ 8) (he : a * 2 ^ o = b * 2 ^ p) : a = b ∧ o = p := by
  rcases Nat.lt_trichotomy o p with h | rfl | h
  · obtain ⟨d, rfl⟩ : ∃ d, p = o + (d + 1) := ⟨p - o - 1, by omega⟩
    exact (can_frame' h1 h2 hp he).elim
  · exact ⟨Nat.eq_of_mul_eq_mul_right (Nat.two_pow_pos o) he, rfl⟩
  · obtain ⟨d, rfl⟩ : ∃ d, o = p + (d + 1) := ⟨o - p - 1, by omega⟩
    exact (can_frame' h2 h1 ho he.symm).elim
theorem canB_of {T : Nat → Prop} {F : Nat → List Int} (h : CanF T F) {M : List Blk} (hp : M.Perm (catF F 9)) (hs : ∀ i j (hi : i < j) (hj : j < M.length), ¬ M[j].1 < M[i].1) : CanB T M := by
  have hm : ∀ x : Blk, x ∈ M ↔ ∃ a o : Nat, o ≤ 8 ∧ x = (((a * 2 ^ o : Nat) : Int), (o : Int)) ∧ QCan T a o := fun x => by
    rw [hp.mem_iff, mem_catF]
    constructor
    · rintro ⟨o, ho, h1, h2⟩
      obtain ⟨a, ha, hc⟩ := ((h o ho).2 _).1 h1
      exact ⟨a, o, by omega, Prod.ext ha h2, hc⟩
    · rintro ⟨a, o, ho, rfl, hc⟩
      exact ⟨o, by omega, ((h o (by omega)).2 _).2 ⟨a, rfl, hc⟩, rfl⟩
  refine ⟨?_, hm⟩
  have hnd : M.Nodup := hp.nodup_iff.2 (nodup_catF (fun o ho => (h o ho).1) 9 (Nat.le_refl _))
  refine List.pairwise_iff_getElem.2 fun i j hi hj hij => ?_
  have h1 := hs i j hij hj
  have h2 : M[i] ≠ M[j] := List.pairwise_iff_getElem.1 hnd i j hi hj hij
  have h3 : M[i].1 ≠ M[j].1 := fun e => h2 (by
    obtain ⟨a, o, ho, e1, hc⟩ := (hm M[i]).1 (List.getElem_mem _)
    obtain ⟨b, p, hp', e2, hc'⟩ := (hm M[j]).1 (List.getElem_mem _)
    rw [e1, e2] at e
    simp only at e
    obtain ⟨rfl, rfl⟩ := can_frame hc hc' ho hp' (by omega)
    rw [e1, e2])
  omega

theorem s_blocks (pb pm : Nat) (T : Nat → Prop) (H : List Blk) (g w : World) (R : HP) (h : Sat g w (midP pb pm T H * R)) :
    Calls Try.prog 19 #[.pointer (some ⟨pb, 0, none⟩)] w fun e w' => ∃ L, CanB T L ∧ BlksPost w L e w' := by
  obtain ⟨hb, A, C, F, hcan, hlen, g0, g10, hmap, hls⟩ := h.mid_read
  have c0 : w.cell? ⟨pb, 1, none⟩ = _ := (hls 0 (by omega)).1
  have c1 : w.cell? ⟨pb, 2, none⟩ = _ := (hls 1 (by omega)).1
  have c2 : w.cell? ⟨pb, 3, none⟩ = _ := (hls 2 (by omega)).1
  have c3 : w.cell? ⟨pb, 4, none⟩ = _ := (hls 3 (by omega)).1
  have c4 : w.cell? ⟨pb, 5, none⟩ = _ := (hls 4 (by omega)).1
  have c5 : w.cell? ⟨pb, 6, none⟩ = _ := (hls 5 (by omega)).1
  have c6 : w.cell? ⟨pb, 7, none⟩ = _ := (hls 6 (by omega)).1
  have c7 : w.cell? ⟨pb, 8, none⟩ = _ := (hls 7 (by omega)).1
  have c8 : w.cell? ⟨pb, 9, none⟩ = _ := (hls 8 (by omega)).1
  go_enter Try.func19, Try.ntmps19
  go_wp2_with (fail)
  have HN := fun k hk => nine_at (fun i => Value.slice (A i) (F i).length (C i)) k hk
  obtain ⟨i0, hi, hzz⟩ := Option.map_eq_some_iff.1 infoBlk
  simp only [Prod.mk.injEq] at hzz
  obtain ⟨hz0, hz1, hz2⟩ := hzz
  have hst : ∀ (w' : World), Below w.heap.size w w' → ∀ o, o < 9 → F o = [] ∨ ∃ gb, A o = some ⟨gb, 0, none⟩ ∧ ∀ j (_ : j < (F o).length), w'.cell? ⟨gb, j, none⟩ = some (.int .i64 (F o)[j]) := fun w' hb o ho => by
    rcases (hls o ho).2 with h | ⟨gb, h1, h2⟩
    · exact Or.inl h
    · exact Or.inr ⟨gb, h1, fun j hj => keep hb (cell_ltB (h2 j hj)) (h2 j hj)⟩
  have HST := Lib.hid hst
  have HI := Lib.hid (⟨hi, hz0, hz1, hz2⟩ : _ ∧ _ ∧ _ ∧ _)
  clear hst hls hi hz0 hz1 hz2
  go_loopw [3, 12] (fun v i wr => ∃ k : Nat, k ≤ 9 ∧ i = .int .i64 k ∧ Hid (wr.ownsRow w.heap.size 39 2 v (catF F k).length (blkCells (catF F k))) ∧ Below w.heap.size w wr) (fun _ i _ => 9 - (intOf i).toNat)
  case atStart => exact ⟨0, by omega, rfl, Lib.hid (World.ownsRow_nil _ _ _ _), Below.refl _ _⟩
  case round =>
    obtain ⟨k, hk, rfl, HROW, hbw⟩ := hrel
    by_cases hk9 : k < 9
    · have hd : decide ((k : Int) < 9) = true := by simp; omega
      have hn := HN k hk9
      have hl1 := catF_len F k (by omega) hlen
      have hl2 := hlen k hk9
      go_wp2_with (fail)
      obtain ⟨wo, rfl⟩ : ∃ wo : World, wo = wr := ⟨_, rfl⟩
      go_loopw [3, 18] (fun v i wr => ∃ j : Nat, j ≤ (F k).length ∧ i = .int .i64 j ∧ Hid (wr.ownsRow w.heap.size 39 2 v ((catF F k).length + j) (blkCells (catF F k ++ ((F k).take j).map fun f => (f, (k : Int))))) ∧ Below w.heap.size w wr) (fun _ i _ => (F k).length - (intOf i).toNat)
      case atStart => exact ⟨0, by omega, rfl, Lib.hid (by simpa using HROW.out), hbw⟩
      case round =>
        obtain ⟨j, hj, rfl, HROWJ, hbj⟩ := hrel
        by_cases hjl : j < (F k).length
        · have hdj : decide ((j : Int) < ((F k).length : Int)) = true := by simp; omega
          have hst := (HST.out _ hbj k hk9).resolve_left (fun e => by rw [e] at hjl; simp at hjl)
          obtain ⟨gb, hA, hcell⟩ := hst
          have q0 := hcell j hjl
          obtain ⟨f, hf⟩ : ∃ f, f = (F k)[j] := ⟨_, rfl⟩
          rw [← hf] at q0
          have HF := Lib.hid hf
          have hjz : (j : Int) < ((F k).length : Int) := by omega
          clear hf hcell
          rw [hA]
          have HO := Lib.hid ((HROWJ.out).alloc (.cells #[.int .i64 f, .int .i64 k] 39))
          have hsz := hbj.size
          go_wp2_with (at_builtin; refine list_app (by rfl) _ _ _ (by rfl) w.heap.size 39 i0 (.agg #[.int .i64 0, .int .i64 0]) 2 16 Try.underlying31 HI.out.1 HI.out.2.1 HI.out.2.2.1 HI.out.2.2.2 rfl (by decide) _ _ _ (by rfl) HO.out _ 1 (encL (f, (k : Int))) (by rfl) (lit_srcB _ f k _) (by intro u hu; simp [encL] at hu; rcases hu with rfl | rfl <;> rfl) (maxLen_geB (by omega)) (by omega) (by simp; omega) ?_; refine fun v' w5 ha => Hold.out ?_)
          refine ⟨?_⟩
          have hb5 := ha.on (w0 := w) (hbj.alloc (by omega) _) (by simp; omega)
          have HR5 : Hid (w5.ownsRow w.heap.size 39 2 v' ((catF F k).length + (j + 1)) (blkCells (catF F k ++ ((F k).take (j + 1)).map fun f => (f, (k : Int))))) := Lib.hid (by
            have h1 := ha.own
            rw [List.take_succ_eq_append_getElem hjl, List.map_append, ← List.append_assoc, List.map_singleton, blkCells_snoc, ← HF.out]
            exact h1)
          go_wp2_with (fail)
          go_roundw
          case rel => exact ⟨j + 1, by omega, by go_num, HR5, hb5⟩
          case measure => simp [intOf]; omega
        · obtain rfl : j = (F k).length := by omega
          go_wp2_with (fail)
          go_roundw
          case rel => exact ⟨k + 1, by omega, by go_num, Lib.hid (by have h1 := HROWJ.out; rw [List.take_length] at h1; unfold catF; simpa using h1), hbj⟩
          case measure => simp [intOf]; omega
    · obtain rfl : k = 9 := by omega
      have hl9 := catF_len F 9 (by omega) hlen
      rcases HROW.out.2 with ⟨rfl, hn0⟩ | ⟨g', cap, cur, rfl, hg', hh, _⟩
      · have hnil : catF F 9 = [] := List.eq_nil_of_length_eq_zero hn0
        go_wp2_with (fail)
        refine (sort_nil _ _).mono ?_
        rintro e w' ⟨rfl, rfl⟩
        go_wp2_with (fail)
        go_ret
        exact ⟨[], canB_of hcan (by rw [hnil]) (fun i j _ hj => by simp at hj), ⟨_, rfl, World.ownsRow_nil _ _ _ _⟩, hbw⟩
      · have hso := sortBlocks w.heap.size 39 g' _ cap (catF F 9) _ HROW.out rfl (by omega)
        have HSO := Lib.hid hso
        have HG := Lib.hid hg'
        clear hso hh hg'
        go_wp2_with (fail)
        refine HSO.out.mono ?_
        rintro e w' ⟨rfl, M, hp, hs, ho, ht⟩
        have HP := Lib.hid hp
        go_wp2_with (fail)
        go_ret
        refine ⟨M, canB_of hcan HP.out (fun i j hi hj => Int.not_lt.2 (hs i j hi hj)), ⟨_, rfl, by rw [HP.out.length_eq]; exact ho⟩, ?_⟩
        exact hbw.trans (ht.below hbw.size (fun k hk e => by have := HG.out; omega))

end Go.Proofs.Ytoiiblajgkdabaa

namespace Go.Proofs.Ytoiiblajgkdabaa
set_option linter.unusedSimpArgs false
set_option linter.unusedVariables false
set_option maxRecDepth 100000
open Go.RowKit Go.MapKept
open Go.ChangeMaps (setBlock)
set_option maxHeartbeats 1000000

/-- An iterator at r over the map at b that holds just the blocks of L: those of D have come. -/
structure RngB (w : World) (b r : Nat) (L D : List Blk) : Prop where
  ex : ∃ es clock since seen c0, w.heap[b]? = some (.map es clock) ∧ KeysB es.toList L ∧ (∀ e ∈ es.toList, e.val = .bool true) ∧ (es.toList.map (·.born)).Nodup ∧ (∀ e ∈ es.toList, e.born < since) ∧
    w.heap[r]? = some (.mapIter (some b) since seen c0) ∧ since ≤ c0 ∧ since ≤ clock ∧ ∀ e ∈ es.toList, ∀ x, e.key = encB x → (seen.contains e.born = true ↔ x ∈ D)
  nodup : L.Nodup
  dnodup : D.Nodup
  sub : ∀ x ∈ D, x ∈ L
theorem RngB.ne {w : World} {b r : Nat} {L D : List Blk} (h : RngB w b r L D) : r ≠ b := fun e => by
  obtain ⟨es, clock, since, seen, c0, h1, _, _, _, _, h2, _⟩ := h.ex
  rw [e, h1] at h2; cases h2
theorem RngB.lt {w : World} {b r : Nat} {L D : List Blk} (h : RngB w b r L D) : b < w.heap.size ∧ r < w.heap.size := by
  obtain ⟨es, clock, since, seen, c0, h1, _, _, _, _, h2, _⟩ := h.ex
  exact ⟨heap_lt h1, heap_lt h2⟩
theorem RngB.heap {w w' : World} {b r : Nat} {L D : List Blk} (h : RngB w b r L D) (e1 : w'.heap[b]? = w.heap[b]?) (e2 : w'.heap[r]? = w.heap[r]?) : RngB w' b r L D := by
  obtain ⟨⟨es, clock, since, seen, c0, h1, a1, a2, a3, a4, h2, rest⟩, n1, n2, n3⟩ := h
  exact ⟨⟨es, clock, since, seen, c0, e1.trans h1, a1, a2, a3, a4, e2.trans h2, rest⟩, n1, n2, n3⟩
theorem run_rngB {w : World} {b : Nat} {L : List Blk} (h : MapB w b L) : ∃ w', (Instr.range 90 (.map (some b))).run Try.prog w = .ok (.pointer (some ⟨w.heap.size, 0, none⟩)) w' ∧ RngB w' b w.heap.size L [] ∧ Below w.heap.size w w' ∧ w'.heap.size = w.heap.size + 1 := by
  obtain ⟨⟨es, c, h1, h2, h3, h4, h5⟩, h6⟩ := h
  have hlt := heap_lt h1
  refine ⟨w.alloc (.mapIter (some b) c #[] c), run_range_map w _ _ _ b es c Try.underlying90 h1, ⟨⟨es, c, c, #[], c, ?_, h2, h3, h4, h5, heap_alloc_new _ _, Nat.le_refl _, Nat.le_refl _, fun e _ x _ => by simp⟩, h6, List.nodup_nil, by simp⟩, (Below.refl _ _).alloc (Nat.le_refl _) _, by simp⟩
  rw [heap_alloc_old _ _ hlt]; exact h1
theorem keyB_ex {es : List MapEntry} {L : List Blk} (h : KeysB es L) {e : MapEntry} (he : e ∈ es) : ∃ x ∈ L, e.key = encB x := by
  have : e.key ∈ es.map (·.key) := List.mem_map_of_mem he
  rw [h] at this
  obtain ⟨x, hx, hk⟩ := List.mem_map.1 this
  exact ⟨x, hx, hk.symm⟩
theorem keyB_of {es : List MapEntry} {L : List Blk} (h : KeysB es L) {x : Blk} (hx : x ∈ L) : ∃ e ∈ es, e.key = encB x := by
  have : encB x ∈ L.map encB := List.mem_map_of_mem hx
  rw [← h] at this
  obtain ⟨e, he, hk⟩ := List.mem_map.1 this
  exact ⟨e, he, hk⟩
theorem RngB.next {w : World} {b r : Nat} {L D : List Blk} (h : RngB w b r L D) (ty : TypeId) :
    (D.Perm L ∧ (Instr.next (.pointer (some ⟨r, 0, none⟩)) false ty).run Try.prog w = .ok (.tuple #[.bool false]) w) ∨
    ∃ x w', x ∈ L ∧ x ∉ D ∧ (Instr.next (.pointer (some ⟨r, 0, none⟩)) false ty).run Try.prog w = .ok (.tuple #[.bool true, encB x, .bool true]) w' ∧ RngB w' b r L (D ++ [x]) ∧ Touch (· = r) w w' ∧
      (Instr.entry (.pointer (some ⟨r, 0, none⟩))).run Try.prog w' = .ok (.tuple #[encB x, .bool true]) w' := by
  have hne := h.ne
  have hlt := h.lt
  obtain ⟨⟨es, clock, since, seen, c0, h1, a1, a2, a3, a4, h2, b1, b2, b3⟩, n1, n2, n3⟩ := h
  rcases run_next_at (P := Try.prog) w ty r b since c0 seen es clock h2 h1 a4 b1 with ⟨h0, hrun⟩ | ⟨e, he, w1, hw1, hrun⟩
  · refine Or.inl ⟨?_, hrun⟩
    have hall := all_seen es seen h0
    refine (List.perm_ext_iff_of_nodup n2 n1).2 fun x => ⟨n3 x, fun hx => ?_⟩
    obtain ⟨e, he, hk⟩ := keyB_of a1 hx
    exact (b3 e he x hk).1 (hall e he)
  · obtain ⟨hem, hes⟩ := mem_left he
    obtain ⟨x, hx, hk⟩ := keyB_ex a1 hem
    have hxD : x ∉ D := fun hd => by
      have := (b3 e hem x hk).2 hd
      rw [hes] at this; cases this
    have hh1 : ∀ k : Nat, w1.heap[k]? = w.heap[k]? := fun k => by rcases hw1 with rfl | rfl <;> rfl
    have hsz1 : w1.heap.size = w.heap.size := by rcases hw1 with rfl | rfl <;> rfl
    have hr' : (setBlock w1 r (.mapIter (some b) since (seen.push e.born) clock)).heap[r]? = some (.mapIter (some b) since (seen.push e.born) clock) := by
      simp [setBlock, hsz1, hlt.2]
    have hb' : (setBlock w1 r (.mapIter (some b) since (seen.push e.born) clock)).heap[b]? = some (.map es clock) := by
      simp [setBlock, hne]
      rw [hh1]; exact h1
    rw [hk, a2 e hem] at hrun
    have hen := run_entry_at (P := Try.prog) _ r b since seen es clock e hr' hb' hem a3
    rw [hk, a2 e hem] at hen
    refine Or.inr ⟨x, _, hx, hxD, hrun, ⟨⟨es, clock, since, seen.push e.born, clock, hb', a1, a2, a3, a4, hr', b2, b2, fun e' he' y hy => ?_⟩, n1, ?_, fun y hy => ?_⟩, ⟨?_, ?_, ?_, ?_, fun k hk hkr => ?_⟩, hen⟩
    · rw [contains_push, Bool.or_eq_true, b3 e' he' y hy, List.mem_append, List.mem_singleton]
      refine or_congr Iff.rfl ⟨fun hb => ?_, fun hy' => ?_⟩
      · have : e' = e := born_inj a3 he' hem (by simpa using hb)
        rw [this, hk] at hy
        exact (encB_inj hy).symm
      · subst hy'
        have hee : e' = e := by
          have h3 : (es.toList.map (·.key)).Nodup := by
            rw [a1]
            exact List.pairwise_map.2 (n1.imp fun h e => h (encB_inj e))
          obtain ⟨i, hi, hie⟩ := List.getElem_of_mem he'
          obtain ⟨j, hj, hje⟩ := List.getElem_of_mem hem
          have : i = j := by
            refine (List.getElem_inj (h₀ := by simpa using hi) (h₁ := by simpa using hj) h3).1 ?_
            rw [List.getElem_map, List.getElem_map, hie, hje, hy, hk]
          subst this
          rw [← hie, hje]
        simp [hee]
    · refine List.nodup_append.2 ⟨n2, by simp, fun y hy z hz => ?_⟩
      simp at hz
      exact fun e => hxD (by rw [← hz, ← e]; exact hy)
    · rcases List.mem_append.1 hy with hy | hy
      · exact n3 y hy
      · simp at hy; rw [hy]; exact hx
    · rcases hw1 with rfl | rfl <;> rfl
    · rcases hw1 with rfl | rfl <;> rfl
    · rcases hw1 with rfl | rfl <;> rfl
    · simp [setBlock, hsz1]
    · have hkr' : ¬ r = k := fun e => hkr e.symm
      simp [setBlock, hkr']
      rw [hh1]

end Go.Proofs.Ytoiiblajgkdabaa

namespace Go.Proofs.Ytoiiblajgkdabaa
set_option linter.unusedSimpArgs false
set_option linter.unusedVariables false
set_option maxRecDepth 100000
open Go.RowKit
set_option maxHeartbeats 4000000

def lenV : Value → Nat
  | .slice _ n _ => n
  | _ => 0
theorem own_low {w : World} {b b' e size n : Nat} {v : Value} {xs : List Value} (h : w.ownsRow b' e size v n xs) (hb : b ≤ b') : w.ownsRow b e size v n xs := by
  refine ⟨h.1, ?_⟩
  rcases h.2 with h2 | ⟨g, cap, cur, hv, hg, r⟩
  · exact Or.inl h2
  · exact Or.inr ⟨g, cap, cur, hv, by omega, r⟩
theorem sub_len : ∀ (D L : List Blk), D.Nodup → (∀ x ∈ D, x ∈ L) → D.length ≤ L.length
  | [], _, _, _ => Nat.zero_le _
  | x :: D, L, hn, hs => by
    obtain ⟨h1, h2⟩ := List.nodup_cons.1 hn
    have hx := hs x (by simp)
    have ih := sub_len D (L.erase x) h2 (fun y hy => by
      have hne : y ≠ x := fun e => h1 (by rw [← e]; exact hy)
      exact (List.mem_erase_of_ne hne).2 (hs y (by simp [hy])))
    rw [List.length_erase_of_mem hx] at ih
    have := List.length_pos_of_mem hx
    simp only [List.length_cons]; omega
def HeldPost (w : World) (H : List Blk) (e : Ending) (w' : World) : Prop := ∃ L, L.Perm H ∧ (∀ i j (hi : i < j) (hj : j < L.length), ¬ L[j].1 < L[i].1) ∧ BlksPost w L e w'

theorem s_held (pb pm : Nat) (T : Nat → Prop) (H : List Blk) (g w : World) (R : HP) (h : Sat g w (midP pb pm T H * R)) (hlH : H.length ≤ 100000) :
    Calls Try.prog 17 #[.pointer (some ⟨pb, 0, none⟩)] w (HeldPost w H) := by
  obtain ⟨hb, A, C, F, hcan, hlen, g0, g10, hmap, hls⟩ := h.mid_read
  obtain ⟨w1, hrun, hr1, hb1, hs1⟩ := run_rngB hmap
  obtain ⟨i0, hi, hzz⟩ := Option.map_eq_some_iff.1 infoBlk
  simp only [Prod.mk.injEq] at hzz
  obtain ⟨hz0, hz1, hz2⟩ := hzz
  have HI := Lib.hid (⟨hi, hz0, hz1, hz2⟩ : _ ∧ _ ∧ _ ∧ _)
  have HMAPLT := Lib.hid hmap.lt
  clear hls hi hz0 hz1 hz2
  go_enter Try.func17, Try.ntmps17
  go_wp2_with (fail)
  obtain ⟨r, hr⟩ : ∃ r, r = w.heap.size := ⟨_, rfl⟩
  rw [← hr] at hr1 hrun ⊢
  clear hrun
  have HSZ := Lib.hid hr
  have HS1 := Lib.hid hs1
  clear hr hs1
  go_loopw [3] (fun v wr => ∃ D : List Blk, Hid (wr.ownsRow (r + 1) 39 2 v D.length (blkCells D)) ∧ Hid (RngB wr hb r H D) ∧ Below r w wr ∧ r < wr.heap.size) (fun v _ => H.length - lenV v)
  case atStart => exact ⟨[], Lib.hid (World.ownsRow_nil _ _ _ _), Lib.hid hr1, by rw [HSZ.out]; exact hb1, by rw [HS1.out, HSZ.out]; omega⟩
  case round =>
    obtain ⟨D, HROW, HRNG, hbw, hrlt⟩ := hrel
    obtain ⟨a, cap, rfl⟩ := own_slice HROW.out
    rcases HRNG.out.next 0 with ⟨hp, hrun⟩ | ⟨x, w2, hxH, hxD, hrun, hr2, ht2, hen⟩
    · have HP := Lib.hid hp
      clear hp
      have hDl : D.length ≤ 100000 := by rw [HP.out.length_eq]; exact hlH
      rcases HROW.out.2 with ⟨hv, hn0⟩ | ⟨g', cap', cur, hv, hg', hh, _⟩
      · simp only [Value.slice.injEq] at hv
        obtain ⟨rfl, _, rfl⟩ := hv
        have hnil : D = [] := List.eq_nil_of_length_eq_zero hn0
        subst hnil
        go_wp2_with (fail)
        refine (sort_nil _ _).mono ?_
        rintro e w' ⟨rfl, rfl⟩
        go_wp2_with (fail)
        go_ret
        exact ⟨[], HP.out, (fun i j _ hj => by simp at hj), ⟨_, rfl, World.ownsRow_nil _ _ _ _⟩, by rw [← HSZ.out]; exact hbw⟩
      · simp only [Value.slice.injEq] at hv
        obtain ⟨rfl, _, rfl⟩ := hv
        have hso := sortHeld r 39 g' _ cap D _ (own_low HROW.out (by omega)) rfl (by omega)
        have HSO := Lib.hid hso
        have HG := Lib.hid hg'
        clear hso hh hg'
        go_wp2_with (fail)
        refine HSO.out.mono ?_
        rintro e w' ⟨rfl, M, hp, hs, ho, ht⟩
        have HPM := Lib.hid hp
        go_wp2_with (fail)
        go_ret
        refine ⟨M, HPM.out.trans HP.out, (fun i j hi hj => Int.not_lt.2 (hs i j hi hj)), ⟨_, rfl, by rw [HPM.out.length_eq, ← HSZ.out]; exact ho⟩, ?_⟩
        rw [← HSZ.out]
        exact hbw.trans (ht.below (Nat.le_of_lt hrlt) (fun k hk e => by have := HG.out; omega))
    · obtain ⟨x1, x2⟩ := x
      simp only [encB] at hrun hen
      have hDl : (D ++ [(x1, x2)]).length ≤ H.length := by
        exact sub_len _ _ hr2.dnodup hr2.sub
      simp only [List.length_append, List.length_singleton] at hDl
      have HO := Lib.hid (((own_touch HROW.out ht2 (fun g hg e => by omega)).alloc (.cells #[.int .i64 x1, .int .i64 x2] 39)).alloc (.cells #[.int .i64 x1, .int .i64 x2] 39))
      have HL5 : Hid (Src ((w2.alloc (.cells #[.int .i64 x1, .int .i64 x2] 39)).alloc (.cells #[.int .i64 x1, .int .i64 x2] 39)) 2 (.slice (some ⟨w2.heap.size + 1, 0, none⟩) 1 1) 1 (encL (x1, x2))) := Lib.hid (by
        have h5 := lit_srcB (w2.alloc (.cells #[.int .i64 x1, .int .i64 x2] 39)) x1 x2 39
        rw [show (w2.alloc (.cells #[.int .i64 x1, .int .i64 x2] 39)).heap.size = w2.heap.size + 1 by simp] at h5
        exact h5)
      have HT2 := Lib.hid ht2
      have HR2 := Lib.hid hr2
      have hsz2 := ht2.size
      clear ht2 hr2
      go_wp2_with (at_builtin; go_loud (refine list_app (by rfl) _ _ _ (by rfl) (r + 1) 39 i0 (.agg #[.int .i64 0, .int .i64 0]) 2 16 Try.underlying31 HI.out.1 HI.out.2.1 HI.out.2.2.1 HI.out.2.2.2 rfl (by decide) _ _ _ (by rfl) HO.out _ 1 (encL (x1, x2)) (by rfl) HL5.out (by intro u hu; simp [encL] at hu; rcases hu with rfl | rfl <;> rfl) (maxLen_geB (by omega)) (by omega) (by simp; omega) ?_; refine fun v' w5 ha => Hold.out ?_))
      refine ⟨?_⟩
      have hge := ha.ge
      have hb5 : Below r w w5 := ha.below (((hbw.trans (HT2.out.below (Nat.le_of_lt hrlt) (fun k hk e => by omega))).alloc (by omega) _).alloc (by simp; omega) _) (by simp; omega) (fun k hk => by have := hge k hk; omega)
      have hlt2 := HR2.out.lt
      have hbr := HMAPLT.out
      have hrw := HSZ.out
      have hbk : ∀ k, k ≤ r → w5.heap[k]? = w2.heap[k]? := fun k hk => by
        rw [ha.grown.block k (by simp; omega) (fun e => by have := hge k e.symm; omega)]
        rw [Below.heap_alloc _ _ _ (by simp; omega), Below.heap_alloc _ _ _ (by omega)]
      have hr5 : RngB w5 hb r H (D ++ [(x1, x2)]) := HR2.out.heap (hbk hb (by omega)) (hbk r (Nat.le_refl _))
      obtain ⟨a5, c5, rfl⟩ := own_slice ha.own
      have HROW5 : Hid (w5.ownsRow (r + 1) 39 2 (.slice a5 (D.length + 1) c5) (D ++ [(x1, x2)]).length (blkCells (D ++ [(x1, x2)]))) := Lib.hid (by
        have h1 := ha.own
        rw [blkCells_snoc]
        simpa using h1)
      have HR5 := Lib.hid hr5
      have hlt5 := hr5.lt.2
      clear hr5
      go_wp2_with (fail)
      go_roundw
      case rel => exact ⟨D ++ [(x1, x2)], HROW5, HR5, hb5, hlt5⟩
      case measure => simp [lenV]; omega

end Go.Proofs.Ytoiiblajgkdabaa

namespace Go.Proofs.Ytoiiblajgkdabaa
set_option linter.unusedSimpArgs false
set_option linter.unusedVariables false
set_option maxRecDepth 100000
open Go.RowKit
set_option maxHeartbeats 4000000

theorem begun_no (frames r : Int) (w : World) (h : ¬ (1 ≤ frames ∧ frames ≤ 256 ∧ 0 ≤ r ∧ r ≤ frames)) :
    Calls Try.prog 14 #[.int .i64 frames, .int .i64 r] w fun e w' => e = .returned (.tuple #[.pointer none, .pointer none]) ∧ Below w.heap.size w w' := by
  by_cases hf : 1 ≤ frames ∧ frames ≤ 256
  · have hr : r < 0 ∨ (frames.toNat : Int) < r := by omega
    have HN := Lib.hid (new_yes frames w hf.1 hf.2)
    go_enter Try.func14, Try.ntmps14
    go_wp2_with (fail)
    refine HN.out.mono ?_
    rintro e w1 ⟨pm, bk, rfl, hm, h1, h2, hb⟩
    have S1 : Sat w w1 (memP pm frames.toNat (fun _ => 0) * whole w) := Sat.mem_new (Sat.start w) hb hm h1 h2
    go_wp2_with (fail)
    refine (bud_new_no pm frames.toNat (fun _ => 0) r _ _ _ S1 hr).mono ?_
    rintro e w2 ⟨rfl, rfl⟩
    go_wp2_with (fail)
    go_ret2
    exact ⟨rfl, hb⟩
  · have HN := Lib.hid (new_no frames w hf)
    go_enter Try.func14, Try.ntmps14
    go_wp2_with (fail)
    refine HN.out.mono ?_
    rintro e w1 ⟨rfl, rfl⟩
    go_wp2_with (fail)
    refine (bud_new_nil r _).mono ?_
    rintro e w2 ⟨rfl, rfl⟩
    go_wp2_with (fail)
    go_ret2
    exact ⟨rfl, Below.refl _ _⟩
theorem begun_yes (n r : Nat) (g w : World) (R : HP) (h : Sat g w R) (h1 : 1 ≤ n) (h2 : n ≤ 256) (h3 : r ≤ n) :
    Calls Try.prog 14 #[.int .i64 n, .int .i64 r] w fun e w' => ∃ pm pb, e = .returned (.tuple #[.pointer (some ⟨pm, 0, none⟩), .pointer (some ⟨pb, 0, none⟩)]) ∧ Sat g w' (midP pb pm (rangeT r n) [] * (memP pm n (fun _ => 0) * R)) := by
  have HN := Lib.hid (new_yes n w (by omega) (by omega))
  go_enter Try.func14, Try.ntmps14
  go_wp2_with (fail)
  refine HN.out.mono ?_
  rintro e w1 ⟨pm, bk, rfl, hm, h4, h5, hb⟩
  have S1 : Sat g w1 (memP pm n (fun _ => 0) * R) := Sat.mem_new h hb hm h4 h5
  go_wp2_with (fail)
  refine (s_budnew pm n r (fun _ => 0) g _ _ S1 h3).mono ?_
  rintro e w2 ⟨pb, rfl, S2⟩
  go_wp2_with (fail)
  go_ret2
  exact ⟨pm, pb, rfl, S2⟩
/-- A block of a range of frames. -/
theorem full_range {r n a o : Nat} : QFull (rangeT r n) a o ↔ r ≤ a * 2 ^ o ∧ (a + 1) * 2 ^ o ≤ n := by
  have h0 := Nat.two_pow_pos o
  constructor
  · intro h
    have h1 := h (a * 2 ^ o) (in_block a o)
    have h2 := h (a * 2 ^ o + (2 ^ o - 1)) ((block_iff a o _).2 (by omega))
    unfold rangeT at h1 h2
    rw [Nat.add_mul]; omega
  · rintro ⟨h1, h2⟩ x hx
    have := (block_iff a o x).1 hx
    rw [Nat.add_mul] at h2
    unfold rangeT
    omega
theorem awake_can (a o : Nat) (ho : o ≤ 8) : QCan (rangeT 1 8) a o ↔ (a = 1 ∧ o ≤ 2) := by
  unfold QCan
  rw [full_range, full_range]
  have hh : o = 0 ∨ o = 1 ∨ o = 2 ∨ o = 3 ∨ o = 4 ∨ o = 5 ∨ o = 6 ∨ o = 7 ∨ o = 8 := by omega
  rcases hh with rfl | rfl | rfl | rfl | rfl | rfl | rfl | rfl | rfl <;> simp <;> omega
theorem awake_blocks {L : List Blk} (h : CanB (rangeT 1 8) L) : L = [(1, 0), (2, 1), (4, 2)] := by
  refine riseB_eq (fun x => ?_) h.1 (by unfold RiseB; simp)
  rw [h.2]
  constructor
  · rintro ⟨a, o, ho, rfl, hc⟩
    obtain ⟨rfl, h2⟩ := (awake_can a o ho).1 hc
    have hh : o = 0 ∨ o = 1 ∨ o = 2 := by omega
    rcases hh with rfl | rfl | rfl <;> simp
  · intro hx
    simp at hx
    rcases hx with rfl | rfl | rfl
    · exact ⟨1, 0, by omega, by simp, (awake_can 1 0 (by omega)).2 ⟨rfl, by omega⟩⟩
    · exact ⟨1, 1, by omega, by simp, (awake_can 1 1 (by omega)).2 ⟨rfl, by omega⟩⟩
    · exact ⟨1, 2, by omega, by simp, (awake_can 1 2 (by omega)).2 ⟨rfl, by omega⟩⟩

end Go.Proofs.Ytoiiblajgkdabaa

namespace Go.Proofs.Ytoiiblajgkdabaa
set_option linter.unusedSimpArgs false
set_option linter.unusedVariables false
set_option maxRecDepth 100000
open Go.RowKit
set_option maxHeartbeats 4000000

theorem Sat.small {g w : World} {pb pm : Nat} {T : Nat → Prop} {H : List Blk} {R : HP} (h : Sat g w (midP pb pm T H * R)) : Small T := by
  obtain ⟨_, _, _, _, _, hs, _⟩ := h.mid
  exact hs
/-- Left, as the number of the free frames. -/
theorem s_left' (pb pm : Nat) (T : Nat → Prop) (H : List Blk) (g w : World) (R : HP) (h : Sat g w (midP pb pm T H * R)) :
    Calls Try.prog 18 #[.pointer (some ⟨pb, 0, none⟩)] w fun e w' => e = .returned (.int .i64 (cnt T 256)) ∧ w = w' := by
  refine (s_left pb pm T H g w R h).mono fun e w' ⟨⟨F, hF, he⟩, hw⟩ => ⟨?_, hw⟩
  rw [he, sum_cnt _ T F (Nat.le_refl _) hF h.small]

theorem awake_one {g : World} {pb pm : Nat} {R : HP} {e : Ending} {w' : World} (h : AllocPost g pb pm (rangeT 1 8) [] 1 R e w') :
    e = .returned (.tuple #[.int .i64 2, .int .i64 0]) ∧ Sat g w' (midP pb pm (minusQ (rangeT 1 8) 1 1) [(2, 1)] * R) := by
  have c1 : QCan (rangeT 1 8) 1 1 := (awake_can 1 1 (by omega)).2 ⟨rfl, by omega⟩
  cases h with
  | no he hn hs => exact absurd c1 (hn 1 (by omega) (by omega) 1)
  | yes a k f hk hk8 hc hl hf hff he hs =>
    obtain ⟨rfl, h2⟩ := (awake_can a k hk8).1 hc
    have hk1 : k = 1 := by
      rcases Nat.lt_or_ge 1 k with h | h
      · exact absurd c1 (hl 1 (by omega) h 1)
      · omega
    subst hk1
    subst hff
    exact ⟨he, hs⟩
theorem awake_two {g : World} {pb pm : Nat} {R : HP} {e : Ending} {w' : World} (h : AllocPost g pb pm (minusQ (rangeT 1 8) 1 1) [(2, 1)] 1 R e w') :
    e = .returned (.tuple #[.int .i64 4, .int .i64 0]) ∧ Sat g w' (midP pb pm (minusQ (minusQ (rangeT 1 8) 1 1) 2 1) [(2, 1), (4, 1)] * R) := by
  have c1 : QCan (rangeT 1 8) 1 1 := (awake_can 1 1 (by omega)).2 ⟨rfl, by omega⟩
  have hcm := fun b j hj => can_minus (T := rangeT 1 8) (a := 1) (o := 1) (by omega) c1 b j hj
  have c2 : QCan (minusQ (rangeT 1 8) 1 1) 1 2 := (hcm 1 2 (by omega)).2 ⟨(awake_can 1 2 (by omega)).2 ⟨rfl, by omega⟩, by omega⟩
  cases h with
  | no he hn hs => exact absurd c2 (hn 2 (by omega) (by omega) 1)
  | yes a k f hk hk8 hc hl hf hff he hs =>
    obtain ⟨h1, h3⟩ := (hcm a k hk8).1 hc
    obtain ⟨rfl, h2⟩ := (awake_can a k hk8).1 h1
    have hk1 : k = 2 := by omega
    subst hk1
    subst hff
    exact ⟨he, hs⟩
theorem awake_left : cnt (minusQ (minusQ (rangeT 1 8) 1 1) 2 1) 256 = 3 := by
  have c1 : QCan (rangeT 1 8) 1 1 := (awake_can 1 1 (by omega)).2 ⟨rfl, by omega⟩
  have c2 : QCan (minusQ (rangeT 1 8) 1 1) 1 2 := (can_minus (by omega) c1 1 2 (by omega)).2 ⟨(awake_can 1 2 (by omega)).2 ⟨rfl, by omega⟩, by omega⟩
  have h0 : cnt (rangeT 1 8) 256 = 7 := cnt_int 1 7 256 (by omega)
  have h1 := cnt_minus (k := 256) c1.1 (by omega)
  have h2 := cnt_minus (T := minusQ (rangeT 1 8) 1 1) (a := 2) (o := 1) (k := 256) (full_up (d := 1) (b := 1) c2.1 rfl) (by omega)
  omega

theorem awake04 (g w : World) (R : HP) (h : Sat g w R) : Calls Try.prog 13 #[] w fun e w' => e = .returned (.bool true) ∧ Sat g w' R := by
  have H0 := Lib.hid (begun_yes 8 1 g w R h (by omega) (by omega) (by omega))
  go_enter Try.func13, Try.ntmps13
  go_wp2_with (fail)
  refine H0.out.mono ?_
  rintro e w1 ⟨pm, pb, rfl, S1⟩
  go_wp2_with (fail)
  refine (s_blocks pb pm _ _ g _ _ S1).mono ?_
  rintro e w2 ⟨L, hL, ⟨v, rfl, hrow⟩, hb2⟩
  obtain rfl := awake_blocks hL
  obtain ⟨a, c, rfl⟩ := own_slice hrow
  have S2 := S1.below hb2
  clear hrow hL S1
  go_wp2_with (fail)
  refine (s_alloc pb pm _ _ 1 g _ _ S2 (by omega) (by simp)).mono ?_
  intro e w3 hp
  obtain ⟨rfl, S3⟩ := awake_one hp
  clear hp S2
  go_wp2_with (fail)
  refine (s_alloc pb pm _ _ 1 g _ _ S3 (by omega) (fun x hx o hm => by
    simp at hm
    have : x = 2 := by omega
    subst this
    exact hx.2 rfl)).mono ?_
  intro e w4 hp
  obtain ⟨rfl, S4⟩ := awake_two hp
  clear hp S3
  go_wp2_with (fail)
  refine (bud_new_nil 0 _).mono ?_
  rintro e w5 ⟨rfl, rfl⟩
  go_wp2_with (fail)
  refine (s_left' pb pm _ _ g _ _ S4).mono ?_
  rintro e w6 ⟨rfl, rfl⟩
  rw [awake_left]
  go_wp2_with (fail)
  go_ret
  exact ⟨rfl, S4.right.right⟩

end Go.Proofs.Ytoiiblajgkdabaa

namespace Go.Proofs.Ytoiiblajgkdabaa
set_option linter.unusedSimpArgs false
set_option linter.unusedVariables false
set_option maxRecDepth 100000
open Go.RowKit
set_option maxHeartbeats 4000000

/-- What Alloc does, told by the block's place among those of its order. -/
inductive AllocAt (g : World) (pb pm : Nat) (T : Nat → Prop) (H : List Blk) (order : Nat) (R : HP) (e : Ending) (w' : World) : Prop
  | no (he : e = .returned (.tuple #[.int .i64 0, .int .i64 6])) (hn : ∀ c, ¬ QFull T c order) (hs : Sat g w' (midP pb pm T H * R))
  | yes (c : Nat) (hc : QFull T c order) (he : e = .returned (.tuple #[.int .i64 ((c * 2 ^ order : Nat) : Int), .int .i64 0])) (hs : Sat g w' (midP pb pm (minusQ T c order) (H ++ [(((c * 2 ^ order : Nat) : Int), (order : Int))]) * R))
theorem alloc_at {g : World} {pb pm : Nat} {T : Nat → Prop} {H : List Blk} {order : Nat} {R : HP} {e : Ending} {w' : World} (ho : order ≤ 8) (h : AllocPost g pb pm T H order R e w') : AllocAt g pb pm T H order R e w' := by
  cases h with
  | no he hn hs =>
    refine .no he (fun c hc => ?_) hs
    obtain ⟨b, k, h1, h2, h3, _⟩ := full_can (8 - order) c order (by omega) hc
    exact hn k h1 h2 b h3
  | yes a k f hk hk8 hc hl hf hff he hs =>
    obtain ⟨d, rfl⟩ : ∃ d, k = order + d := ⟨k - order, by omega⟩
    have hfe : f = (a * 2 ^ d) * 2 ^ order := by rw [hff, Nat.pow_add, Nat.mul_assoc, Nat.mul_comm (2 ^ d)]
    have hd : f / 2 ^ order = a * 2 ^ d := by rw [hfe]; exact in_block _ _
    rw [hd] at hs
    rw [hfe] at he hs
    exact .yes (a * 2 ^ d) (full_up (d := d) (b := a) hc.1 (in_block a d)) he hs
theorem s_alloc_at (pb pm : Nat) (T : Nat → Prop) (H : List Blk) (order r n : Nat) (g w : World) (R : HP) (h : Sat g w (midP pb pm T H * R)) (ho : order ≤ 8) (hi : InvB r n T H) :
    Calls Try.prog 16 #[.pointer (some ⟨pb, 0, none⟩), .int .i64 order] w (AllocAt g pb pm T H order R) := by
  refine (s_alloc pb pm T H order g w R h ho (fun x hx o hm => ?_)).mono fun e w' hp => alloc_at ho hp
  obtain ⟨a, k, _, hk⟩ := hi.blk _ hm
  refine hi.apart _ hm x ?_ hx
  rw [hk]
  refine (inB_of a k x).2 ?_
  have : (x : Int) = ((a * 2 ^ k : Nat) : Int) := congrArg Prod.fst hk
  have hx' : x = a * 2 ^ k := by omega
  rw [hx']; exact in_block a k

/-- How many blocks of an order are free as a whole. -/
noncomputable def numF (T : Nat → Prop) (o : Nat) : Nat := cnt (fun a => QFull T a o) 256
theorem full_minus {T : Nat → Prop} {c o : Nat} (a : Nat) : QFull (minusQ T c o) a o ↔ QFull T a o ∧ a ≠ c := by
  constructor
  · intro h
    refine ⟨fun x hx => (h x hx).1, fun e => ?_⟩
    exact (h _ (in_block a o)).2 (by rw [in_block]; exact e)
  · rintro ⟨h, hne⟩ x hx
    exact ⟨h x hx, fun e => hne (by rw [← hx, e])⟩
theorem lt_of_full {T : Nat → Prop} {c o : Nat} (hs : Small T) (h : QFull T c o) : c < 256 := by
  have h1 := full_small' hs h
  have h0 := Nat.two_pow_pos o
  have : (c + 1) * 1 ≤ (c + 1) * 2 ^ o := Nat.mul_le_mul_left _ h0
  omega
theorem numF_minus {T : Nat → Prop} {c o : Nat} (hs : Small T) (h : QFull T c o) : numF T o = numF (minusQ T c o) o + 1 := by
  unfold numF
  have h1 := cnt_add (T := fun a => QFull T a o) (A := fun a => QFull (minusQ T c o) a o) (B := fun a => c ≤ a ∧ a < c + 1) (fun a => by
    rw [full_minus]
    constructor
    · intro hf
      by_cases e : a = c
      · exact Or.inr (by omega)
      · exact Or.inl ⟨hf, e⟩
    · rintro (hf | hf)
      · exact hf.1
      · have : a = c := by omega
        rw [this]; exact h) (fun a h1 h2 => ((full_minus a).1 h1).2 (by omega)) 256
  rw [h1, cnt_int c 1 256 (by have := lt_of_full hs h; omega)]
theorem numF_none {T : Nat → Prop} {o : Nat} (h : ∀ c, ¬ QFull T c o) : numF T o = 0 := cnt_zero 256 fun x _ => h x
theorem numF_start (n o : Nat) (hn : n ≤ 256) : numF (rangeT 0 n) o = n / 2 ^ o := by
  have h0 := Nat.two_pow_pos o
  unfold numF
  rw [cnt_congr (U := fun a => 0 ≤ a ∧ a < 0 + n / 2 ^ o) 256 (fun a _ => by
    rw [full_range]
    have := Nat.le_div_iff_mul_le (k := 2 ^ o) (x := a + 1) (y := n) h0
    omega)]
  exact cnt_int 0 _ 256 (by have := Nat.div_le_self n (2 ^ o); omega)

end Go.Proofs.Ytoiiblajgkdabaa

namespace Go.Proofs.Ytoiiblajgkdabaa.Pl
set_option linter.unusedSimpArgs false
set_option linter.unusedVariables false
set_option maxRecDepth 100000
open Go

theorem and_mask (x : Int) (m : Nat) (hx : 0 ≤ x) (hx' : x < 18446744073709551616) (hm : m ≤ 64) :
    bits .and .u64 x (2 ^ m - 1) = x % 2 ^ m := by
  obtain ⟨n, rfl⟩ := Int.eq_ofNat_of_zero_le hx
  have hm2 : (2 : Nat) ^ m ≤ 2 ^ 64 := Nat.pow_le_pow_right (by omega) hm
  have hp := Nat.pow_pos (n := m) (show 0 < 2 by omega)
  have e : ((2 : Int) ^ m - 1) = ((2 ^ m - 1 : Nat) : Int) := by
    rw [Int.natCast_sub (by omega)]; simp
  rw [e, u64_and_nat _ _ (by omega) (by omega), Nat.and_two_pow_sub_one_eq_mod]
  simp

/-- The word x with the bits y at the places f to f + m - 1. -/
def put (x y : Int) (f m : Nat) : Int := x - x / 2 ^ f % 2 ^ m * 2 ^ f + y * 2 ^ f

theorem put_nat (x y f m : Nat) (hx : x < 2 ^ 64) (hfm : f + m ≤ 64) (hy : y < 2 ^ m) :
    (x &&& (2 ^ 64 - 1 - (2 ^ m - 1) * 2 ^ f)) ||| (y * 2 ^ f) = 2 ^ (f + m) * (x / 2 ^ (f + m)) + (2 ^ f * y + x % 2 ^ f) := by
  have pf := Nat.pow_pos (n := f) (show 0 < 2 by omega)
  have pm := Nat.pow_pos (n := m) (show 0 < 2 by omega)
  have hm : (2 ^ m - 1) * 2 ^ f < 2 ^ 64 := by
    have h1 : (2 ^ m - 1) * 2 ^ f < 2 ^ m * 2 ^ f := Nat.mul_lt_mul_of_pos_right (by omega) pf
    rw [← Nat.pow_add] at h1
    exact Nat.lt_of_lt_of_le h1 (Nat.pow_le_pow_right (by omega) (by omega))
  have hlo : 2 ^ f * y + x % 2 ^ f < 2 ^ (f + m) := by
    have h1 : x % 2 ^ f < 2 ^ f := Nat.mod_lt _ pf
    have h2 : 2 ^ f * (y + 1) ≤ 2 ^ f * 2 ^ m := Nat.mul_le_mul_left _ (by omega)
    rw [Nat.pow_add]; rw [Nat.mul_add] at h2; omega
  apply Nat.eq_of_testBit_eq
  intro j
  rw [Nat.testBit_two_pow_mul_add _ hlo, Nat.testBit_two_pow_mul_add _ (Nat.mod_lt _ pf)]
  have e : 2 ^ 64 - 1 - (2 ^ m - 1) * 2 ^ f = 2 ^ 64 - ((2 ^ m - 1) * 2 ^ f + 1) := by omega
  rw [Nat.testBit_or, Nat.testBit_and, e, Nat.testBit_two_pow_sub_succ hm, Nat.testBit_mul_two_pow, Nat.testBit_mul_two_pow, Nat.testBit_two_pow_sub_one, Nat.testBit_div_two_pow, Nat.testBit_mod_two_pow]
  by_cases h64 : j < 64
  · by_cases h1 : j < f
    · simp [h64, h1, show j < f + m by omega, show ¬ f ≤ j by omega]
    · by_cases h2 : j < f + m
      · simp [h64, h1, h2, show f ≤ j by omega, show j - f < m by omega]
      · have hy' : y.testBit (j - f) = false := Nat.testBit_lt_two_pow (Nat.lt_of_lt_of_le hy (Nat.pow_le_pow_right (by omega) (by omega)))
        simp [h64, h1, h2, show f ≤ j by omega, show ¬ j - f < m by omega, hy', show j - (f + m) + (f + m) = j by omega]
  · have hx' : x.testBit j = false := Nat.testBit_lt_two_pow (Nat.lt_of_lt_of_le hx (Nat.pow_le_pow_right (by omega) (by omega)))
    have hy' : y.testBit (j - f) = false := Nat.testBit_lt_two_pow (Nat.lt_of_lt_of_le hy (Nat.pow_le_pow_right (by omega) (by omega)))
    simp [h64, hx', hy', show ¬ j < f + m by omega, show j - (f + m) + (f + m) = j by omega]

theorem put_bits (x y : Int) (f m : Nat) (hx : 0 ≤ x) (hx' : x < 18446744073709551616) (hfm : f + m ≤ 64) (hy : 0 ≤ y) (hy' : y < 2 ^ m) :
    bits .or .u64 (bits .andNot .u64 x (IntKind.u64.wrap ((2 ^ m - 1) * 2 ^ f))) (IntKind.u64.wrap (y * 2 ^ f)) = put x y f m := by
  obtain ⟨x, rfl⟩ := Int.eq_ofNat_of_zero_le hx
  obtain ⟨y, rfl⟩ := Int.eq_ofNat_of_zero_le hy
  have hx2 : x < 2 ^ 64 := by omega
  have hy2 : y < 2 ^ m := by exact_mod_cast hy'
  have pf := Nat.pow_pos (n := f) (show 0 < 2 by omega)
  have pm := Nat.pow_pos (n := m) (show 0 < 2 by omega)
  have hle : (2 : Nat) ^ m * 2 ^ f ≤ 2 ^ 64 := by rw [← Nat.pow_add]; exact Nat.pow_le_pow_right (by omega) (by omega)
  have hm : (2 ^ m - 1) * 2 ^ f < 2 ^ 64 := Nat.lt_of_lt_of_le (Nat.mul_lt_mul_of_pos_right (by omega) pf) hle
  have hyf : y * 2 ^ f < 2 ^ 64 := Nat.lt_of_lt_of_le (Nat.mul_lt_mul_of_pos_right (by omega) pf) hle
  have e1 : ((2 : Int) ^ m - 1) * 2 ^ f = (((2 ^ m - 1) * 2 ^ f : Nat) : Int) := by
    rw [Int.natCast_mul, Int.natCast_sub (by omega)]; simp
  have e2 : ((y : Nat) : Int) * 2 ^ f = ((y * 2 ^ f : Nat) : Int) := by simp
  rw [e1, e2, IntKind.wrap_u64, IntKind.wrap_u64, Int.emod_eq_of_lt (by omega) (by omega), Int.emod_eq_of_lt (by omega) (by omega)]
  rw [u64_andNot_nat _ _ (by omega) (by omega), u64_or_nat _ _ (Nat.lt_of_le_of_lt Nat.and_le_left (by omega)) (by omega)]
  have h := put_nat x y f m hx2 hfm hy2
  rw [show (2 ^ 64 - 1 : Nat) = 18446744073709551615 from rfl] at h
  rw [h]
  have d1 := Nat.div_add_mod x (2 ^ f)
  have d2 := Nat.div_add_mod (x / 2 ^ f) (2 ^ m)
  rw [Nat.div_div_eq_div_mul, ← Nat.pow_add] at d2
  unfold put
  rw [show ((x : Int) / 2 ^ f % 2 ^ m * 2 ^ f) = ((x / 2 ^ f % 2 ^ m * 2 ^ f : Nat) : Int) by simp, e2]
  have d3 : 2 ^ f * (x / 2 ^ f) = 2 ^ (f + m) * (x / 2 ^ (f + m)) + x / 2 ^ f % 2 ^ m * 2 ^ f := by
    have := congrArg (2 ^ f * ·) d2
    simp only [Nat.mul_add] at this
    rw [← this, ← Nat.mul_assoc, ← Nat.pow_add, Nat.mul_comm (2 ^ f) (_ % _)]
  rw [Nat.mul_comm (2 ^ f) y]
  omega

theorem andNot_small (y : Int) (m : Nat) (hm : m ≤ 64) (hy : 0 ≤ y) (hy' : y < 2 ^ m) : bits .andNot .u64 y (2 ^ m - 1) = 0 := by
  obtain ⟨n, rfl⟩ := Int.eq_ofNat_of_zero_le hy
  have hm2 : (2 : Nat) ^ m ≤ 2 ^ 64 := Nat.pow_le_pow_right (by omega) hm
  have hp := Nat.pow_pos (n := m) (show 0 < 2 by omega)
  have hn : n < 2 ^ m := by exact_mod_cast hy'
  have e : ((2 : Int) ^ m - 1) = ((2 ^ m - 1 : Nat) : Int) := by
    rw [Int.natCast_sub (by omega)]; simp
  rw [e, u64_andNot_nat _ _ (by omega) (by omega)]
  have : n &&& (18446744073709551615 - (2 ^ m - 1)) = 0 := by
    apply Nat.eq_of_testBit_eq
    intro j
    rw [show (18446744073709551615 - (2 ^ m - 1) : Nat) = 2 ^ 64 - ((2 ^ m - 1) + 1) by omega, Nat.testBit_and, Nat.testBit_two_pow_sub_succ (by omega), Nat.testBit_two_pow_sub_one]
    by_cases h : j < m
    · simp [h]
    · have : n.testBit j = false := Nat.testBit_lt_two_pow (Nat.lt_of_lt_of_le hn (Nat.pow_le_pow_right (by omega) (by omega)))
      simp [this]
  rw [this]; rfl
end Go.Proofs.Ytoiiblajgkdabaa.Pl

namespace Go.Proofs.Ytoiiblajgkdabaa
set_option linter.unusedSimpArgs false
set_option linter.unusedVariables false
set_option maxRecDepth 100000
open Go.RowKit
set_option maxHeartbeats 400000

theorem within_yes (n a b : Int) (w : World) (h0 : a ≤ n) (h1 : n ≤ b) :
    Calls Try.prog 125 #[.int .i64 n, .int .i64 a, .int .i64 b] w fun e w' => e = .returned (.bool true) ∧ w = w' := by
  go_enter Try.func125, Try.ntmps125
  go_wp2
  go_ret
  exact ⟨by simp, rfl⟩

theorem mask_eq (m : Int) (h1 : 1 ≤ m) (h2 : m ≤ 64) : (18446744073709551615 : Int) / 2 ^ (64 - m).toNat = 2 ^ m.toNat - 1 := by
  obtain ⟨k, rfl⟩ := Int.eq_ofNat_of_zero_le (show 0 ≤ m by omega)
  have : ∀ k : Nat, k < 65 → 1 ≤ k → (18446744073709551615 : Int) / 2 ^ ((64 : Int) - (k : Int)).toNat = 2 ^ ((k : Int)).toNat - 1 := by decide
  exact this k (by omega) (by omega)

theorem mask_yes (f m : Int) (w : World) (h0 : 0 ≤ f) (h1 : 1 ≤ m) (h2 : f + m ≤ 64) :
    Calls Try.prog 119 #[.int .i64 f, .int .i64 m] w fun e w' => e = .returned (.tuple #[.int .u64 (2 ^ m.toNat - 1), .bool true]) ∧ w = w' := by
  have H := Lib.hid (mask_eq m h1 (by omega))
  go_enter Try.func119, Try.ntmps119
  go_wp2_with (go_at_call 125; refine (within_yes _ _ _ _ (by omega) (by omega)).mono ?_; rintro e w' ⟨rfl, rfl⟩)
  go_ret2
  exact ⟨by simp [H.out], rfl⟩

theorem get_yes (x f m : Int) (w : World) (hx : 0 ≤ x) (hx' : x < 18446744073709551616) (h0 : 0 ≤ f) (h1 : 1 ≤ m) (h2 : f + m ≤ 64) :
    Calls Try.prog 112 #[.int .u64 x, .int .i64 f, .int .i64 m] w fun e w' => e = .returned (.tuple #[.int .u64 (x / 2 ^ f.toNat % 2 ^ m.toNat), .bool true]) ∧ w = w' := by
  have hp : (0 : Int) < 2 ^ f.toNat := Int.pow_pos (by decide)
  have hd : 0 ≤ x / 2 ^ f.toNat := Int.ediv_nonneg hx (by omega)
  have hd' : x / 2 ^ f.toNat ≤ x := Int.ediv_le_self _ hx
  have H := Lib.hid (Pl.and_mask (x / 2 ^ f.toNat) m.toNat hd (by omega) (by omega))
  clear hp hd hd'
  go_enter Try.func112, Try.ntmps112
  go_wp2_with (go_at_call 119; refine (mask_yes _ _ _ (by omega) (by omega) (by omega)).mono ?_; rintro e w' ⟨rfl, rfl⟩)
  go_ret2
  exact ⟨by simp [H.out], rfl⟩

theorem put_yes (x y f m : Int) (w : World) (hx : 0 ≤ x) (hx' : x < 18446744073709551616) (h0 : 0 ≤ f) (h1 : 1 ≤ m) (h2 : f + m ≤ 64) (hy : 0 ≤ y) (hy' : y < 2 ^ m.toNat) :
    Calls Try.prog 103 #[.int .u64 x, .int .u64 y, .int .i64 f, .int .i64 m] w fun e w' => e = .returned (.tuple #[.int .u64 (Pl.put x y f.toNat m.toNat), .bool true]) ∧ ∃ n, w' = w.drewN n := by
  have H := Lib.hid (Pl.put_bits x y f.toNat m.toNat hx hx' (by omega) hy hy')
  have hz : (bits BinOp.andNot IntKind.u64 y (2 ^ m.toNat - 1) != 0) = false := by
    rw [Pl.andNot_small y m.toNat (by omega) hy hy']; rfl
  go_enter Try.func103, Try.ntmps103
  go_wp2_with (go_at_call 119; refine (mask_yes _ _ _ (by omega) (by omega) (by omega)).mono ?_; rintro e w' ⟨rfl, rfl⟩)
  go_quiet (fail)
  go_wp2
  go_ret2
  exact ⟨by simp [H.out], _, rfl⟩

theorem put_bd (x y : Int) (f m : Nat) (hx : 0 ≤ x) (hx' : x < 18446744073709551616) (hfm : f + m ≤ 64) (hy : 0 ≤ y) (hy' : y < 2 ^ m) :
    0 ≤ Pl.put x y f m ∧ Pl.put x y f m < 18446744073709551616 := by
  rw [← Pl.put_bits x y f m hx hx' hfm hy hy']
  have := bits_within .or .u64 (bits .andNot .u64 x (IntKind.u64.wrap ((2 ^ m - 1) * 2 ^ f))) (IntKind.u64.wrap (y * 2 ^ f))
  simp [IntKind.min, IntKind.max, IntKind.signed, IntKind.bits] at this
  omega


theorem u64_in' (x : Int) (h : 0 ≤ x) (h' : x < 18446744073709551616) : IntKind.u64.wrap x = x := IntWalk.u64_in _ ⟨h, by omega⟩

end Go.Proofs.Ytoiiblajgkdabaa

namespace Go.Proofs.Ytoiiblajgkdabaa
set_option linter.unusedSimpArgs false
set_option linter.unusedVariables false
set_option maxRecDepth 100000
open Go.RowKit
set_option maxHeartbeats 400000

/-- A truth as a number. -/
def flagI (b : Bool) : Int := if b then 1 else 0

theorem flag_any (b : Bool) (w : World) :
    Calls Try.prog 102 #[.bool b] w fun e w' => e = .returned (.int .u64 (flagI b)) ∧ w = w' := by
  go_enter Try.func102, Try.ntmps102
  cases b <;> go_wp2 <;> go_ret <;> exact ⟨rfl, rfl⟩

theorem fields_any (w : World) :
    Calls Try.prog 101 #[] w fun e w' => e = .returned (.agg #[.int .i64 0, .int .i64 1, .int .i64 1, .int .i64 1, .int .i64 2, .int .i64 1, .int .i64 8, .int .i64 8]) ∧ ∃ o, w' = w.alloc o := by
  go_enter Try.func101, Try.ntmps101
  go_wp2
  go_returns
  exact ⟨rfl, _, rfl⟩

/-- May an entry be? -/
def rightB (v wr tb : Bool) (fr : Int) : Bool := if v then decide (0 ≤ fr) && decide (fr < 256) && !(wr && tb) else !wr && !tb && decide (fr = 0)

theorem right_any (v wr tb : Bool) (fr : Int) (w : World) :
    Calls Try.prog 100 #[.agg #[.bool v, .bool wr, .bool tb, .int .i64 fr]] w fun e w' => e = .returned (.bool (rightB v wr tb fr)) ∧ ∃ o, w' = w.alloc o := by
  go_enter Try.func100, Try.ntmps100
  cases v <;> go_wp2 <;> go_ret <;> exact ⟨by first | (simp [rightB, *]; done) | (simp [rightB]; omega), _, rfl⟩

theorem word_no (v wr tb : Bool) (fr : Int) (w : World) (h : rightB v wr tb fr = false) :
    Calls Try.prog 82 #[.agg #[.bool v, .bool wr, .bool tb, .int .i64 fr]] w fun e w' => e = .returned (.tuple #[.int .u64 0, .int .i64 1]) ∧ Below w.heap.size w w' := by
  go_enter Try.func82, Try.ntmps82
  go_wp2_with (go_at_call 100; refine (right_any _ _ _ _ _).mono ?_; rintro e w' ⟨rfl, o, rfl⟩; rw [h])
  go_ret2
  exact ⟨rfl, by go_grown⟩

theorem right_bd {v wr tb : Bool} {fr : Int} (h : rightB v wr tb fr = true) : 0 ≤ fr ∧ fr < 256 := by
  cases v
  · simp [rightB] at h; omega
  · simp [rightB] at h; omega
theorem flag_bd (b : Bool) : 0 ≤ flagI b ∧ flagI b < 2 := by cases b <;> simp [flagI]

/-- An entry's word. -/
def wordI (v wr tb : Bool) (fr : Int) : Int := flagI v + 2 * flagI wr + 4 * flagI tb + 256 * fr

theorem word_p0 (v : Bool) : Pl.put 0 (flagI v) (Int.toNat 0) (Int.toNat 1) = flagI v := by cases v <;> rfl
theorem word_p1 (v wr : Bool) : Pl.put (flagI v) (flagI wr) (Int.toNat 1) (Int.toNat 1) = flagI v + 2 * flagI wr := by cases v <;> cases wr <;> rfl
theorem word_p2 (v wr tb : Bool) : Pl.put (flagI v + 2 * flagI wr) (flagI tb) (Int.toNat 2) (Int.toNat 1) = flagI v + 2 * flagI wr + 4 * flagI tb := by cases v <;> cases wr <;> cases tb <;> rfl
theorem word_p3 (v wr tb : Bool) (fr : Int) : Pl.put (flagI v + 2 * flagI wr + 4 * flagI tb) fr (Int.toNat 8) (Int.toNat 8) = wordI v wr tb fr := by
  cases v <;> cases wr <;> cases tb <;> simp [Pl.put, wordI, flagI] <;> omega

end Go.Proofs.Ytoiiblajgkdabaa
