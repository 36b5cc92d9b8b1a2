/- Held of package buddy. -/
import Derived.Test.YtoiiblajgkdabaaBud9
import Derived.Test.YtoiiblajgkdabaaRngB
namespace Go.Proofs.Ytoiiblajgkdabaa
set_option linter.unusedSimpArgs false
set_option linter.unusedVariables false
set_option maxRecDepth 100000
open Go.RowKit
set_option maxHeartbeats 4000000

def lenV : Value → Nat
  | .slice _ n _ => n
  | _ => 0
theorem own_low {w : World} {b b' e size n : Nat} {v : Value} {xs : List Value} (h : w.ownsRow b' e size v n xs) (hb : b ≤ b') : w.ownsRow b e size v n xs := by
  refine ⟨h.1, ?_⟩
  rcases h.2 with h2 | ⟨g, cap, cur, hv, hg, r⟩
  · exact Or.inl h2
  · exact Or.inr ⟨g, cap, cur, hv, by omega, r⟩
theorem sub_len : ∀ (D L : List Blk), D.Nodup → (∀ x ∈ D, x ∈ L) → D.length ≤ L.length
  | [], _, _, _ => Nat.zero_le _
  | x :: D, L, hn, hs => by
    obtain ⟨h1, h2⟩ := List.nodup_cons.1 hn
    have hx := hs x (by simp)
    have ih := sub_len D (L.erase x) h2 (fun y hy => by
      have hne : y ≠ x := fun e => h1 (by rw [← e]; exact hy)
      exact (List.mem_erase_of_ne hne).2 (hs y (by simp [hy])))
    rw [List.length_erase_of_mem hx] at ih
    have := List.length_pos_of_mem hx
    simp only [List.length_cons]; omega
def HeldPost (w : World) (H : List Blk) (e : Ending) (w' : World) : Prop := ∃ L, L.Perm H ∧ (∀ i j (hi : i < j) (hj : j < L.length), ¬ L[j].1 < L[i].1) ∧ BlksPost w L e w'

theorem s_held (pb pm : Nat) (T : Nat → Prop) (H : List Blk) (g w : World) (R : HP) (h : Sat g w (midP pb pm T H * R)) (hlH : H.length ≤ 100000) :
    Calls Try.prog 17 #[.pointer (some ⟨pb, 0, none⟩)] w (HeldPost w H) := by
  obtain ⟨hb, A, C, F, hcan, hlen, g0, g10, hmap, hls⟩ := h.mid_read
  obtain ⟨w1, hrun, hr1, hb1, hs1⟩ := run_rngB hmap
  obtain ⟨i0, hi, hzz⟩ := Option.map_eq_some_iff.1 infoBlk
  simp only [Prod.mk.injEq] at hzz
  obtain ⟨hz0, hz1, hz2⟩ := hzz
  have HI := Lib.hid (⟨hi, hz0, hz1, hz2⟩ : _ ∧ _ ∧ _ ∧ _)
  have HMAPLT := Lib.hid hmap.lt
  clear hls hi hz0 hz1 hz2
  go_enter Try.func17, Try.ntmps17
  go_wp2_with (fail)
  obtain ⟨r, hr⟩ : ∃ r, r = w.heap.size := ⟨_, rfl⟩
  rw [← hr] at hr1 hrun ⊢
  clear hrun
  have HSZ := Lib.hid hr
  have HS1 := Lib.hid hs1
  clear hr hs1
  go_loopw [3] (fun v wr => ∃ D : List Blk, Hid (wr.ownsRow (r + 1) 39 2 v D.length (blkCells D)) ∧ Hid (RngB wr hb r H D) ∧ Below r w wr ∧ r < wr.heap.size) (fun v _ => H.length - lenV v)
  case atStart => exact ⟨[], Lib.hid (World.ownsRow_nil _ _ _ _), Lib.hid hr1, by rw [HSZ.out]; exact hb1, by rw [HS1.out, HSZ.out]; omega⟩
  case round =>
    obtain ⟨D, HROW, HRNG, hbw, hrlt⟩ := hrel
    obtain ⟨a, cap, rfl⟩ := own_slice HROW.out
    rcases HRNG.out.next 0 with ⟨hp, hrun⟩ | ⟨x, w2, hxH, hxD, hrun, hr2, ht2, hen⟩
    · have HP := Lib.hid hp
      clear hp
      have hDl : D.length ≤ 100000 := by rw [HP.out.length_eq]; exact hlH
      rcases HROW.out.2 with ⟨hv, hn0⟩ | ⟨g', cap', cur, hv, hg', hh, _⟩
      · simp only [Value.slice.injEq] at hv
        obtain ⟨rfl, _, rfl⟩ := hv
        have hnil : D = [] := List.eq_nil_of_length_eq_zero hn0
        subst hnil
        go_wp2_with (fail)
        refine (sort_nil _ _).mono ?_
        rintro e w' ⟨rfl, rfl⟩
        go_wp2_with (fail)
        go_ret
        exact ⟨[], HP.out, (fun i j _ hj => by simp at hj), ⟨_, rfl, World.ownsRow_nil _ _ _ _⟩, by rw [← HSZ.out]; exact hbw⟩
      · simp only [Value.slice.injEq] at hv
        obtain ⟨rfl, _, rfl⟩ := hv
        have hso := sortHeld r 39 g' _ cap D _ (own_low HROW.out (by omega)) rfl (by omega)
        have HSO := Lib.hid hso
        have HG := Lib.hid hg'
        clear hso hh hg'
        go_wp2_with (fail)
        refine HSO.out.mono ?_
        rintro e w' ⟨rfl, M, hp, hs, ho, ht⟩
        have HPM := Lib.hid hp
        go_wp2_with (fail)
        go_ret
        refine ⟨M, HPM.out.trans HP.out, (fun i j hi hj => Int.not_lt.2 (hs i j hi hj)), ⟨_, rfl, by rw [HPM.out.length_eq, ← HSZ.out]; exact ho⟩, ?_⟩
        rw [← HSZ.out]
        exact hbw.trans (ht.below (Nat.le_of_lt hrlt) (fun k hk e => by have := HG.out; omega))
    · obtain ⟨x1, x2⟩ := x
      simp only [encB] at hrun hen
      have hDl : (D ++ [(x1, x2)]).length ≤ H.length := by
        exact sub_len _ _ hr2.dnodup hr2.sub
      simp only [List.length_append, List.length_singleton] at hDl
      have HO := Lib.hid (((own_touch HROW.out ht2 (fun g hg e => by omega)).alloc (.cells #[.int .i64 x1, .int .i64 x2] 39)).alloc (.cells #[.int .i64 x1, .int .i64 x2] 39))
      have HL5 : Hid (Src ((w2.alloc (.cells #[.int .i64 x1, .int .i64 x2] 39)).alloc (.cells #[.int .i64 x1, .int .i64 x2] 39)) 2 (.slice (some ⟨w2.heap.size + 1, 0, none⟩) 1 1) 1 (encL (x1, x2))) := Lib.hid (by
        have h5 := lit_srcB (w2.alloc (.cells #[.int .i64 x1, .int .i64 x2] 39)) x1 x2 39
        rw [show (w2.alloc (.cells #[.int .i64 x1, .int .i64 x2] 39)).heap.size = w2.heap.size + 1 by simp] at h5
        exact h5)
      have HT2 := Lib.hid ht2
      have HR2 := Lib.hid hr2
      have hsz2 := ht2.size
      clear ht2 hr2
      go_wp2_with (at_builtin; go_loud (refine list_app (by rfl) _ _ _ (by rfl) (r + 1) 39 i0 (.agg #[.int .i64 0, .int .i64 0]) 2 16 Try.underlying31 HI.out.1 HI.out.2.1 HI.out.2.2.1 HI.out.2.2.2 rfl (by decide) _ _ _ (by rfl) HO.out _ 1 (encL (x1, x2)) (by rfl) HL5.out (by intro u hu; simp [encL] at hu; rcases hu with rfl | rfl <;> rfl) (maxLen_geB (by omega)) (by omega) (by simp; omega) ?_; refine fun v' w5 ha => Hold.out ?_))
      refine ⟨?_⟩
      have hge := ha.ge
      have hb5 : Below r w w5 := ha.below (((hbw.trans (HT2.out.below (Nat.le_of_lt hrlt) (fun k hk e => by omega))).alloc (by omega) _).alloc (by simp; omega) _) (by simp; omega) (fun k hk => by have := hge k hk; omega)
      have hlt2 := HR2.out.lt
      have hbr := HMAPLT.out
      have hrw := HSZ.out
      have hbk : ∀ k, k ≤ r → w5.heap[k]? = w2.heap[k]? := fun k hk => by
        rw [ha.grown.block k (by simp; omega) (fun e => by have := hge k e.symm; omega)]
        rw [Below.heap_alloc _ _ _ (by simp; omega), Below.heap_alloc _ _ _ (by omega)]
      have hr5 : RngB w5 hb r H (D ++ [(x1, x2)]) := HR2.out.heap (hbk hb (by omega)) (hbk r (Nat.le_refl _))
      obtain ⟨a5, c5, rfl⟩ := own_slice ha.own
      have HROW5 : Hid (w5.ownsRow (r + 1) 39 2 (.slice a5 (D.length + 1) c5) (D ++ [(x1, x2)]).length (blkCells (D ++ [(x1, x2)]))) := Lib.hid (by
        have h1 := ha.own
        rw [blkCells_snoc]
        simpa using h1)
      have HR5 := Lib.hid hr5
      have hlt5 := hr5.lt.2
      clear hr5
      go_wp2_with (fail)
      go_roundw
      case rel => exact ⟨D ++ [(x1, x2)], HROW5, HR5, hb5, hlt5⟩
      case measure => simp [lenV]; omega

end Go.Proofs.Ytoiiblajgkdabaa
