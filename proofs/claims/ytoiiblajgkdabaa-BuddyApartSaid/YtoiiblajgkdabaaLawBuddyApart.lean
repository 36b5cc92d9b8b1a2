/- BuddyApart: always true. -/
import Derived.Test.YtoiiblajgkdabaaLawB
import Derived.Test.YtoiiblajgkdabaaClass
namespace Go.Proofs.Ytoiiblajgkdabaa
set_option linter.unusedSimpArgs false
set_option linter.unusedVariables false
set_option maxRecDepth 100000
open Go.RowKit
set_option maxHeartbeats 4000000

open Classical in
/-- In how many blocks of a list a frame is. -/
noncomputable def numIn (L : List Blk) (j : Nat) : Nat := (L.map fun b => if inB b j then 1 else 0).sum
open Classical in
theorem numIn_take (L : List Blk) (k : Nat) (h : k < L.length) (j : Nat) : numIn (L.take (k + 1)) j = numIn (L.take k) j + if inB L[k] j then 1 else 0 := by
  unfold numIn
  rw [List.take_succ_eq_append_getElem h, List.map_append, List.sum_append]
  simp
open Classical in
theorem num_step (A : List Blk) (p : Nat) (h : p < A.length) (j : Nat) {f P : Nat} (hin : inB A[p] j ↔ (f ≤ j ∧ j < f + P)) : numIn (A.take (p + 1)) j = numIn (A.take p) j + if f ≤ j ∧ j < f + P then 1 else 0 := by
  rw [numIn_take A p h j]
  congr 1
  by_cases h : inB A[p] j
  · rw [if_pos h, if_pos (hin.1 h)]
  · rw [if_neg h, if_neg (fun h' => h (hin.2 h'))]
open Classical in
theorem numIn_one : ∀ (L : List Blk) (x : Nat), L.Nodup → (∀ b ∈ L, ∀ b' ∈ L, inB b x → inB b' x → b = b') → numIn L x = if ∃ b ∈ L, inB b x then 1 else 0
  | [], x, _, _ => by simp [numIn]
  | b :: L, x, hn, hd => by
    obtain ⟨h1, h2⟩ := List.nodup_cons.1 hn
    have ih := numIn_one L x h2 (fun c hc c' hc' => hd c (List.mem_cons_of_mem _ hc) c' (List.mem_cons_of_mem _ hc'))
    have e : numIn (b :: L) x = (if inB b x then 1 else 0) + numIn L x := by unfold numIn; simp
    rw [e, ih]
    by_cases hb : inB b x
    · have hno : ¬ ∃ c ∈ L, inB c x := fun ⟨c, hc, hx⟩ => h1 (hd b (by simp) c (List.mem_cons_of_mem _ hc) hb hx ▸ hc)
      rw [if_pos hb, if_neg hno, if_pos ⟨b, by simp, hb⟩]
    · rw [if_neg hb]
      by_cases hc : ∃ c ∈ L, inB c x
      · obtain ⟨c, hc1, hc2⟩ := hc
        rw [if_pos ⟨c, hc1, hc2⟩, if_pos ⟨c, List.mem_cons_of_mem _ hc1, hc2⟩]
      · rw [if_neg hc, if_neg]
        rintro ⟨c, hc1, hc2⟩
        rcases List.mem_cons.1 hc1 with rfl | h
        · exact hb hc2
        · exact hc ⟨c, h, hc2⟩
theorem can_dis' {T : Nat → Prop} {a b o d x : Nat} (h1 : QCan T a o) (h2 : QCan T b (o + (d + 1))) (ho : o + (d + 1) ≤ 8) (ha : x / 2 ^ o = a) (hb : x / 2 ^ (o + (d + 1)) = b) : False := by
  refine h1.2 (by omega) (full_up (d := d) (b := b) ?_ ?_)
  · rw [show o + 1 + d = o + (d + 1) by omega]; exact h2.1
  · rw [← ha, ← hb, ← div_one, ← div_up, show o + 1 + d = o + (d + 1) by omega]
theorem can_dis {T : Nat → Prop} {a b o p x : Nat} (h1 : QCan T a o) (h2 : QCan T b p) (ho : o ≤ 8) (hp : p ≤ 8) (ha : x / 2 ^ o = a) (hb : x / 2 ^ p = b) : a = b ∧ o = p := by
  rcases Nat.lt_trichotomy o p with h | rfl | h
  · obtain ⟨d, rfl⟩ : ∃ d, p = o + (d + 1) := ⟨p - o - 1, by omega⟩
    exact (can_dis' h1 h2 hp ha hb).elim
  · exact ⟨by rw [← ha, ← hb], rfl⟩
  · obtain ⟨d, rfl⟩ : ∃ d, o = p + (d + 1) := ⟨o - p - 1, by omega⟩
    exact (can_dis' h2 h1 ho hb ha).elim
/-- All blocks, the free ones and those that are given. -/
structure AllB (r n : Nat) (A : List Blk) : Prop where
  el : ∀ z ∈ A, ∃ a o : Nat, o ≤ 8 ∧ z = (((a * 2 ^ o : Nat) : Int), (o : Int)) ∧ r ≤ a * 2 ^ o ∧ (a + 1) * 2 ^ o ≤ n
  num0 : ∀ x, x < r → numIn A x = 0
  num1 : ∀ x, r ≤ x → x < n → numIn A x = 1
theorem allB {r n : Nat} {T : Nat → Prop} {H B X : List Blk} (h : InvB r n T H) (hc : CanB T B) (hp : X.Perm H) : AllB r n (B ++ X) := by
  have hB : ∀ z ∈ B, ∃ a o : Nat, o ≤ 8 ∧ z = (((a * 2 ^ o : Nat) : Int), (o : Int)) ∧ QCan T a o := fun z hz => (hc.2 z).1 hz
  have hT : ∀ z ∈ B, ∀ x, inB z x → T x := fun z hz x hx => by
    obtain ⟨a, o, _, rfl, hq⟩ := hB z hz
    exact hq.1 x ((inB_of a o x).1 hx)
  have hX : ∀ z, z ∈ X ↔ z ∈ H := fun z => hp.mem_iff
  have hnod : (B ++ X).Nodup := List.nodup_append.2 ⟨hc.1.imp fun hab e => by rw [e] at hab; omega, hp.nodup_iff.2 h.nodup, fun y hy z hz => by
    rintro rfl
    obtain ⟨a, o, _, rfl, hq⟩ := hB _ hy
    exact h.apart _ ((hX _).1 hz) _ ((inB_of a o _).2 (in_block a o)) (hq.1 _ (in_block a o))⟩
  have hdis : ∀ x, ∀ b ∈ B ++ X, ∀ b' ∈ B ++ X, inB b x → inB b' x → b = b' := fun x b hb b' hb' hx hx' => by
    rcases List.mem_append.1 hb with hb | hb <;> rcases List.mem_append.1 hb' with hb' | hb'
    · obtain ⟨a, o, ho, rfl, hq⟩ := hB b hb
      obtain ⟨a', o', ho', rfl, hq'⟩ := hB b' hb'
      obtain ⟨rfl, rfl⟩ := can_dis hq hq' ho ho' ((inB_of a o x).1 hx) ((inB_of a' o' x).1 hx')
      rfl
    · exact absurd (hT b hb x hx) (h.apart b' ((hX b').1 hb') x hx')
    · exact absurd (hT b' hb' x hx') (h.apart b ((hX b).1 hb) x hx)
    · exact h.disj b ((hX b).1 hb) b' ((hX b').1 hb') x hx hx'
  have hcov : ∀ x, (∃ b ∈ B ++ X, inB b x) ↔ (r ≤ x ∧ x < n) := fun x => by
    rw [h.cov]
    constructor
    · rintro ⟨b, hb, hx⟩
      rcases List.mem_append.1 hb with hb | hb
      · exact Or.inl (hT b hb x hx)
      · exact Or.inr ⟨b, (hX b).1 hb, hx⟩
    · rintro (hx | ⟨b, hb, hx⟩)
      · obtain ⟨b, k, _, hk, hq, he⟩ := full_can (T := T) 8 x 0 rfl (fun y hy => by rw [Nat.pow_zero, Nat.div_one] at hy; rw [hy]; exact hx)
        exact ⟨_, List.mem_append_left _ ((hc.2 _).2 ⟨b, k, hk, rfl, hq⟩), (inB_of b k x).2 he⟩
      · exact ⟨b, List.mem_append_right _ ((hX b).2 hb), hx⟩
  refine ⟨fun z hz => ?_, fun x hx => ?_, fun x h1 h2 => ?_⟩
  · rcases List.mem_append.1 hz with hz | hz
    · obtain ⟨a, o, ho, rfl, hq⟩ := hB z hz
      have h0 := Nat.two_pow_pos o
      have h1 := (h.cov _).2 (Or.inl (hq.1 (a * 2 ^ o) (in_block a o)))
      have h2 := (h.cov _).2 (Or.inl (hq.1 (a * 2 ^ o + (2 ^ o - 1)) ((block_iff a o _).2 (by omega))))
      exact ⟨a, o, ho, rfl, h1.1, by rw [Nat.add_mul]; omega⟩
    · obtain ⟨a, o, ho, rfl⟩ := h.blk z ((hX z).1 hz)
      obtain ⟨h1, h2⟩ := inv_lt h ((hX _).1 hz)
      exact ⟨a, o, ho, rfl, h2, h1⟩
  · rw [numIn_one _ x hnod (hdis x), if_neg fun h => by have := (hcov x).1 h; omega]
  · rw [numIn_one _ x hnod (hdis x), if_pos ((hcov x).2 ⟨h1, h2⟩)]

theorem touch_of {B : Nat} {w w' : World} (h : Below B w w') : Touch (fun k => B ≤ k) w w' := ⟨h.os, h.tape, h.output, h.size, fun k _ hk => h.block k (by omega)⟩
theorem blkOne (L : List Blk) : ∀ u ∈ blkCells L, u.oneCell' = true := fun u hu => by
  unfold blkCells at hu
  rw [List.mem_flatMap] at hu
  obtain ⟨x, _, hx⟩ := hu
  simp [encL] at hx
  rcases hx with rfl | rfl <;> rfl
open Classical in
theorem numIn_le (L : List Blk) (x : Nat) : numIn L x ≤ L.length := by
  unfold numIn
  induction L with
  | nil => simp
  | cons b L ih =>
    rw [List.map_cons, List.sum_cons, List.length_cons]
    split <;> omega
theorem infoInt : (Try.prog.info? 3).map (fun i => (i.zero, i.size, i.bytes)) = some (some (.int .i64 0), 1, 8) := by kernel_rfl

theorem apart (frames r : Int) (a : Option Addr) (len cap : Nat) (L : Nat → OpB) (w : World) (hA : OpsB w a len L) (hm : len ≤ 9223372036854775807) (hbd : ∀ i, i < len → I64 (L i).d ∧ I64 (L i).n ∧ I64 (L i).o ∧ U64 (L i).w) :
    Calls Try.prog 5 #[.int .i64 frames, .int .i64 r, .slice a len cap] w fun e w' => e = .returned (.bool true) ∧ Below w.heap.size w w' := by
  have HA := Lib.hid (awake04 w w (whole w) (Sat.start w))
  have HK := Lib.hid hA.kept
  have HBD := Lib.hid hbd
  clear hbd hA
  by_cases hf : ¬ (1 ≤ frames ∧ frames ≤ 256 ∧ 0 ≤ r ∧ r ≤ frames)
  · go_enter Try.func5, Try.ntmps5
    go_wp2_with (fail)
    refine HA.out.mono ?_
    rintro e w1 ⟨rfl, S0⟩
    go_wp2_with (fail)
    refine (begun_no frames r w1 hf).mono ?_
    rintro e w2 ⟨rfl, hb2⟩
    go_wp2_with (fail)
    go_ret
    exact ⟨rfl, Sat.ends ((S0.below hb2).emp.perm (star_comm _ _))⟩
  obtain ⟨n, rfl⟩ := Int.eq_ofNat_of_zero_le (show 0 ≤ frames by omega)
  obtain ⟨r, rfl⟩ := Int.eq_ofNat_of_zero_le (show 0 ≤ r by omega)
  have hn1 : 1 ≤ n := by omega
  have hn2 : n ≤ 256 := by omega
  have hrn : r ≤ n := by omega
  clear hf
  go_enter Try.func5, Try.ntmps5
  go_wp2_with (fail)
  refine HA.out.mono ?_
  rintro e w1 ⟨rfl, S0⟩
  go_wp2_with (fail)
  refine (begun_yes n r w w1 _ S0 hn1 hn2 hrn).mono ?_
  rintro e w2 ⟨pm, pb, rfl, S1⟩
  by_cases hlen : 60 < len
  · go_wp2_with (fail)
    go_ret
    exact ⟨rfl, Sat.ends (S1.right.right.emp.perm (star_comm _ _))⟩
  have B1 : Bst w pb pm r n (whole w) w2 := ⟨_, _, _, inv_new r n, S1⟩
  clear S1
  go_wp2_with (fail)
  go_loopw [10] (fun i wr => ∃ k : Nat, k ≤ len ∧ i = .int .i64 k ∧ Bst w pb pm r n (whole w) wr) (fun i _ => len - (intOf i).toNat)
  case atStart => exact ⟨0, by omega, rfl, B1⟩
  case round =>
    obtain ⟨k, hk, rfl, T, H, M, hi, S2⟩ := hrel
    clear B1
    by_cases hkl : k < len
    · have i1 : (k : Int) < len := by omega
      have HI := Lib.hid hi
      have hHl := inv_len hi hn2
      clear hi
      go_wp2_with (fail)
      refine (s_held pb pm T H w _ _ S2 (by omega)).mono ?_
      rintro e w3 ⟨HL, hperm, _, ⟨v, rfl, hown⟩, hb3⟩
      have hHL : HL.length ≤ 2304 := by rw [hperm.length_eq]; exact hHl
      have hcells := blk_cells hown
      obtain ⟨va, vc, rfl⟩ := own_slice hown
      have S3 := S2.below hb3
      clear hown hperm hHl S2
      rcases HK.out w3 (midP pb pm T H * memP pm n M) (S3.perm (by ac_rfl)) with h0 | ⟨ob, off, rfl, hops⟩
      · omega
      have hop := hops k hkl
      obtain ⟨bd, bn, bo, _⟩ := HBD.out k hkl
      clear hops
      generalize L k = x at hop bd bn bo
      obtain ⟨q0, q1, q2, _⟩ := hop
      have B3 : Bst w pb pm r n (whole w) w3 := ⟨T, H, M, HI.out, S3⟩
      clear S3
      go_upto_region 9 with (fail)
      go_cut [71] (fun s wx => s = .bool (decide (x.d = 2 ∧ 0 < HL.length ∧ 0 ≤ x.n)) ∧ wx = w3)
      case first =>
        by_cases h1 : x.d = 2
        · by_cases h2 : 0 < HL.length
          · by_cases h3 : 0 ≤ x.n
            · go_wp2_with (fail)
              go_meet
              exact ⟨by simp [h1, h2, h3], rfl⟩
            · go_wp2_with (fail)
              go_meet
              exact ⟨by simp [h1, h2, h3], rfl⟩
          · go_wp2_with (fail)
            go_meet
            exact ⟨by simp [h1, h2], rfl⟩
        · go_wp2_with (fail)
          go_meet
          exact ⟨by simp [h1], rfl⟩
      case rest =>
        obtain ⟨rfl, rfl⟩ := hcut
        by_cases hB : x.d = 2 ∧ 0 < HL.length ∧ 0 ≤ x.n
        · rw [decide_eq_true hB]
          rcases hcells with h0 | ⟨gb, cap', hgv, hgl, _, hc⟩
          · rw [h0] at hB; simp at hB
          simp only [Value.slice.injEq] at hgv
          obtain ⟨rfl, -, rfl⟩ := hgv
          obtain ⟨m, hxm⟩ := Int.eq_ofNat_of_zero_le hB.2.2
          have hmb : m ≤ 9223372036854775807 := by have := bn.2; omega
          rw [hxm] at q1
          obtain ⟨y, hy⟩ : ∃ y, m % HL.length = y := ⟨_, rfl⟩
          have hyl : y < HL.length := by rw [← hy]; exact Nat.mod_lt _ hB.2.1
          have hlz : ((HL.length : Int) == 0) = false := by rw [beq_eq_false_iff_ne]; omega
          have hrem : ((m : Int)).tmod (HL.length : Int) = (y : Int) := by rw [Int.tmod_eq_emod_of_nonneg (by omega), ← hy]; push_cast; rfl
          obtain ⟨c0, c1⟩ := hc y hyl
          generalize HL[y] = z at c0 c1
          clear hc hxm hB
          go_wp2_with (fail)
          refine (s_free_st pb pm r n z.1 z.2 w _ _ (B3.below (by repeat (first | with_reducible exact Below.refl _ _ | with_reducible assumption | with_reducible refine below_drewN ?_ _ | with_reducible refine Below.alloc ?_ (by simp <;> omega) _)))).mono ?_
          rintro e w4 ⟨⟨k', rfl⟩, B4⟩
          go_wp2_with (fail)
          go_roundw
          case rel => exact ⟨k + 1, by omega, by go_num, B4⟩
          case measure => simp [intOf]; omega
        · rw [decide_eq_false hB]
          go_wp2_with (fail)
          refine (s_alloc_st pb pm r n x.o w _ _ B3).mono ?_
          rintro e w4 ⟨⟨f, k', rfl⟩, B4⟩
          go_wp2_with (fail)
          go_roundw
          case rel => exact ⟨k + 1, by omega, by go_num, B4⟩
          case measure => simp [intOf]; omega
    · obtain rfl : k = len := by omega
      have HI := Lib.hid hi
      clear hi
      obtain ⟨i1, hi1, hz1⟩ := Option.map_eq_some_iff.1 infoInt
      simp only [Prod.mk.injEq] at hz1
      obtain ⟨hzz, hs1, hb1⟩ := hz1
      have hmk : ∀ w, (Instr.makeSlice 42 (.int .i64 n) (.int .i64 n)).run Try.prog w = _ := fun w => run_make (P := Try.prog) w 42 3 i1 _ Try.underlying42 hi1 hzz .i64 .i64 n n (by omega) (by omega) (by rw [hb1]; omega) (by omega)
      rw [hs1] at hmk
      go_wp2_with (fail)
      refine (s_frames pm n M w _ _ S2.swap).mono ?_
      rintro e w' ⟨rfl, rfl⟩
      go_wp2_with (fail)
      obtain ⟨w3, hw3⟩ : ∃ w3, w3 = (wr.alloc (Obj.cells (madeCells #[Value.int IntKind.i64 0] n) 3)).alloc (Obj.cells #[] 39) := ⟨_, rfl⟩
      have hrow3 : RowF w3 wr.heap.size n (fun _ => .int .i64 0) := by
        rw [hw3]
        refine RowF.alloc ⟨fun j hj => ?_, fun j hj => by rw [World.frozen?_alloc_at _ _ _ _ rfl], by simp⟩ _
        rw [World.cell?_alloc_at _ _ _ _ rfl]
        refine made_zero _ _ _ (by decide) (fun k hk => ?_) j hj
        have hk0 : k = 0 := by simp at hk; omega
        subst hk0
        rfl
      have hown3 : w3.ownsRow (wr.heap.size + 1) 39 2 (.slice (some ⟨wr.heap.size + 1, 0, none⟩) 0 0) 0 [] := by
        rw [hw3]
        have := World.ownsRow_lit (base := wr.heap.size + 1) (e := 39) (size := 2) (wr.alloc (Obj.cells (madeCells #[Value.int IntKind.i64 0] n) 3)) #[] 0 (by simp) (by simp) (by simp)
        simpa using this
      have hb3 : Below wr.heap.size wr w3 := by rw [hw3]; repeat (first | with_reducible exact Below.refl _ _ | with_reducible assumption | with_reducible refine below_drewN ?_ _ | with_reducible refine Below.alloc ?_ (by simp <;> omega) _)
      have hsz3 : wr.heap.size + 1 < w3.heap.size := by rw [hw3]; simp
      rw [← hw3]
      clear hw3 hmk
      have hHl := inv_len HI.out hn2
      have hsm := S2.small
      obtain ⟨i0, hi, hzz⟩ := Option.map_eq_some_iff.1 infoBlk
      simp only [Prod.mk.injEq] at hzz
      obtain ⟨hz0, hz1, hz2⟩ := hzz
      have HIB := Lib.hid (⟨hi, hz0, hz1, hz2⟩ : _ ∧ _ ∧ _ ∧ _)
      clear hi hz0 hz1 hz2 hi1 hzz hs1 hb1
      refine (s_blocks pb pm T H w _ _ (S2.below hb3)).mono ?_
      rintro e w4 ⟨BL, hcan, ⟨v, rfl, hown⟩, hb4⟩
      have hBl := canB_len hcan hsm
      have HS4 := Lib.hid (Src.own hown)
      have HO4 := Lib.hid (own_touch hown3 (Touch.of_below (S := fun _ => False) hb4) (fun _ _ => id))
      have hsz4 := hb4.size
      clear hown
      go_wp2_with (at_builtin; go_loud (refine list_app (by rfl) _ _ _ (by rfl) (wr.heap.size + 1) 39 i0 (.agg #[.int .i64 0, .int .i64 0]) 2 16 Try.underlying31 HIB.out.1 HIB.out.2.1 HIB.out.2.2.1 HIB.out.2.2.2 rfl (by decide) _ _ _ (by rfl) HO4.out _ BL.length (blkCells BL) (by rfl) HS4.out (blkOne BL) (maxLen_geB (by omega)) (by omega) (by omega) ?_; refine fun v5 w5 ha => Hold.out ?_))
      refine ⟨?_⟩
      have hbn5 : Below (wr.heap.size + 1) w4 w5 := ha.on (Below.refl _ _) (by omega)
      have hrow5 := (hrow3.below hb4).touch (touch_of hbn5) (by omega)
      have hb5 : Below wr.heap.size wr w5 := (hb3.trans (hb4.mono (by omega))).trans (hbn5.mono (by omega))
      have hsz5 := hbn5.size
      have hown5 := ha.own
      clear ha hrow3 hown3
      go_wp2_with (fail)
      refine (s_held pb pm T H w _ _ (S2.below hb5) (by omega)).mono ?_
      rintro e w6 ⟨X, hperm, -, ⟨v6, rfl, hown⟩, hb6⟩
      have hXl : X.length ≤ 2304 := by rw [hperm.length_eq]; exact hHl
      have HS6 := Lib.hid (Src.own hown)
      have HO6 := Lib.hid (own_touch hown5 (Touch.of_below (S := fun _ => False) hb6) (fun _ _ => id))
      have hsz6 := hb6.size
      clear hown hown5
      go_wp2_with (at_builtin; go_loud (refine list_app (by rfl) _ _ _ (by rfl) (wr.heap.size + 1) 39 i0 (.agg #[.int .i64 0, .int .i64 0]) 2 16 Try.underlying31 HIB.out.1 HIB.out.2.1 HIB.out.2.2.1 HIB.out.2.2.2 rfl (by decide) _ _ _ (by rfl) HO6.out _ X.length (blkCells X) (by rfl) HS6.out (blkOne X) (maxLen_geB (by omega)) (by omega) (by omega) ?_; refine fun v7 w7 ha => Hold.out ?_))
      refine ⟨?_⟩
      have hbn7 : Below (wr.heap.size + 1) w6 w7 := ha.on (Below.refl _ _) (by omega)
      have hrow7 := (hrow5.below hb6).touch (touch_of hbn7) (by omega)
      have hb7 : Below wr.heap.size wr w7 := (hb5.trans (hb6.mono (by omega))).trans (hbn7.mono (by omega))
      have hsz7 := hbn7.size
      have hown7 : w7.ownsRow (wr.heap.size + 1) 39 2 v7 (BL ++ X).length (blkCells (BL ++ X)) := by
        have := ha.own
        rw [blkCells_append, List.length_append]
        simpa using this
      have hA := allB HI.out hcan hperm
      have hAl : (BL ++ X).length ≤ 4608 := by rw [List.length_append]; omega
      generalize BL ++ X = A at hown7 hA hAl
      obtain ⟨va, vc, rfl⟩ := own_slice hown7
      have hcells := blk_cells hown7
      have HA2 := Lib.hid hA
      clear ha hown7 hrow5 hA HS4 HO4 HS6 HO6 hbn5 hbn7 hb4 hb5 hb6
      have HN0 : ∀ j, numIn (A.take 0) j = 0 := fun j => by simp [numIn]
      have hrow0 : RowF w7 wr.heap.size n (fun j => .int .i64 (numIn (A.take 0) j)) := hrow7.congr fun j _ => by rw [HN0]; rfl
      have hHF : Hid (∀ w', Below wr.heap.size wr w' → Calls Try.prog 15 #[.pointer (some ⟨pm, 0, none⟩)] w' fun e w'' => e = .returned (.int .i64 n) ∧ w' = w'') := Lib.hid fun w' hb => s_frames pm n M w w' _ (S2.below hb).swap
      have HR0 := Lib.hid hrow0
      clear HN0 hrow7 hrow0
      go_wp2_with (fail)
      obtain ⟨wa, rfl⟩ : ∃ wa : World, wa = wr := ⟨_, rfl⟩
      obtain ⟨nb, hnb⟩ : ∃ nb, nb = wa.heap.size := ⟨_, rfl⟩
      rw [← hnb] at HR0 hHF hcells hb7 hsz3 ⊢
      have HNB := Lib.hid hnb
      clear hnb
      go_loopw [15] (fun i wx => ∃ p : Nat, p ≤ A.length ∧ i = .int .i64 p ∧ Hid (RowF wx nb n (fun j => .int .i64 (numIn (A.take p) j))) ∧ Touch (· = nb) w7 wx) (fun i _ => A.length - (intOf i).toNat)
      case atStart => exact ⟨0, by omega, rfl, HR0, Touch.refl _ _⟩
      case round =>
        obtain ⟨p, hp, rfl, HR, ht⟩ := hrel
        have hbx : Below nb wa wr := hb7.trans (ht.below (by omega) (fun k hk => by omega))
        by_cases hpA : p < A.length
        · have ip : (p : Int) < A.length := by omega
          rcases hcells with h0 | ⟨gb, cap', hgv, hgl, hge, hc⟩
          · rw [h0] at hpA; simp at hpA
          simp only [Value.slice.injEq] at hgv
          obtain ⟨rfl, -, rfl⟩ := hgv
          obtain ⟨c, o, ho, hz, hrf, hfn⟩ := HA2.out.el _ (List.getElem_mem hpA)
          have hce : ∀ w', Touch (· = nb) w7 w' → w'.cell? ⟨gb, p * 2, none⟩ = some (.int .i64 ((c * 2 ^ o : Nat) : Int)) ∧ w'.cell? ⟨gb, p * 2 + 1, none⟩ = some (.int .i64 o) := fun w' h' => by
            obtain ⟨c0, c1⟩ := hc p hpA
            rw [hz] at c0 c1
            exact ⟨keepT h' hgl (by omega) c0, keepT h' hgl (by omega) c1⟩
          have hin : ∀ j, inB A[p] j ↔ (c * 2 ^ o ≤ j ∧ j < c * 2 ^ o + 2 ^ o) := fun j => by rw [hz, inB_of, block_iff]
          obtain ⟨P, hP⟩ : ∃ P : Nat, 2 ^ o = P := ⟨_, rfl⟩
          have hPz : (2 : Int) ^ o = (P : Int) := by rw [← hP]; push_cast; rfl
          have hP1 : 1 ≤ P := by rw [← hP]; exact Nat.two_pow_pos o
          have hP2 : P ≤ 256 := by rw [← hP]; exact Nat.pow_le_pow_right (n := 2) (by omega) ho
          obtain ⟨f, hf⟩ : ∃ f : Nat, c * 2 ^ o = f := ⟨_, rfl⟩
          rw [hf, hP] at hin
          have hfm : ((f : Int)).tmod (P : Int) = 0 := by
            rw [← hf, hP, Int.tmod_eq_emod_of_nonneg (by omega)]; push_cast; exact Int.mul_emod_left _ _
          rw [Nat.add_mul, hf, hP] at hfn
          rw [hf] at hce hrf
          have HNT : Hid (∀ j, numIn (A.take p) j + (if f ≤ j ∧ j < f + P then 1 else 0) = numIn (A.take (p + 1)) j) := Lib.hid fun j => (num_step A p hpA j (hin j)).symm
          have hw1 : IntKind.i64.wrap (P : Int) = (P : Int) := IntWalk.i64_in _ ⟨by omega, by omega⟩
          have hw2 : IntKind.i64.wrap ((f : Int) + (P : Int)) = (f : Int) + (P : Int) := IntWalk.i64_in _ ⟨by omega, by omega⟩
          have hP0 : ((P : Int) == 0) = false := by rw [beq_eq_false_iff_ne]; omega
          have g1 : decide ((o : Int) < 0) = false := by simp
          have g2 : decide (8 < (o : Int)) = false := by simp; omega
          have g3 : decide ((f : Int) < r) = false := by simp; omega
          have g5 : decide (f < r) = false := by simp; omega
          have g6 : decide (n < f + P) = false := by simp; omega
          have g4 : decide ((n : Int) < (f : Int) + (P : Int)) = false := by simp; omega
          have hHF2 : Hid (∀ w', wr.drew = w' → Calls Try.prog 15 #[.pointer (some ⟨pm, 0, none⟩)] w' fun e w'' => e = .returned (.int .i64 n) ∧ w' = w'') := Lib.hid fun w' hw => hHF.out w' (by rw [← hw]; exact below_drew hbx)
          have HCE := Lib.hid hce
          obtain ⟨c0, c1⟩ := hce wr ht
          clear hc hz hin hP hf hce
          go_wp2_with (fail)
          have k0 : ∀ u : Wc (fun w' => wr.drew = w'), u.w.cell? ⟨gb, p * 2, none⟩ = some (.int .i64 f) := fun u => by rw [← u.h]; exact c0
          have k1 : ∀ u : Wc (fun w' => wr.drew = w'), u.w.cell? ⟨gb, p * 2 + 1, none⟩ = some (.int .i64 o) := fun u => by rw [← u.h]; exact c1
          (refine region_class (fun w' => wr.drew = w') (by kernel_rfl) (by kernel_rfl) (rfl) ?_; intro _; (repeat (first | go_big_quiet_step ((go_at_call 15; exact class_same (hHF2.out _ (Wc.h _)))) | quiet_step ((go_at_call 15; exact class_same (hHF2.out _ (Wc.h _)))))); refine wpQuiet_nil ?_; intro wz hz)
          subst hz
          clear k0 k1 hw2 hfm g1 g2 g3 g4 g5 g6 hPz hw1 c0 c1 hHF2 hP0
          go_wp2_with (fail)
          obtain ⟨wb, rfl⟩ : ∃ wb : World, wb = wr := ⟨_, rfl⟩
          have ht1 := ht.drew
          go_loopw [17] (fun i wx => ∃ q : Nat, q ≤ P ∧ i = .int .i64 q ∧ Hid (RowF wx nb n (fun j => .int .i64 ((numIn (A.take p) j + if f ≤ j ∧ j < f + q then 1 else 0 : Nat) : Int))) ∧ Touch (· = nb) w7 wx) (fun i _ => P - (intOf i).toNat)
          case atStart => exact ⟨0, by omega, rfl, Lib.hid (HR.out.drew.congr fun j _ => by rw [if_neg (by omega), Nat.add_zero]), ht1⟩
          case round =>
            obtain ⟨q, hq, rfl, HRQ, htq⟩ := hrel
            by_cases hqP : q < P
            · obtain ⟨c0, _⟩ := HCE.out wr htq
              have hjn : f + q < n := by omega
              have hcell := HRQ.out.cell (f + q) hjn
              have hfree := HRQ.out.free (f + q) hjn
              rw [if_neg (by omega), Nat.add_zero] at hcell
              have hle : numIn (A.take p) (f + q) ≤ 4608 := Nat.le_trans (numIn_le _ _) (by rw [List.length_take]; omega)
              obtain ⟨y, hy⟩ : ∃ y, numIn (A.take p) (f + q) = y := ⟨_, rfl⟩
              rw [hy] at hcell hle
              have HY := Lib.hid hy
              clear hy
              have hw3 : IntKind.i64.wrap ((f : Int) + (q : Int)) = ((f + q : Nat) : Int) := by rw [IntWalk.i64_in _ ⟨by omega, by omega⟩]; push_cast; rfl
              have ij : ((f + q : Nat) : Int) < n := by omega
              go_wp2_with (fail)
              go_roundw
              case rel =>
                refine ⟨q + 1, by omega, by go_num, Lib.hid ((HRQ.out.set (f + q) hjn (.int .i64 ((y : Int) + 1))).congr fun j hj => ?_), htq.setCell (Or.inl rfl) _⟩
                by_cases e : j = f + q
                · subst e
                  rw [if_pos rfl, if_pos (by omega), HY.out]
                  push_cast; rfl
                · rw [if_neg e]
                  congr 2
                  by_cases e2 : f ≤ j ∧ j < f + q
                  · rw [if_pos e2, if_pos (by omega)]
                  · rw [if_neg e2, if_neg (by omega)]
              case measure => simp [intOf]; omega
            · obtain rfl : q = P := by omega
              have HR2 : Hid (RowF wr nb n (fun j => .int .i64 (numIn (A.take (p + 1)) j))) := Lib.hid (HRQ.out.congr fun j _ => by rw [HNT.out j])
              go_wp2_with (fail)
              go_roundw
              case rel => exact ⟨p + 1, by omega, by go_num, HR2, htq⟩
              case measure => simp [intOf]; omega
        · obtain rfl : p = A.length := by omega
          have HR2 : Hid (∀ j, j < n → wr.cell? ⟨nb, j, none⟩ = some (.int .i64 (if r ≤ j then 1 else 0))) := Lib.hid fun j hj => by
            rw [HR.out.cell j hj, List.take_length]
            by_cases hr : r ≤ j
            · rw [if_pos hr, HA2.out.num1 j hr hj]; rfl
            · rw [if_neg hr, HA2.out.num0 j (by omega)]; rfl
          go_wp2_with (fail)
          obtain ⟨wb, rfl⟩ : ∃ wb : World, wb = wr := ⟨_, rfl⟩
          go_loop [18] (fun i => ∃ q : Nat, q ≤ n ∧ i = .int .i64 q) (fun i => n - (intOf i).toNat)
          case atStart => exact ⟨0, by omega, rfl⟩
          case round =>
            obtain ⟨q, hq, rfl⟩ := hrel
            go_wp2_with (fail)
            refine (hHF.out wb hbx).mono ?_
            rintro e w' ⟨rfl, rfl⟩
            by_cases hqn : q < n
            · have iq : (q : Int) < n := by omega
              have hc := HR2.out q hqn
              by_cases hr : r ≤ q
              · rw [if_pos hr] at hc
                have g1 : decide ((q : Int) < r) = false := by simp; omega
                have g2 : decide ((r : Int) ≤ q) = true := by simp; omega
                go_wp2_with (fail)
                go_round
                case rel => exact ⟨q + 1, by omega, by go_num⟩
                case measure => simp [intOf]; omega
              · rw [if_neg hr] at hc
                have g1 : decide ((q : Int) < r) = true := by simp; omega
                have g2 : decide ((r : Int) ≤ q) = false := by simp; omega
                go_wp2_with (fail)
                go_round
                case rel => exact ⟨q + 1, by omega, by go_num⟩
                case measure => simp [intOf]; omega
            · go_wp2_with (fail)
              go_ret
              exact ⟨rfl, Sat.ends (((S2.of_touch (touch_of hbx) (fun k hk => by have := HNB.out; omega)).right.right.emp.perm (star_comm _ _)))⟩

end Go.Proofs.Ytoiiblajgkdabaa
