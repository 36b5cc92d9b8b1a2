/- BuddyWhole: always true. -/
import Derived.Test.YtoiiblajgkdabaaLawB
import Derived.Test.YtoiiblajgkdabaaClass
namespace Go.Proofs.Ytoiiblajgkdabaa
set_option linter.unusedSimpArgs false
set_option linter.unusedVariables false
set_option maxRecDepth 100000
open Go.RowKit
set_option maxHeartbeats 4000000

/-- All words of the free frames are noughts. -/
def ZeroF (T : Nat → Prop) (M : Nat → Int) : Prop := ∀ x, T x → ∀ i, 16 * x ≤ i → i < 16 * (x + 1) → M i = 0
theorem zero_minus {T : Nat → Prop} {M : Nat → Int} (h : ZeroF T M) (c o : Nat) : ZeroF (minusQ T c o) M := fun x hx => h x hx.1
theorem zero_free {T : Nat → Prop} {M : Nat → Int} (h : ZeroF T M) (c o : Nat) : ZeroF (plusQ T c o) (scrubW M (c * 2 ^ o) (2 ^ o)) := fun x hx i h1 h2 => by
  unfold scrubW
  split
  · rfl
  · rename_i hn
    rcases hx with hx | hx
    · exact h x hx i h1 h2
    · have := (block_iff c o x).1 hx
      omega
theorem zero_set {T : Nat → Prop} {M : Nat → Int} (h : ZeroF T M) {f y : Nat} (hf : ¬ T f) (hy : y < 16) (v : Int) : ZeroF T (setW M (16 * f + y) v) := fun x hx i h1 h2 => by
  unfold setW
  split
  · rename_i e
    have : x = f := by omega
    exact absurd (this ▸ hx) hf
  · exact h x hx i h1 h2
theorem all_free {r n : Nat} {T : Nat → Prop} (h : InvB r n T []) : T = rangeT r n := by
  funext x
  have := h.cov x
  unfold rangeT
  exact propext ⟨fun hx => this.2 (Or.inl hx), fun hx => (this.1 hx).elim id fun ⟨b, hb, _⟩ => by simp at hb⟩
theorem can_eq {T : Nat → Prop} {L M : List Blk} (h1 : CanB T L) (h2 : CanB T M) : L = M := riseB_eq (fun x => (h1.2 x).trans (h2.2 x).symm) h1.1 h2.1

/-- Alloc with whatever order. -/
inductive AnyAt (g : World) (pb pm r n : Nat) (T : Nat → Prop) (H : List Blk) (R : HP) (e : Ending) (w' : World) : Prop
  | no (k : Int) (hk : k ≠ 0) (he : e = .returned (.tuple #[.int .i64 0, .int .i64 k])) (hs : Sat g w' (midP pb pm T H * R))
  | yes (c o : Nat) (ho : o ≤ 8) (hc : QFull T c o) (he : e = .returned (.tuple #[.int .i64 ((c * 2 ^ o : Nat) : Int), .int .i64 0])) (hi : InvB r n (minusQ T c o) (H ++ [(((c * 2 ^ o : Nat) : Int), (o : Int))])) (hs : Sat g w' (midP pb pm (minusQ T c o) (H ++ [(((c * 2 ^ o : Nat) : Int), (o : Int))]) * R))
theorem s_alloc_any (pb pm r n : Nat) (T : Nat → Prop) (H : List Blk) (order : Int) (g w : World) (R : HP) (h : Sat g w (midP pb pm T H * R)) (hi : InvB r n T H) :
    Calls Try.prog 16 #[.pointer (some ⟨pb, 0, none⟩), .int .i64 order] w (AnyAt g pb pm r n T H R) := by
  by_cases ho : 0 ≤ order ∧ order ≤ 8
  · obtain ⟨o, rfl⟩ := Int.eq_ofNat_of_zero_le ho.1
    refine (s_alloc_at pb pm T H o r n g w _ h (by omega) hi).mono fun e w' hp => ?_
    cases hp with
    | no he hn hs => exact .no 6 (by omega) he hs
    | yes c hc he hs => exact .yes c o (by omega) hc he (inv_alloc hi (by omega) hc) hs
  · exact (s_alloc_bad pb order w (by omega)).mono fun e w' ⟨he, hw⟩ => .no 1 (by omega) he (hw ▸ h)

theorem whole04 (frames r : Int) (a : Option Addr) (len cap : Nat) (L : Nat → OpB) (w : World) (hA : OpsB w a len L) (hm : len ≤ 9223372036854775807) (hbd : ∀ i, i < len → I64 (L i).d ∧ I64 (L i).n ∧ I64 (L i).o ∧ U64 (L i).w) :
    Calls Try.prog 8 #[.int .i64 frames, .int .i64 r, .slice a len cap] w fun e w' => e = .returned (.bool true) ∧ Below w.heap.size w w' := by
  have HA := Lib.hid (awake04 w w (whole w) (Sat.start w))
  have HK := Lib.hid hA.kept
  have HBD := Lib.hid hbd
  clear hbd hA
  by_cases hf : ¬ (1 ≤ frames ∧ frames ≤ 256 ∧ 0 ≤ r ∧ r ≤ frames)
  · go_enter Try.func8, Try.ntmps8
    go_wp2_with (fail)
    refine HA.out.mono ?_
    rintro e w1 ⟨rfl, S0⟩
    go_wp2_with (fail)
    refine (begun_no frames r w1 hf).mono ?_
    rintro e w2 ⟨rfl, hb2⟩
    go_wp2_with (fail)
    go_ret
    exact ⟨rfl, Sat.ends ((S0.below hb2).emp.perm (star_comm _ _))⟩
  obtain ⟨n, rfl⟩ := Int.eq_ofNat_of_zero_le (show 0 ≤ frames by omega)
  obtain ⟨r, rfl⟩ := Int.eq_ofNat_of_zero_le (show 0 ≤ r by omega)
  have hn1 : 1 ≤ n := by omega
  have hn2 : n ≤ 256 := by omega
  have hrn : r ≤ n := by omega
  clear hf
  go_enter Try.func8, Try.ntmps8
  go_wp2_with (fail)
  refine HA.out.mono ?_
  rintro e w1 ⟨rfl, S0⟩
  go_wp2_with (fail)
  refine (begun_yes n r w w1 _ S0 hn1 hn2 hrn).mono ?_
  rintro e w2 ⟨pm, pb, rfl, S1⟩
  by_cases hlen : 60 < len
  · go_wp2_with (fail)
    go_ret
    exact ⟨rfl, Sat.ends (S1.right.right.emp.perm (star_comm _ _))⟩
  go_wp2_with (fail)
  refine (s_blocks pb pm _ _ w _ _ S1).mono ?_
  rintro e w3 ⟨B1, hcan1, ⟨v, rfl, hown⟩, hb3⟩
  have hB1 := canB_len hcan1 S1.small
  obtain ⟨QB, va, vc, rfl, S3, hcells1⟩ := blks_part S1 hb3 hown
  have HC1 := Lib.hid hcan1
  have S4 : Sat w w3 (midP pb pm (rangeT r n) [] * (memP pm n (fun _ => 0) * (QB * whole w))) := S3.perm (by ac_rfl)
  have HCL1 : Hid (B1 = [] ∨ ∃ gb, va = some ⟨gb, 0, none⟩ ∧ Has QB gb ∧ ∀ w2 P', Sat w w2 (QB * P') → ∀ i (_ : i < B1.length), w2.cell? ⟨gb, i * 2, none⟩ = some (.int .i64 B1[i].1) ∧ w2.cell? ⟨gb, i * 2 + 1, none⟩ = some (.int .i64 B1[i].2)) := Lib.hid hcells1
  clear hown hcan1 S1 S3 hcells1
  have HK2 : Hid (∀ w' Q, Sat w w' (Q * whole w) → OpsB w' a len L) := HK
  go_wp2_with (fail)
  go_loopw [11] (fun i wr => ∃ (k : Nat) (T : Nat → Prop) (H : List Blk) (M : Nat → Int), k ≤ len ∧ i = .int .i64 k ∧ Hid (InvB r n T H) ∧ Hid (ZeroF T M) ∧ Hid (H.length ≤ k) ∧ Sat w wr (midP pb pm T H * (memP pm n M * (QB * whole w)))) (fun i _ => len - (intOf i).toNat)
  case atStart => exact ⟨0, _, _, _, by omega, rfl, Lib.hid (inv_new r n), Lib.hid (fun _ _ _ _ _ => rfl), Lib.hid (by simp), S4⟩
  case round =>
    obtain ⟨k, T, H, M, hk, rfl, HI, HZ, HL, S5⟩ := hrel
    clear S4
    by_cases hkl : k < len
    · have i1 : (k : Int) < len := by omega
      have hops : ∀ w' T' H' M', Sat w w' (midP pb pm T' H' * (memP pm n M' * (QB * whole w))) → ∃ ob off, a = some ⟨ob, off, none⟩ ∧ OpBAt w' ob (off + k * 4) (L k) := fun w' T' H' M' h' => by
        rcases HK2.out w' (midP pb pm T' H' * (memP pm n M' * QB)) (h'.perm (by ac_rfl)) with h0 | ⟨ob, off, h1, hops⟩
        · omega
        · exact ⟨ob, off, h1, hops k hkl⟩
      obtain ⟨ob, off, rfl, hop⟩ := hops _ _ _ _ S5
      obtain ⟨_, _, _, bw⟩ := HBD.out k hkl
      have hS : ∀ w' T' H' M', Sat w w' (midP pb pm T' H' * (memP pm n M' * (QB * whole w))) → w'.cell? ⟨ob, off + k * 4 + 1, none⟩ = some (.int .i64 (L k).n) ∧ w'.cell? ⟨ob, off + k * 4 + 3, none⟩ = some (.int .u64 (L k).w) := fun w' T' H' M' h' => by
        obtain ⟨ob', off', e, h1⟩ := hops w' T' H' M' h'
        simp only [Option.some.injEq, Addr.mk.injEq] at e
        obtain ⟨rfl, rfl, -⟩ := e
        exact ⟨h1.c1, h1.c3⟩
      clear hops
      generalize L k = x at hop hS bw
      obtain ⟨_, _, q2, _⟩ := hop
      have HS := Lib.hid hS
      clear hS
      go_wp2_with (fail)
      refine (s_alloc_any pb pm r n T H x.o w _ _ S5 HI.out).mono ?_
      intro e w5 hp
      cases hp with
      | no kk hkk he hs =>
        subst he
        have g1 : (kk == 0) = false := by rw [beq_eq_false_iff_ne]; exact hkk
        have H1 := Lib.hid (show H.length ≤ k + 1 by have := HL.out; omega)
        clear S5
        go_wp2_with (fail)
        (refine region_class (fun w' => w5.drew = w') (by kernel_rfl) (by kernel_rfl) (rfl) ?_; intro _; (repeat (first | go_big_quiet_step ((fail)) | quiet_step ((fail)))); refine wpQuiet_nil ?_; intro wz hz)
        subst hz
        clear g1 hkk
        go_wp2_with (fail)
        go_roundw
        case rel => exact ⟨k + 1, T, H, M, by omega, by go_num, HI, HZ, H1, hs.drew⟩
        case measure => simp [intOf]; omega
      | yes c o ho hc he hi hs =>
        subst he
        have hfit := full_fit (inv_T HI.out) hc
        have H1 := Lib.hid (show (H ++ [(((c * 2 ^ o : Nat) : Int), (o : Int))]).length ≤ k + 1 by have := HL.out; simp; omega)
        have hnT : ¬ minusQ T c o (c * 2 ^ o) := fun h => h.2 (in_block c o)
        have hz1 := zero_minus HZ.out c o
        obtain ⟨f, hf⟩ : ∃ f : Nat, c * 2 ^ o = f := ⟨_, rfl⟩
        have hfn : f < n := by have := Nat.two_pow_pos o; rw [Nat.add_mul] at hfit; omega
        rw [hf] at hnT hi hs H1 ⊢
        generalize minusQ T c o = T' at hnT hi hs hz1
        generalize H ++ [((f : Int), (o : Int))] = H' at hi hs H1
        have hyb := and15 x.n
        obtain ⟨y, hy⟩ : ∃ y, bits .and .i64 x.n 15 = y := ⟨_, rfl⟩
        rw [hy] at hyb
        obtain ⟨y, rfl⟩ := Int.eq_ofNat_of_zero_le hyb.1
        have hy15 : y < 16 := by omega
        have hw1 : IntKind.i64.wrap (16 * (f : Int)) = 16 * (f : Int) := IntWalk.i64_in _ ⟨by omega, by omega⟩
        have hw2 : IntKind.i64.wrap (16 * (f : Int) + (y : Int)) = 16 * (f : Int) + (y : Int) := IntWalk.i64_in _ ⟨by omega, by omega⟩
        have HZ1 := Lib.hid hz1
        have HI1 := Lib.hid hi
        have HNT := Lib.hid hnT
        have HW : Hid (∀ w', Sat w w' (midP pb pm T' H' * (memP pm n M * (QB * whole w))) → Calls Try.prog 21 #[.pointer (some ⟨pm, 0, none⟩), .int .i64 (16 * (f : Int) + (y : Int)), .int .u64 x.w] w' fun e w'' => e = .returned (.int .i64 0) ∧ Sat w w'' (midP pb pm T' H' * (memP pm n (setW M (16 * f + y) x.w) * (QB * whole w)))) := Lib.hid fun w' h' => (s_mwrite pm n M _ _ w w' _ h'.swap (by omega) (by omega) bw).mono fun e w'' ⟨he, h2⟩ => ⟨he, by
          have e2 : (16 * (f : Int) + (y : Int)).toNat = 16 * f + y := by omega
          rw [e2] at h2
          exact h2.swap⟩
        have hc0 := HS.out _ _ _ _ hs
        obtain ⟨hcn, hcw⟩ := hc0
        clear hf hc hfit hyb hnT hz1 hi S5
        go_wp2_with (fail)
        go_region_held3 (fun w' => w'.cell? ⟨ob, off + k * 4 + 1, none⟩ = some (.int .i64 x.n) ∧ w'.cell? ⟨ob, off + k * 4 + 3, none⟩ = some (.int .u64 x.w)) (exact HS.out _ _ _ _ (by first | assumption | exact Sat.drew (by assumption)))
          ((go_at_call 21
            refine (HW.out _ (by first | assumption | exact Sat.drew (by assumption))).mono ?_
            rintro e w7 ⟨rfl, S7⟩))
        clear hw1 hw2 hy
        go_wp2_with (fail)
        go_roundw
        case rel => exact ⟨k + 1, T', H', _, by omega, by go_num, HI1, Lib.hid (zero_set HZ1.out HNT.out hy15 _), H1, S7⟩
        case measure => simp [intOf]; omega
    · obtain rfl : k = len := by omega
      have HL60 := Lib.hid (show H.length + 0 ≤ 60 by have := HL.out; omega)
      clear HL
      go_wp2_with (fail)
      obtain ⟨wo, rfl⟩ : ∃ wo : World, wo = wr := ⟨_, rfl⟩
      go_loopw [14] (fun i wx => ∃ (p : Nat) (T : Nat → Prop) (H : List Blk) (M : Nat → Int), i = .int .i64 p ∧ Hid (H.length + p ≤ 60) ∧ Hid (InvB r n T H) ∧ Hid (ZeroF T M) ∧ Sat w wx (midP pb pm T H * (memP pm n M * (QB * whole w)))) (fun i _ => 61 - (intOf i).toNat)
      case atStart => exact ⟨0, T, H, M, rfl, HL60, HI, HZ, S5⟩
      case round =>
        obtain ⟨p, T, H, M, rfl, HL, HI, HZ, S6⟩ := hrel
        clear S5 HL60
        have hp60 : H.length + p ≤ 60 := HL.out
        go_wp2_with (fail)
        refine (s_held pb pm T H w _ _ S6 (by omega)).mono ?_
        rintro e w6 ⟨X0, hperm, -, ⟨v, rfl, hown⟩, hb6⟩
        rw [hperm.length_eq] at hown
        obtain ⟨va', vc', rfl⟩ := own_slice hown
        have S7 := S6.below hb6
        clear hown hperm S6
        by_cases h0 : 0 < H.length
        · go_wp2_with (fail)
          refine (s_held pb pm T H w _ _ S7 (by omega)).mono ?_
          rintro e w7 ⟨X, hperm, -, ⟨v, rfl, hown⟩, hb7⟩
          have hXl : X.length = H.length := hperm.length_eq
          obtain ⟨QH, xa, xc, rfl, S8, hcx⟩ := blks_part S7 hb7 hown
          have HPM := Lib.hid hperm
          have hX0 : 0 < X.length := by omega
          have HXL := Lib.hid hXl
          clear hown hperm S7 hXl
          go_upto_region 17 with (fail)
          go_cut [104] (fun s wx => s = .bool (decide (p < k ∧ 0 ≤ (L p).n)) ∧ wx = w7)
          case first =>
            by_cases h1 : p < k
            · have i1 : (p : Int) < k := by omega
              rcases HK2.out w7 (QH * (midP pb pm T H * (memP pm n M * QB))) (S8.perm (by ac_rfl)) with h0 | ⟨ob, off, rfl, hops⟩
              · omega
              have hop := hops p h1
              clear hops
              obtain ⟨_, q1, _, _⟩ := hop
              by_cases h2 : 0 ≤ (L p).n
              · go_wp2_with (fail)
                go_meet
                exact ⟨by simp [h1, h2], rfl⟩
              · go_wp2_with (fail)
                go_meet
                exact ⟨by simp [h1, h2], rfl⟩
            · go_wp2_with (fail)
              go_meet
              exact ⟨by simp [h1], rfl⟩
          case rest =>
            obtain ⟨rfl, rfl⟩ := hcut
            go_upto_if 104 with (fail)
            go_cut [16] (fun s wx => ∃ y : Nat, y < X.length ∧ s = .int .i64 y ∧ wx = wc)
            case first =>
              by_cases hB : p < k ∧ 0 ≤ (L p).n
              · rw [decide_eq_true hB]
                obtain ⟨h1, h2⟩ := hB
                have i1 : (p : Int) < k := by omega
                rcases HK2.out wc (QH * (midP pb pm T H * (memP pm n M * QB))) (S8.perm (by ac_rfl)) with h0 | ⟨ob, off, rfl, hops⟩
                · omega
                have hop := hops p h1
                clear hops
                obtain ⟨_, bn, _, _⟩ := HBD.out p h1
                generalize L p = x at hop h2 bn
                obtain ⟨_, q1, _, _⟩ := hop
                obtain ⟨m, hxm⟩ := Int.eq_ofNat_of_zero_le h2
                have hmb : m ≤ 9223372036854775807 := by have := bn.2; omega
                rw [hxm] at q1
                obtain ⟨y, hy⟩ : ∃ y, m % X.length = y := ⟨_, rfl⟩
                have hyl : y < X.length := by rw [← hy]; exact Nat.mod_lt _ hX0
                have hlz : ((X.length : Int) == 0) = false := by rw [beq_eq_false_iff_ne]; omega
                have hrem : ((m : Int)).tmod (X.length : Int) = (y : Int) := by rw [Int.tmod_eq_emod_of_nonneg (by omega), ← hy]; push_cast; rfl
                clear hy hxm h2
                go_wp2_with (fail)
                go_meet
                exact ⟨y, hyl, rfl, rfl⟩
              · rw [decide_eq_false hB]
                go_wp2_with (fail)
                go_meet
                exact ⟨0, hX0, rfl, rfl⟩
            case rest =>
              obtain ⟨y, hyX, rfl, rfl⟩ := hcut
              have iy : (y : Int) < X.length := by omega
              have hmem : X[y] ∈ H := HPM.out.mem_iff.1 (List.getElem_mem hyX)
              obtain ⟨c, o, ho, hz⟩ := HI.out.blk _ hmem
              have hcy : ∃ gb, xa = some ⟨gb, 0, none⟩ ∧ ∀ w' P', Sat w w' (QH * P') → w'.cell? ⟨gb, y * 2, none⟩ = some (.int .i64 ((c * 2 ^ o : Nat) : Int)) ∧ w'.cell? ⟨gb, y * 2 + 1, none⟩ = some (.int .i64 o) := by
                rcases hcx with h0 | ⟨gb, h1, _, hc⟩
                · rw [h0] at hyX; simp at hyX
                · exact ⟨gb, h1, fun w' P' h' => by have := hc w' P' h' y hyX; rw [hz] at this; exact this⟩
              obtain ⟨gb, rfl, hcy⟩ := hcy
              rw [hz] at hmem
              have hi3 := inv_free HI.out hmem
              have hz3 := zero_free HZ.out c o
              have hl3 : (H.erase (((c * 2 ^ o : Nat) : Int), (o : Int))).length + 1 = H.length := by rw [List.length_erase_of_mem hmem]; omega
              have hnot : (((c * 2 ^ o : Nat) : Int), (o : Int)) ∉ H.erase (((c * 2 ^ o : Nat) : Int), (o : Int)) := fun h => (HI.out.nodup.mem_erase_iff.1 h).1 rfl
              have HF1 : Hid (∀ w', Sat w w' (QH * (midP pb pm T H * (memP pm n M * (QB * whole w)))) → Calls Try.prog 20 #[.pointer (some ⟨pb, 0, none⟩), .int .i64 ((c * 2 ^ o : Nat) : Int), .int .i64 o] w' fun e w'' => e = .returned (.int .i64 0) ∧ Sat w w'' (QH * (midP pb pm (plusQ T c o) (H.erase (((c * 2 ^ o : Nat) : Int), (o : Int))) * (memP pm n (scrubW M (c * 2 ^ o) (2 ^ o)) * (QB * whole w))))) := Lib.hid fun w' h' => (s_free_at pb pm r n T H M _ _ w w' (QH * (QB * whole w)) (h'.perm (by ac_rfl)) HI.out).mono (by
                intro e w'' hp
                cases hp with
                | no hn _ _ => exact absurd hmem hn
                | yes c2 k2 hf2 ho2 _ _ _ _ he2 _ hs2 =>
                  obtain rfl : k2 = o := by omega
                  obtain rfl : c2 = c := by
                    have : c2 * 2 ^ k2 = c * 2 ^ k2 := by omega
                    exact Nat.eq_of_mul_eq_mul_right (Nat.two_pow_pos _) this
                  exact ⟨he2, hs2.perm (by ac_rfl)⟩)
              have HF2 : Hid (∀ w', Sat w w' (QH * (midP pb pm (plusQ T c o) (H.erase (((c * 2 ^ o : Nat) : Int), (o : Int))) * (memP pm n (scrubW M (c * 2 ^ o) (2 ^ o)) * (QB * whole w)))) → Calls Try.prog 20 #[.pointer (some ⟨pb, 0, none⟩), .int .i64 ((c * 2 ^ o : Nat) : Int), .int .i64 o] w' fun e w'' => e = .returned (.int .i64 2) ∧ Sat w w'' (QH * (midP pb pm (plusQ T c o) (H.erase (((c * 2 ^ o : Nat) : Int), (o : Int))) * (memP pm n (scrubW M (c * 2 ^ o) (2 ^ o)) * (QB * whole w))))) := Lib.hid fun w' h' => (s_free_no pb pm (plusQ T c o) (H.erase (((c * 2 ^ o : Nat) : Int), (o : Int))) _ _ w w' (QH * (memP pm n (scrubW M (c * 2 ^ o) (2 ^ o)) * (QB * whole w))) (h'.perm (by ac_rfl)) hnot).mono fun e w'' ⟨he, hs⟩ => ⟨he, hs.perm (by ac_rfl)⟩
              generalize plusQ T c o = T3 at hi3 hz3 HF1 HF2
              generalize H.erase (((c * 2 ^ o : Nat) : Int), (o : Int)) = H3 at hi3 hl3 HF1 HF2
              generalize scrubW M (c * 2 ^ o) (2 ^ o) = M3 at hz3 HF1 HF2
              generalize c * 2 ^ o = f at HF1 HF2 hcy
              have g300 : decide (300 < (p : Int)) = false := by simp; omega
              have HI3 := Lib.hid hi3
              have HZ3 := Lib.hid hz3
              have HL3 := Lib.hid (show H3.length + (p + 1) ≤ 60 by omega)
              obtain ⟨hc0, hc1⟩ := hcy _ _ S8
              have HCY := Lib.hid hcy
              clear hcy hcx hmem hz hi3 hz3 hl3 hnot
              go_wp2_with (fail)
              go_region_held3 (fun w' => w'.cell? ⟨gb, y * 2, none⟩ = some (.int .i64 f) ∧ w'.cell? ⟨gb, y * 2 + 1, none⟩ = some (.int .i64 o)) (exact HCY.out _ _ (by first | assumption | exact Sat.drew (by assumption)))
                ((first
                  | (go_at_call 20
                     refine (HF1.out _ (by first | assumption | exact Sat.drew (by assumption))).mono ?_
                     rintro e w8 ⟨rfl, S9⟩)
                  | (go_at_call 20
                     refine (HF2.out _ (by first | assumption | exact Sat.drew (by assumption))).mono ?_
                     rintro e w9 ⟨rfl, S10⟩)))
              clear g300
              go_wp2_with (fail)
              go_roundw
              case rel => exact ⟨p + 1, T3, H3, M3, by go_num, HL3, HI3, HZ3, S10.right⟩
              case measure => simp [intOf]; omega
        · obtain rfl : H = [] := List.eq_nil_of_length_eq_zero (by omega)
          have hT := all_free HI.out
          rw [hT] at HZ S7
          clear hT HI HL hp60
          go_wp2_with (fail)
          refine (s_blocks pb pm _ _ w _ _ S7).mono ?_
          rintro e w7 ⟨B2, hcan2, ⟨v, rfl, hown⟩, hb7⟩
          obtain rfl := can_eq HC1.out hcan2
          obtain ⟨QC, va2, vc2, rfl, S8, hcells2⟩ := blks_part S7 hb7 hown
          clear hown hcan2 S7
          have hcn : cnt (rangeT r n) 256 = n - r := (cnt_congr 256 (fun x _ => by unfold rangeT; omega)).trans (cnt_int r (n - r) 256 (by omega))
          obtain ⟨D, hD⟩ : ∃ D, n - r = D := ⟨_, rfl⟩
          rw [hD] at hcn
          have hw1 : IntKind.i64.wrap ((n : Int) - (r : Int)) = (D : Int) := by rw [IntWalk.i64_in _ ⟨by omega, by omega⟩]; omega
          have HCN := Lib.hid hcn
          clear hcn hD
          have S9 : Sat w w7 (midP pb pm (rangeT r n) [] * (memP pm n M * (QC * (QB * whole w)))) := S8.perm (by ac_rfl)
          clear S8
          go_wp2_with (fail)
          have hL := s_left' pb pm _ _ w _ _ S9
          rw [HCN.out] at hL
          refine hL.mono ?_
          rintro e w' ⟨rfl, rfl⟩
          clear hL
          go_wp2_with (fail)
          refine (s_frames pm n M w _ _ S9.swap).mono ?_
          rintro e w' ⟨rfl, rfl⟩
          go_wp2_with (fail)
          clear hw1
          obtain ⟨wo, rfl⟩ : ∃ wo : World, wo = w7 := ⟨_, rfl⟩
          go_loopw [18] (fun i wx => ∃ q : Nat, q ≤ B1.length ∧ i = .int .i64 q ∧ Below wo.heap.size wo wx) (fun i _ => B1.length - (intOf i).toNat)
          case atStart => exact ⟨0, by omega, rfl, Below.refl _ _⟩
          case round =>
            obtain ⟨q, hq, rfl, hb8⟩ := hrel
            by_cases hql : q < B1.length
            · have iq : (q : Int) < B1.length := by omega
              have S10 := S9.below hb8
              rcases HCL1.out with h0 | ⟨g1, rfl, _, hc1⟩
              · rw [h0] at hql; simp at hql
              rcases hcells2 with h0 | ⟨g2, rfl, _, hc2⟩
              · rw [h0] at hql; simp at hql
              obtain ⟨c0, c1⟩ := hc1 wr (midP pb pm (rangeT r n) [] * (memP pm n M * (QC * whole w))) (S10.perm (by ac_rfl)) q hql
              obtain ⟨d0, d1⟩ := hc2 wr (midP pb pm (rangeT r n) [] * (memP pm n M * (QB * whole w))) (S10.perm (by ac_rfl)) q hql
              clear hc1 hc2 S10
              generalize B1[q] = z at c0 c1 d0 d1
              go_wp2_with (fail)
              have k0 : ∀ u : Wc (fun w' => wr.drew = w'), u.w.cell? ⟨g1, q * 2, none⟩ = some (.int .i64 z.1) := fun u => by rw [← u.h]; exact c0
              have k1 : ∀ u : Wc (fun w' => wr.drew = w'), u.w.cell? ⟨g1, q * 2 + 1, none⟩ = some (.int .i64 z.2) := fun u => by rw [← u.h]; exact c1
              have k2 : ∀ u : Wc (fun w' => wr.drew = w'), u.w.cell? ⟨g2, q * 2, none⟩ = some (.int .i64 z.1) := fun u => by rw [← u.h]; exact d0
              have k3 : ∀ u : Wc (fun w' => wr.drew = w'), u.w.cell? ⟨g2, q * 2 + 1, none⟩ = some (.int .i64 z.2) := fun u => by rw [← u.h]; exact d1
              (refine region_class (fun w' => wr.drew = w') (by kernel_rfl) (by kernel_rfl) (rfl) ?_; intro _; (repeat (first | go_big_quiet_step ((fail)) | quiet_step ((fail)))); refine wpQuiet_nil ?_; intro wz hz)
              clear k0 k1 k2 k3 c0 c1 d0 d1
              subst hz
              go_wp2_with (fail)
              go_roundw
              case rel => exact ⟨q + 1, by omega, by go_num, by repeat (first | with_reducible exact Below.refl _ _ | with_reducible assumption | with_reducible refine below_drewN ?_ _ | with_reducible refine Below.drew ?_ | with_reducible refine Below.setCell ?_ (by first | omega | (simp <;> omega)) _ | with_reducible refine Below.alloc ?_ (by first | omega | (simp <;> omega)) _)⟩
              case measure => simp [intOf]; omega
            · obtain rfl : q = B1.length := by omega
              have S10 := S9.below hb8
              go_wp2_with (fail)
              obtain ⟨wp, rfl⟩ : ∃ wp : World, wp = wr := ⟨_, rfl⟩
              go_loop [19] (fun i => ∃ q : Nat, r ≤ q ∧ q ≤ n ∧ i = .int .i64 q) (fun i => n - (intOf i).toNat)
              case atStart => exact ⟨r, by omega, by omega, rfl⟩
              case round =>
                obtain ⟨q, hq1, hq2, rfl⟩ := hrel
                go_wp2_with (fail)
                refine (s_frames pm n M w _ _ S10.swap).mono ?_
                rintro e w' ⟨rfl, rfl⟩
                by_cases hqn : q < n
                · go_wp2_with (fail)
                  refine (s_mzero pm n M q w _ _ S10.swap hqn (HZ.out q ⟨hq1, hqn⟩)).mono ?_
                  rintro e w' ⟨rfl, rfl⟩
                  go_wp2_with (fail)
                  go_round
                  case rel => exact ⟨q + 1, by omega, by omega, by go_num⟩
                  case measure => simp [intOf]; omega
                · go_wp2_with (fail)
                  go_ret
                  exact ⟨rfl, Sat.ends (S10.right.right.right.right.emp.perm (star_comm _ _))⟩

end Go.Proofs.Ytoiiblajgkdabaa
