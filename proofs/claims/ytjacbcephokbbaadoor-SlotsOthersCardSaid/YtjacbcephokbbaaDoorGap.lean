/- Gap of package bitmap: a range over the numbers of a set. -/
import Derived.Test.YtjacbcephokbbaaDoorGapPlain
import Derived.Test.YtjacbcephokbbaaDoorTzW
import Derived.RangeFuncNested
import Derived.RangeFuncBound
import Derived.RangeFuncCalls
import Derived.RangeFuncLeaves
import Derived.RangeFuncFrom
import Derived.Shelf.Abstract
import Derived.Shelf.RegionOpen
import Derived.WalkKit
import Derived.OwnWalkIn
import Derived.TacticsInMore
import Derived.LoopNIn
import Derived.LoopIn
namespace Go.Proofs.YtjacbcephokbbaaDoor
set_option linter.unusedSimpArgs false
set_option linter.unusedVariables false
set_option maxRecDepth 100000
open Go.RowKit Go.Shelf
attribute [local go_sem] Oper.semAt_some

/-- math/bits.TrailingZeros64, its table being there. -/
theorem tz_any (X : Int) (w : World) (h0 : 0 ≤ X) (h1 : X < 18446744073709551616) (hT : TabAt 0 Lib.deBruijn64tab w) :
    Calls Tryd.prog 52 #[.int .u64 X] w fun e w' => e = .returned (.int .i64 (Lib.ctz 64 X.toNat)) ∧ w = w' := by
  obtain ⟨x, rfl⟩ := Int.eq_ofNat_of_zero_le h0
  exact (Any7.bits_TrailingZeros64 Tryd.tz64 x (by omega) w (fun _ => hT)).mono fun e w' ⟨he, hw⟩ => ⟨he, hw.symm⟩
/-- What lies below B is as it was, but for one block. -/
def KpX (B x : Nat) (W W' : World) : Prop := ∀ k, k < B → k ≠ x → W'.heap[k]? = W.heap[k]?
theorem KpX.refl (B x : Nat) (W : World) : KpX B x W W := fun _ _ _ => rfl
theorem KpX.trans {B x : Nat} {U V W : World} (h : KpX B x U V) (k : KpX B x V W) : KpX B x U W := fun i h1 h2 => (k i h1 h2).trans (h i h1 h2)

set_option maxRecDepth 100000 in
set_option maxHeartbeats 8000000 in
theorem all_in (F : Fence) (n : Nat) (hF : F.fn 51) (hFt : F.fn 52)
    (hTZ : ∀ (m : Nat) (X : Int) (w : World), 0 ≤ X → X < 18446744073709551616 → TabAt 0 Lib.deBruijn64tab w → CallsIn F m Tryd.prog 52 #[.int .u64 X] w fun e w' => e = .returned (.int .i64 (Lib.ctz 64 X.toNat)) ∧ w = w')
    (hro : F.round = none) (hn : 1 ≤ n) (l Bs B x b off : Nat) (S : Nat → Bool) (hbB : b < B) (hbx : b ≠ x) (h0B : 0 < B) (h0x : 0 ≠ x) (hsB : Bs < B) (hsx : Bs ≠ x) (J Jx : List (Fin 256) → World → Prop)
    (hY : ∀ pre (y : Fin 256) W, J pre W → pre.length < 257 → YieldAt F (n - 1) Tryd.prog l #[.int .i64 (y.val : Int)] W fun e W' => (e = .returned (.bool true) ∧ J (pre ++ [y]) W' ∧ KpX B x W W') ∨ (e = .returned (.bool false) ∧ Jx (pre ++ [y]) W'))
    (W : World) (hc : W.cell? ⟨Bs, 0, none⟩ = some (.pointer (some ⟨b, off, none⟩))) (hbm : BmIn W b off S) (htab : TabAt 0 Lib.deBruijn64tab W) (hJ0 : J [] W) :
    CallsIn F n Tryd.prog 51 #[.func (.yield l) #[] #[], .pointer (some ⟨Bs, 0, none⟩)] W fun e W' => (∃ v, e = .returned v) ∧
      ((∃ ys, ys = upTo S 256 ∧ J ys W') ∨ (∃ pre, (∃ p, p ≤ 256 ∧ pre = upTo S p) ∧ Jx pre W')) := by
  refine callsIn_of_wp Tryd.func51 rfl hF ?_ hro
  simp only [Tryd.ntmps51, List.size_toArray, List.length_cons, List.length_nil, Nat.reduceAdd, Nat.reduceSub, Array.replicate_succ, Array.replicate_zero, List.push_toArray, List.append_toArray, List.nil_append, List.cons_append]
  have HBM := Lib.hid hbm
  have HTB := Lib.hid htab
  have HC := Lib.hid hc
  have HY := Lib.hid hY
  have HTZ := Lib.hid hTZ
  clear hbm htab hc hY hTZ
  gi_wp2
  gi_loopw [5] (fun i wr => ∃ k : Nat, k ≤ 4 ∧ i = .int .i64 k ∧ J (upTo S (64 * k)) wr ∧ KpX B x W wr) (fun i _ => 4 - (intOf i).toNat)
  case atStart => exact ⟨0, by omega, rfl, hJ0, KpX.refl _ _ _⟩
  case round =>
    obtain ⟨i, hi, rfl, hJi, hKi⟩ := hrel
    clear hJ0
    by_cases hi4 : i < 4
    · have c1 : wr.cell? ⟨Bs, 0, none⟩ = some (.pointer (some ⟨b, off, none⟩)) := (cell_of_heap (hKi Bs hsB hsx) 0).trans HC.out
      have cw : wr.cell? ⟨b, off + i, none⟩ = some (.int .u64 (wordF S i 0)) := by rw [cell_of_heap (hKi b hbB hbx), wordF_zero]; exact HBM.out.cell i hi4
      have i1 : (i : Int) < 4 := by omega
      obtain ⟨wo, rfl⟩ : ∃ wo : World, wo = wr := ⟨_, rfl⟩
      gi_wp2
      gi_loopw [4] (fun v wr => ∃ t : Nat, t ≤ 64 ∧ v = .int .u64 (wordF S i t) ∧ J (upTo S (64 * i + t)) wr ∧ KpX B x W wr) (fun v _ => (intOf v).toNat)
      case atStart => exact ⟨0, by omega, rfl, hJi, hKi⟩
      case round =>
        obtain ⟨t, ht, rfl, hJt, hKt⟩ := hrel
        clear c1 cw hJi hKi
        have hlw := lowW S i t ht
        have hbd := wordF_bd S i t
        cases hlw with
        | none hno h0 =>
          have g0 : (wordF S i t != 0) = false := by rw [h0]; rfl
          have e1 : upTo S (64 * (i + 1)) = upTo S (64 * i + t) := by
            rw [show 64 * (i + 1) = 64 * i + t + (64 - t) by omega]
            refine upTo_none (64 - t) fun k h1 h2 => ?_
            have := hno (k - 64 * i) (by omega) (by omega)
            rwa [show 64 * i + (k - 64 * i) = k by omega] at this
          have E1 := Lib.hid e1
          clear hno h0 e1
          gi_wp2
          go_roundw
          case rel => exact ⟨i + 1, by omega, by go_num, by rw [E1.out]; exact hJt, hKt⟩
          case measure => simp [intOf]; omega
        | some k htk hk hs hno hp hcz ha hl =>
          have hlt : 64 * i + k < 256 := by clear hcz ha hl hno hp hbd; omega
          have g0 : (wordF S i t != 0) = true := by rw [bne_iff_ne]; omega
          have e1 : upTo S (64 * i + (k + 1)) = upTo S (64 * i + t) ++ [⟨64 * i + k, hlt⟩] := by
            rw [← Nat.add_assoc, upTo_yes (by omega) hs]
            congr 1
            rw [show 64 * i + k = 64 * i + t + (k - t) by omega]
            refine upTo_none (k - t) fun j h1 h2 => ?_
            have := hno (j - 64 * i) (by omega) (by omega)
            rwa [show 64 * i + (j - 64 * i) = j by omega] at this
          have E1 := Lib.hid e1
          have HA := Lib.hid ha
          have hlen := upTo_len S (64 * i + t)
          obtain ⟨fn, tmps, assign, body, hy, hR⟩ := HY.out _ ⟨64 * i + k, hlt⟩ wr hJt (by omega)
          dsimp only at hy
          rw [show ((64 * i + k : Nat) : Int) = (i : Int) * 64 + (k : Int) by omega] at hy
          have htz := HTZ.out (n - 1) (wordF S i t) wr hbd.1 hbd.2 (fun j hj => by rw [cell_of_heap (hKt 0 h0B h0x)]; exact HTB.out j hj)
          rw [hcz] at htz
          have HTT := Lib.hid htz
          have HL := Lib.hid hl
          have b1 := hbd.1
          have b2 := hbd.2
          clear htz e1 ha hl hcz hno hbd
          gi_wp2_with (gi_at_call 52; refine HTT.out.mono ?_; rintro e w' ⟨rfl, rfl⟩)
          refine hR.mono ?_
          rintro e W3 (⟨rfl, hJ3, hk3⟩ | ⟨rfl, hJx3⟩)
          · gi_wp2
            go_roundw
            case rel => exact ⟨k + 1, by omega, by rw [HA.out], by rw [E1.out]; exact hJ3, hKt.trans hk3⟩
            case measure => rw [HA.out]; have := HL.out; have := wordF_bd S i (k + 1); simp [intOf]; omega
          · gi_wp2
            refine bodyPost_ret (results_none rfl _ _ _) rfl ?_
            exact ⟨⟨_, rfl⟩, .inr ⟨_, ⟨64 * i + (k + 1), by omega, E1.out.symm⟩, hJx3⟩⟩
    · obtain rfl : i = 4 := by omega
      gi_wp2
      go_end0
      exact ⟨⟨_, rfl⟩, .inl ⟨_, rfl, hJi⟩⟩

theorem cell_new_l (W : World) (v : Value) (t : TypeId) : (W.alloc (.cells #[v] t)).cell? ⟨W.heap.size, 0, none⟩ = some v ∧ (W.alloc (.cells #[v] t)).frozen? ⟨W.heap.size, 0, none⟩ = false := ⟨by simp [go_sem], by simp [go_sem]⟩
theorem cell_alloc_l {W : World} {a : Addr} {v : Value} (o : Obj) (h : W.cell? a = some v) : (W.alloc o).cell? a = some v := cell_kept h (World.grownBy_alloc W o none) (fun r e => by cases e)
theorem frozen_alloc_l {W : World} {a : Addr} {v : Value} (o : Obj) (h : W.cell? a = some v) (hf : W.frozen? a = false) : (W.alloc o).frozen? a = false := (frozen_kept h (World.grownBy_alloc W o none) (fun r e => by cases e)).trans hf
theorem gap_all {S : Nat → Bool} {m e : Int} {ys : List (Fin 256)} (hm : 1 ≤ m) (he : e ≤ 256) (hys : ys = upTo S 256) (hb : Blk3 m e ys) : GapIs S m e (if e - fromL ys < m then -1 else fromL ys) := by
  rw [hys] at hb ⊢
  exact gap_done hm he hb
theorem kpx_b (B x : Nat) (hx : x < B) : ∀ (W : World) (l : Nat) (o o' : Obj), B ≤ l → W.heap[l]? = some o → o.isCells = false → o.isWalk = false → KpX B x W (W.putObj l o') :=
  fun W l o o' hl _ _ _ k hk _ => World.putObj_heap_other (by omega)
theorem all_stops (F : Fence) (n : Nat) (hF : F.fn 51) (hFt : F.fn 52)
    (hTZ : ∀ (m : Nat) (X : Int) (w : World), 0 ≤ X → X < 18446744073709551616 → TabAt 0 Lib.deBruijn64tab w → CallsIn F m Tryd.prog 52 #[.int .u64 X] w fun e w' => e = .returned (.int .i64 (Lib.ctz 64 X.toNat)) ∧ w = w')
    (hro : F.round = none) (hn : 1 ≤ n) (Bs B x b off : Nat) (S : Nat → Bool) (hbB : b < B) (hbx : b ≠ x) (h0B : 0 < B) (h0x : 0 ≠ x) (hsB : Bs < B) (hsx : Bs ≠ x) (w : World) (hB : B ≤ w.heap.size)
    (hc : w.cell? ⟨Bs, 0, none⟩ = some (.pointer (some ⟨b, off, none⟩))) (hbm : BmIn w b off S) (htab : TabAt 0 Lib.deBruijn64tab w) :
    SeqStopsK F n Tryd.prog 51 #[.pointer (some ⟨Bs, 0, none⟩)] (fun y : Fin 256 => #[Value.int .i64 (y.val : Int)]) (KpX B x) (fun ys => ys = upTo S 256) (fun pre => ∃ p, p ≤ 256 ∧ pre = upTo S p) 257 w := fun l J Jx W hW _ _ hY h0 =>
  all_in F n hF hFt hTZ hro hn l Bs B x b off S hbB hbx h0B h0x hsB hsx J Jx hY W ((hW.cell (p := ⟨Bs, 0, none⟩) (by show Bs < _; omega)).trans hc) (hbm.heap (hW.block b (by omega))) (fun j hj => (cell_of_heap (hW.block 0 (by omega)) j).trans (htab j hj)) h0
theorem all_any (F : Fence) (n : Nat) (hF : F.fn 38) (hro : F.round = none) (p : Option Addr) (w : World) :
    CallsIn F n Tryd.prog 38 #[.pointer p] w fun e w' => e = .returned (.func (.func 51) #[] #[.pointer (some ⟨w.heap.size, 0, none⟩)]) ∧ w' = w.alloc (.cells #[.pointer p] 67) := by
  refine callsIn_of_wp Tryd.func38 rfl hF ?_ hro
  simp only [Tryd.ntmps38, List.size_toArray, List.length_cons, List.length_nil, Nat.reduceAdd, Nat.reduceSub, Array.replicate_succ, Array.replicate_zero, List.push_toArray, List.append_toArray, List.nil_append, List.cons_append]
  gi_wp2
  go_ret
  exact ⟨rfl, rfl⟩

def GapPost (S : Nat → Bool) (m e : Int) (w : World) (d : Ending) (w' : World) : Prop := ∃ r, d = .returned (.int .i64 r) ∧ GapIs S m e r ∧ Below w.heap.size w w'
theorem gap_bad (p : Option Addr) (m e : Int) (w : World) (h : ¬ (1 ≤ m ∧ 0 ≤ e ∧ e ≤ 256)) :
    Calls Tryd.prog 30 #[.pointer p, .int .i64 m, .int .i64 e] w fun d w' => d = .returned (.int .i64 (-1)) ∧ Below w.heap.size w w' := by
  have hh : m < 1 ∨ (¬ m < 1 ∧ (e < 0 ∨ (¬ e < 0 ∧ 256 < e))) := by omega
  clear h
  rcases hh with h1 | ⟨h1, h2 | ⟨h2, h3⟩⟩
  all_goals
    go_enter Tryd.func30, Tryd.ntmps30
    go_wp2_with (fail)
    go_ret
    exact ⟨rfl, by repeat (first | with_reducible exact Below.refl _ _ | with_reducible assumption | with_reducible refine below_drewN ?_ _ | with_reducible refine Below.alloc ?_ (by simp <;> omega) _)⟩

set_option maxRecDepth 100000 in
set_option maxHeartbeats 8000000 in
theorem gap_in (F : Fence) (n : Nat) (hG : F.fn 30) (hA : F.fn 38) (hF : F.fn 51) (hFt : F.fn 52)
    (hTZ : ∀ (m : Nat) (X : Int) (w : World), 0 ≤ X → X < 18446744073709551616 → TabAt 0 Lib.deBruijn64tab w → CallsIn F m Tryd.prog 52 #[.int .u64 X] w fun e w' => e = .returned (.int .i64 (Lib.ctz 64 X.toNat)) ∧ w = w')
    (hro : F.round = none) (hn : 3 ≤ n) (b off : Nat) (S : Nat → Bool) (m e : Int) (w : World) (hbm : BmIn w b off S) (htab : TabAt 0 Lib.deBruijn64tab w) (hm : 1 ≤ m) (hm2 : m ≤ 9223372036854775807) (he0 : 0 ≤ e) (he : e ≤ 256) :
    CallsIn F n Tryd.prog 30 #[.pointer (some ⟨b, off, none⟩), .int .i64 m, .int .i64 e] w (GapPost S m e w) := by
  have h1 : 1 ≤ n := by omega
  have hb : b < w.heap.size := by
    have h := hbm.cell 0 (by omega)
    rcases Nat.lt_or_ge b w.heap.size with h' | h'
    · exact h'
    · unfold World.cell? at h; rw [Array.getElem?_eq_none h'] at h; cases h
  have h00 : 0 < w.heap.size := by omega
  refine callsIn_of_wp_marks Tryd.func30 rfl hG ?_ hro
  simp only [Tryd.ntmps30, List.size_toArray, List.length_cons, List.length_nil, Nat.reduceAdd, Nat.reduceSub, Array.replicate_succ, Array.replicate_zero, List.push_toArray, List.append_toArray, List.nil_append, List.cons_append]
  have g1 : ¬ m < 1 := by omega
  have g2 : ¬ e < 0 := by omega
  have g3 : ¬ 256 < e := by omega
  have HBM := Lib.hid hbm
  have HTB := Lib.hid htab
  clear hbm htab
  gi_wp2_with (gi_at_call 38; refine (all_any F (n - 1) hA hro _ _).mono ?_; rintro d w' ⟨rfl, rfl⟩)
  have c0 := cell_new_l w (.int .i64 m) 3
  have c1 := cell_new_l (w.alloc (.cells #[.int .i64 m] 3)) (.int .i64 e) 3
  have c2 := cell_new_l ((w.alloc (.cells #[.int .i64 m] 3)).alloc (.cells #[.int .i64 e] 3)) (.int .i64 0) 3
  have c3 := cell_new_l (((w.alloc (.cells #[.int .i64 m] 3)).alloc (.cells #[.int .i64 e] 3)).alloc (.cells #[.int .i64 0] 3)) (.pointer (some ⟨b, off, none⟩)) 67
  simp only [World.size_alloc] at c1 c2 c3
  have hB0 : Below w.heap.size w ((((w.alloc (.cells #[.int .i64 m] 3)).alloc (.cells #[.int .i64 e] 3)).alloc (.cells #[.int .i64 0] 3)).alloc (.cells #[.pointer (some ⟨b, off, none⟩)] 67)) := by repeat (first | with_reducible exact Below.refl _ _ | with_reducible assumption | with_reducible refine below_drewN ?_ _ | with_reducible refine Below.alloc ?_ (by simp <;> omega) _)
  refine wpIn_rangeFunc_ownF hro h1 (gf := 51) (lb := #[.pointer (some ⟨w.heap.size + 1 + 1 + 1, 0, none⟩)]) rfl hF (enters_of Tryd.func51 (by kernel_rfl) rfl)
    (all_stops F (n - 1) hF hFt hTZ hro (by omega) (w.heap.size + 1 + 1 + 1) (w.heap.size + 4) (w.heap.size + 1 + 1) b off S (by omega) (by omega) (by omega) (by omega) (by omega) (by omega) _ (by simp) c3.1 (HBM.out.heap (hB0.block b hb)) (fun j hj => (cell_of_heap (hB0.block 0 h00) j).trans (HTB.out j hj))) (fun h k => KpX.trans h k) (fun W l o o' hl => kpx_b (w.heap.size + 4) (w.heap.size + 1 + 1) (by omega) W l o o' (by simp at hl; omega)) (Below.refl _ _) (fun _ => rfl)
    (fun pre W => (Blk3 m e pre ∧ W.cell? ⟨w.heap.size, 0, none⟩ = some (.int .i64 m) ∧ W.cell? ⟨w.heap.size + 1, 0, none⟩ = some (.int .i64 e) ∧ W.cell? ⟨w.heap.size + 1 + 1, 0, none⟩ = some (.int .i64 (fromL pre)) ∧ W.frozen? ⟨w.heap.size + 1 + 1, 0, none⟩ = false) ∧ Below w.heap.size w W)
    (fun c pre W => (c = .exit 0 ∧ ∃ l x, pre = l ++ [x] ∧ Blk3 m e l ∧ (e ≤ (x.val : Int) ∨ m ≤ (x.val : Int) - fromL l) ∧ W.cell? ⟨w.heap.size, 0, none⟩ = some (.int .i64 m) ∧ W.cell? ⟨w.heap.size + 1, 0, none⟩ = some (.int .i64 e) ∧ W.cell? ⟨w.heap.size + 1 + 1, 0, none⟩ = some (.int .i64 (fromL l))) ∧ Below w.heap.size w W)
    (OwnFrom.and (Own.from (fun s A B row hs hg hr => ⟨hs.1, cell_kept hs.2.1 hg hr, cell_kept hs.2.2.1 hg hr, cell_kept hs.2.2.2.1 hg hr, (frozen_kept hs.2.2.2.1 hg hr).trans hs.2.2.2.2⟩) _) (ownFrom_below (Nat.le_refl _) (by simp; omega)))
    (fun c => OwnFrom.and (Own.from (fun s A B row hs hg hr => by obtain ⟨h1, l, x, h2, h3, h4, h5, h6, h7⟩ := hs; exact ⟨h1, l, x, h2, h3, h4, cell_kept h5 hg hr, cell_kept h6 hg hr, cell_kept h7 hg hr⟩) _) (ownFrom_below (Nat.le_refl _) (by simp; omega)))
    ⟨⟨blk_nil he0, cell_alloc_l _ (cell_alloc_l _ (cell_alloc_l _ c0.1)), cell_alloc_l _ (cell_alloc_l _ c1.1), cell_alloc_l _ c2.1, frozen_alloc_l _ c2.1 c2.2⟩, hB0⟩
    (fun y => { tmps := #[.pointer (some ⟨b, off, none⟩), .int .i64 m, .int .i64 e, undef, .pointer (some ⟨w.heap.size, 0, none⟩), .pointer (some ⟨w.heap.size + 1, 0, none⟩), .int .i64 0, .pointer (some ⟨w.heap.size + 1 + 1, 0, none⟩), .int .i64 (y.val : Int), .int .i64 m, .bool false, .bool false, .int .i64 e, .bool false, .bool false, .bool false, .int .i64 e, .bool false, .bool false, .pointer (some ⟨b, off, none⟩), .func (.func 51) #[] #[.pointer (some ⟨w.heap.size + 1 + 1 + 1, 0, none⟩)], .int .i64 (y.val : Int), undef, undef, undef, undef, undef, undef, undef, undef, undef, undef, undef, undef, undef, undef, undef, undef, undef, undef], defers := [] }) ?assign ?body ?done ?stop
  case assign =>
    intro l y W K hK
    gi_wp2
    exact hK
  case body =>
    rintro l pre y W ⟨⟨hb, hc0, hc1, hc2, hf⟩, hB⟩ _
    have hy := y.isLt
    have hfl := fromL_bd pre
    have b1 := hfl.1
    have b2 := hfl.2
    have hq : fromL (pre ++ [y]) = (y.val : Int) + 1 := fromL_snoc pre y
    have HQ := Lib.hid hq
    have HBK := Lib.hid hb
    clear hq hb hfl
    generalize hv : fromL pre = v at *
    have HV := Lib.hid hv
    clear hv
    by_cases t1 : e ≤ (y.val : Int)
    · have t1' : decide (e ≤ (y.val : Int)) = true := decide_eq_true t1
      gi_wp2
      exact ⟨KeepsOthers.refl _, ⟨rfl, pre, y, rfl, HBK.out, Or.inl t1, hc0, hc1, by rw [HV.out]; exact hc2⟩, hB⟩
    · have t1' : decide (e ≤ (y.val : Int)) = false := decide_eq_false t1
      by_cases t2 : m ≤ (y.val : Int) - v
      · have t2' : decide (m ≤ (y.val : Int) - v) = true := decide_eq_true t2
        gi_wp2
        exact ⟨KeepsOthers.refl _, ⟨rfl, pre, y, rfl, HBK.out, Or.inr (by rw [HV.out]; exact t2), hc0, hc1, by rw [HV.out]; exact hc2⟩, hB⟩
      · have t2' : decide (m ≤ (y.val : Int) - v) = false := decide_eq_false t2
        have hbs : Blk3 m e (pre ++ [y]) := blk_snoc HBK.out (by omega) (by rw [HV.out]; omega)
        gi_wp2
        exact ⟨KeepsOthers.setCell _ _ _, fun k hk hne => Below.heap_setCell _ _ _ _ hne, ⟨hbs, by simp [go_sem, hc0], by simp [go_sem, hc1], by rw [HQ.out]; exact World.cell?_setCell_same' _ _ _ (by rw [hc2]; rfl), by rw [World.frozen?_setCell]; exact hf⟩, hB.setCell (p := ⟨w.heap.size + 1 + 1, 0, none⟩) (by simp; omega) _⟩
  case done =>
    rintro D ys W hD hys ⟨⟨hb, hc0, hc1, hc2, hf⟩, hB⟩ hK
    have hg := gap_all hm he hys hb
    have b1 := (fromL_bd ys).1
    have b2 := (fromL_bd ys).2
    clear hys hb
    generalize fromL ys = v at *
    have HG := Lib.hid hg
    clear hg
    by_cases t : e - v < m
    · have hr : (if e - v < m then (-1 : Int) else v) = -1 := if_pos t
      have HR := Lib.hid hr
      clear hr
      gi_wp2
      refine ⟨by simp, .inl ⟨_, _, rfl, run_takeDeferred hK, ?_⟩⟩
      exact ⟨_, results_tmp rfl _ _ _, _, rfl, by have := HG.out; rw [HR.out] at this; exact this, hB.trans (belowK_b (w := w) (Nat.le_refl _) W D _ _ (by simp at hD; omega) hK rfl rfl)⟩
    · have hr : (if e - v < m then (-1 : Int) else v) = v := if_neg t
      have HR := Lib.hid hr
      clear hr
      gi_wp2
      refine ⟨by simp, .inl ⟨_, _, rfl, run_takeDeferred hK, ?_⟩⟩
      exact ⟨_, results_tmp rfl _ _ _, _, rfl, by have := HG.out; rw [HR.out] at this; exact this, hB.trans (belowK_b (w := w) (Nat.le_refl _) W D _ _ (by simp at hD; omega) hK rfl rfl)⟩
  case stop =>
    rintro D c pre W hD ⟨p, hp, rfl⟩ ⟨⟨rfl, l, x, hpre, hb, hx, hc0, hc1, hc2⟩, hB⟩ hK
    have hg := gap_stop hm he hpre hb hx
    have b1 := (fromL_bd l).1
    have b2 := (fromL_bd l).2
    clear hx hpre hb
    generalize fromL l = v at *
    have HG := Lib.hid hg
    clear hg
    by_cases t : e - v < m
    · have hr : (if e - v < m then (-1 : Int) else v) = -1 := if_pos t
      have HR := Lib.hid hr
      clear hr
      gi_wp2
      refine ⟨by simp, .inl ⟨_, _, rfl, run_takeDeferred hK, ?_⟩⟩
      exact ⟨_, results_tmp rfl _ _ _, _, rfl, by have := HG.out; rw [HR.out] at this; exact this, hB.trans (belowK_b (w := w) (Nat.le_refl _) W D _ _ (by simp at hD; omega) hK rfl rfl)⟩
    · have hr : (if e - v < m then (-1 : Int) else v) = v := if_neg t
      have HR := Lib.hid hr
      clear hr
      gi_wp2
      refine ⟨by simp, .inl ⟨_, _, rfl, run_takeDeferred hK, ?_⟩⟩
      exact ⟨_, results_tmp rfl _ _ _, _, rfl, by have := HG.out; rw [HR.out] at this; exact this, hB.trans (belowK_b (w := w) (Nat.le_refl _) W D _ _ (by simp at hD; omega) hK rfl rfl)⟩

theorem gap_any (b off : Nat) (S : Nat → Bool) (m e : Int) (w : World) (hbm : BmIn w b off S) (htab : TabAt 0 Lib.deBruijn64tab w) (hm : 1 ≤ m) (hm2 : m ≤ 9223372036854775807) (he0 : 0 ≤ e) (he : e ≤ 256) :
    Calls Tryd.prog 30 #[.pointer (some ⟨b, off, none⟩), .int .i64 m, .int .i64 e] w (GapPost S m e w) :=
  (callsIn_wide (n := 3)).1 (gap_in Fence.wide 3 trivial trivial trivial trivial (fun k X w' h0 h1 hT => callsIn_wide.2 (tz_any X w' h0 h1 hT)) rfl (Nat.le_refl _) b off S m e w hbm htab hm hm2 he0 he)

end Go.Proofs.YtjacbcephokbbaaDoor
