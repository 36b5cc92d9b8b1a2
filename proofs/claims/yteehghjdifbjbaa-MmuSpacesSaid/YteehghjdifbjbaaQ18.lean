/- Part 18 of the proofs: Open11, And, LawMmuSpaces, Swaps. -/
import Derived.Test.YteehghjdifbjbaaQ17
import Derived.Test.YteehghjdifbjbaaQ1
import Derived.Laws.BitsLemmas
import Derived.Deep.CutBlock
namespace Go.Proofs.Yteehghjdifbjbaa
set_option linter.unusedSimpArgs false
set_option linter.unusedVariables false
set_option maxRecDepth 100000
open Go.ChangeShapes Go.WideShapes Go.ChangeAt Go.RowKit Go.Deep

variable {H : Type} {enc : TypeId × Value → H} {w : World} {base : Nat} {spare : Nat → Bool} {held : Bool}
theorem entry11_open {n : Nat} {cs : List Value} {r : DataW H × List MemPlace} (h : DataW.trod enc Try.prog w base spare held n 34 cs = some r) :
    ∃ (x0 : Bool) (x1 : Bool) (x2 : Bool) (x3 : Int), cs = [.bool x0, .bool x1, .bool x2, .int .i64 x3] ∧ (IntKind.i64.min ≤ x3 ∧ x3 ≤ IntKind.i64.max) := by
  have c34 : Try.prog.cellsOf 34 = 4 := by kernel_rfl
  have c4 : Try.prog.cellsOf 4 = 1 := by kernel_rfl
  have c3 : Try.prog.cellsOf 3 = 1 := by kernel_rfl
  cases n with
  | zero => simp [DataW.trod] at h
  | succ n =>
    simp only [DataW.trod, Try.underlying34] at h
    split at h
    · rename_i hl
      rw [c34] at hl
      match cs, hl with
      | [c_0, c_1, c_2, c_3], _ =>
      simp [c4, c3, List.mapM_cons, Option.bind_eq_some_iff] at h
      obtain ⟨_, _, e0, _, ⟨_, _, e1, _, ⟨_, _, e2, _, ⟨_, _, e3, _⟩, _⟩, _⟩, _⟩ := h
      obtain ⟨y0, rfl⟩ := op_bool Try.underlying4 e0
      obtain ⟨y1, rfl⟩ := op_bool Try.underlying4 e1
      obtain ⟨y2, rfl⟩ := op_bool Try.underlying4 e2
      obtain ⟨y3, rfl, b3⟩ := op_int Try.underlying3 e3
      exact ⟨y0, y1, y2, y3, rfl, b3⟩
    · cases h

theorem op11_open {n : Nat} {cs : List Value} {r : DataW H × List MemPlace} (h : DataW.trod enc Try.prog w base spare held n 51 cs = some r) :
    ∃ (x0 : Int) (x1 : Int) (x2 : Int) (x3 : Int) (x4 : Int) (x5 : Int) (x6 : Bool) (x7 : Bool) (x8 : Bool) (x9 : Int), cs = [.int .i64 x0, .int .i64 x1, .int .i64 x2, .int .i64 x3, .int .i64 x4, .int .u64 x5, .bool x6, .bool x7, .bool x8, .int .i64 x9] ∧ (IntKind.i64.min ≤ x0 ∧ x0 ≤ IntKind.i64.max) ∧ (IntKind.i64.min ≤ x1 ∧ x1 ≤ IntKind.i64.max) ∧ (IntKind.i64.min ≤ x2 ∧ x2 ≤ IntKind.i64.max) ∧ (IntKind.i64.min ≤ x3 ∧ x3 ≤ IntKind.i64.max) ∧ (IntKind.i64.min ≤ x4 ∧ x4 ≤ IntKind.i64.max) ∧ (IntKind.u64.min ≤ x5 ∧ x5 ≤ IntKind.u64.max) ∧ (IntKind.i64.min ≤ x9 ∧ x9 ≤ IntKind.i64.max) := by
  have c51 : Try.prog.cellsOf 51 = 10 := by kernel_rfl
  have c3 : Try.prog.cellsOf 3 = 1 := by kernel_rfl
  have c49 : Try.prog.cellsOf 49 = 1 := by kernel_rfl
  have c34 : Try.prog.cellsOf 34 = 4 := by kernel_rfl
  cases n with
  | zero => simp [DataW.trod] at h
  | succ n =>
    simp only [DataW.trod, Try.underlying51] at h
    split at h
    · rename_i hl
      rw [c51] at hl
      match cs, hl with
      | [c_0, c_1, c_2, c_3, c_4, c_5, c_6, c_7, c_8, c_9], _ =>
      simp [c34, c3, c49, List.mapM_cons, Option.bind_eq_some_iff] at h
      obtain ⟨_, _, e0, _, ⟨_, _, e1, _, ⟨_, _, e2, _, ⟨_, _, e3, _, ⟨_, _, e4, _, ⟨_, _, e5, _, ⟨_, _, e6, _⟩, _⟩, _⟩, _⟩, _⟩, _⟩, _⟩ := h
      obtain ⟨y0, rfl, b0⟩ := op_int Try.underlying3 e0
      obtain ⟨y1, rfl, b1⟩ := op_int Try.underlying3 e1
      obtain ⟨y2, rfl, b2⟩ := op_int Try.underlying3 e2
      obtain ⟨y3, rfl, b3⟩ := op_int Try.underlying3 e3
      obtain ⟨y4, rfl, b4⟩ := op_int Try.underlying3 e4
      obtain ⟨y5, rfl, b5⟩ := op_int Try.underlying49 e5
      obtain ⟨y6, y7, y8, y9, g6, b9⟩ := entry11_open e6
      simp only [List.cons.injEq, and_true] at g6
      obtain ⟨rfl, rfl, rfl, rfl⟩ := g6
      exact ⟨y0, y1, y2, y3, y4, y5, y6, y7, y8, y9, rfl, b0, b1, b2, b3, b4, b5, b9⟩
    · cases h

theorem ops11_open {W : World} {a : Option Addr} {len cap : Nat} {d : DataW H} {p : List MemPlace} (h : DataW.Trod enc Try.prog W 0 (fun _ => true) true 22 (.slice a len cap) d p) :
    ∃ L : Nat → Op11, Ops11 W a len L ∧ len ≤ 9223372036854775807 ∧ ∀ i, i < len → 0 ≤ (L i).x ∧ (L i).x < 18446744073709551616 := by
  obtain ⟨fuel, hf⟩ := h
  obtain ⟨h1, h2, h3⟩ := row_open (P := fun cs => ∃ o : Op11, cs = [.int .i64 o.d, .int .i64 o.addr, .int .i64 o.at_, .int .i64 o.fr, .int .i64 o.pl, .int .u64 o.x, .bool o.ev, .bool o.ew, .bool o.et, .int .i64 o.ef] ∧ 0 ≤ o.x ∧ o.x < 18446744073709551616) Try.underlying22 (s := 10) (by kernel_rfl) (by omega) (fun n cs r ht => by
    obtain ⟨x0, x1, x2, x3, x4, x5, x6, x7, x8, x9, rfl, b0, b1, b2, b3, b4, b5, b9⟩ := op11_open ht
    have h5 : 0 ≤ x5 ∧ x5 ≤ 18446744073709551615 := b5
    exact ⟨⟨x0, x1, x2, x3, x4, x5, x6, x7, x8, x9⟩, rfl, h5.1, Int.lt_of_le_of_lt h5.2 (by decide)⟩) hf
  refine (fun h : ∃ L : Nat → Op11, Ops11 W a len L ∧ ∀ i, i < len → 0 ≤ (L i).x ∧ (L i).x < 18446744073709551616 => h.elim fun L hL => ⟨L, hL.1, by unfold maxLen at h2; omega, hL.2⟩) ?_
  rcases h3 with h0 | ⟨b, off, rfl, hb, hel⟩
  · exact ⟨fun _ => ⟨0, 0, 0, 0, 0, 0, false, false, false, 0⟩, Or.inl h0, fun i hi => by omega⟩
  · have hall : ∀ i, ∃ o : Op11, i < len → (OpAt W b (off + i * 10) o ∧ 0 ≤ o.x ∧ o.x < 18446744073709551616) := by
      intro i
      by_cases hi : i < len
      · obtain ⟨cs, ⟨o, rfl, hx⟩, _, hc⟩ := hel i hi
        exact ⟨o, fun _ => ⟨⟨by simpa using hc 0 (by omega), by simpa using hc 1 (by omega), by simpa using hc 2 (by omega), by simpa using hc 3 (by omega), by simpa using hc 4 (by omega), by simpa using hc 5 (by omega), by simpa using hc 6 (by omega), by simpa using hc 7 (by omega), by simpa using hc 8 (by omega), by simpa using hc 9 (by omega)⟩, hx⟩⟩
      · exact ⟨⟨0, 0, 0, 0, 0, 0, false, false, false, 0⟩, fun h => absurd h hi⟩
    obtain ⟨L, hL⟩ := Classical.skolem.1 hall
    exact ⟨L, Or.inr ⟨b, off, rfl, hb, fun i hi => (hL i hi).1⟩, fun i hi => (hL i hi).2⟩

end Go.Proofs.Yteehghjdifbjbaa

namespace Go.Proofs.Yteehghjdifbjbaa
set_option linter.unusedSimpArgs false
set_option linter.unusedVariables false
set_option maxRecDepth 100000
open Go.RowKit

theorem i64_and31 (n : Int) : bits .and .i64 n 31 = n % 32 := by
  have h31 : (BitVec.ofInt 64 31).toNat = 2 ^ 5 - 1 := by decide
  have key : (BitVec.ofInt 64 n &&& BitVec.ofInt 64 31).toNat = (n % ((2 ^ 64 : Nat) : Int)).toNat % 2 ^ 5 := by
    rw [BitVec.toNat_and, BitVec.toNat_ofInt, h31, Nat.and_two_pow_sub_one_eq_mod]
  show IntKind.i64.wrap ((BitVec.ofInt 64 n &&& BitVec.ofInt 64 31).toNat : Nat) = n % 32
  rw [key, IntKind.wrap_i64]
  omega
theorem i64_and15 (n : Int) : bits .and .i64 n 15 = n % 16 := by
  have h31 : (BitVec.ofInt 64 15).toNat = 2 ^ 4 - 1 := by decide
  have key : (BitVec.ofInt 64 n &&& BitVec.ofInt 64 15).toNat = (n % ((2 ^ 64 : Nat) : Int)).toNat % 2 ^ 4 := by
    rw [BitVec.toNat_and, BitVec.toNat_ofInt, h31, Nat.and_two_pow_sub_one_eq_mod]
  show IntKind.i64.wrap ((BitVec.ofInt 64 n &&& BitVec.ofInt 64 15).toNat : Nat) = n % 16
  rw [key, IntKind.wrap_i64]
  omega
theorem i64_and7 (n : Int) : bits .and .i64 n 7 = n % 8 := by
  have h31 : (BitVec.ofInt 64 7).toNat = 2 ^ 3 - 1 := by decide
  have key : (BitVec.ofInt 64 n &&& BitVec.ofInt 64 7).toNat = (n % ((2 ^ 64 : Nat) : Int)).toNat % 2 ^ 3 := by
    rw [BitVec.toNat_and, BitVec.toNat_ofInt, h31, Nat.and_two_pow_sub_one_eq_mod]
  show IntKind.i64.wrap ((BitVec.ofInt 64 n &&& BitVec.ofInt 64 7).toNat : Nat) = n % 8
  rw [key, IntKind.wrap_i64]
  omega

end Go.Proofs.Yteehghjdifbjbaa

namespace Go.Proofs.Yteehghjdifbjbaa
set_option linter.unusedSimpArgs false
set_option linter.unusedVariables false
set_option maxRecDepth 100000
open Go.RowKit
set_option maxHeartbeats 8000000

/-- A space and a unit whose lines fit it (or may not; or may but for a page). -/
def SpcAny (g : World) (pm pl ps pu pb c : Nat) (R : HP) (wx : World) : Prop := ∃ t T H M L, t.root = c ∧ LowPg t ∧ SpSt g ps pm pb 32 64 t T H M (tlbP pl L * (unitP pu pm pl c 1 * R)) wx
def SpcSt (g : World) (pm pl ps pu pb c : Nat) (R : HP) (wx : World) : Prop := ∃ t T H M L, t.root = c ∧ LowPg t ∧ FitL L 1 t.pg ∧ SpSt g ps pm pb 32 64 t T H M (tlbP pl L * (unitP pu pm pl c 1 * R)) wx
def SpcBut (g : World) (pm pl ps pu pb c : Nat) (q : Nat) (R : HP) (wx : World) : Prop := ∃ t T H M L, t.root = c ∧ LowPg t ∧ (∃ pg, FitL L 1 pg ∧ ∀ q', q' ≠ q → t.pg q' = pg q') ∧ SpSt g ps pm pb 32 64 t T H M (tlbP pl L * (unitP pu pm pl c 1 * R)) wx
theorem s_drop (pb : Nat) (L : Nat → Option Ln) (asid page : Int) (g w : World) (R : HP) (h : Sat g w (tlbP pb L * R)) :
    Calls Try.prog 40 #[.pointer (some ⟨pb, 0, none⟩), .int .i64 asid, .int .i64 page] w fun e w' => (∃ b : Bool, e = .returned (.bool b)) ∧ Sat g w' (tlbP pb (dropL (fun l => l.a == asid && l.p == page) L 8) * R) := by
  obtain ⟨lb, hi, hc⟩ := h.tlb
  refine (tlb_drop pb lb L asid page w hi).mono fun e w' ⟨h1, h2, h3⟩ => ⟨h1, hc w' _ ⟨lb, h2, fun i l hi hl => Or.inl ⟨fun hn => ?_, rfl⟩, h3⟩⟩
  unfold dropL at hl
  rw [hn] at hl
  simp at hl
theorem tlb_front {g w : World} {ps pm pb r n : Nat} {T : Nat → Prop} {H : List Blk} {M : Nat → Int} {A R : HP} (h : Sat g w (spP ps pm pb r * (midP pb pm T H * (memP pm n M * (A * R))))) : Sat g w (A * (spP ps pm pb r * (midP pb pm T H * (memP pm n M * R)))) := h.perm (by ac_rfl)
theorem tlb_back {g w : World} {ps pm pb r n : Nat} {T : Nat → Prop} {H : List Blk} {M : Nat → Int} {A R : HP} (h : Sat g w (A * (spP ps pm pb r * (midP pb pm T H * (memP pm n M * R))))) : Sat g w (spP ps pm pb r * (midP pb pm T H * (memP pm n M * (A * R)))) := h.perm (by ac_rfl)

theorem s_map_c (g : World) (pm pl ps pu pb c : Nat) (R : HP) (w : World) (p fr : Int) (bw : Bool) (hf : fr < 32) (h : SpcSt g pm pl ps pu pb c R w) :
    Calls Try.prog 34 #[.pointer (some ⟨ps, 0, none⟩), .int .i64 p, .int .i64 fr, .bool bw] w fun e w' => (∃ v, e = .returned v) ∧ SpcAny g pm pl ps pu pb c R w' := by
  obtain ⟨t, T, H, M, L, hr, hl, _, h⟩ := h
  refine (s_mapT g ps pm pb 32 64 t T H M _ w p fr bw h).mono fun e w' hp => ?_
  cases hp with
  | no k _ _ he hs => exact ⟨⟨_, he⟩, t, T, H, M, L, hr, hl, hs⟩
  | ok q f t' T' H' M' _ hff _ _ ha hpg he hs => exact ⟨⟨_, he⟩, t', T', H', M', L, ha.root.trans hr, hl.upd hpg (fun y hy => by cases hy; show f < 32; omega), hs⟩
theorem s_unmap_c (g : World) (pm pl ps pu pb c : Nat) (R : HP) (w : World) (p : Int) (h : SpcSt g pm pl ps pu pb c R w) :
    Calls Try.prog 38 #[.pointer (some ⟨ps, 0, none⟩), .int .i64 p] w fun e w' => (∃ v, e = .returned v) ∧ SpcAny g pm pl ps pu pb c R w' := by
  obtain ⟨t, T, H, M, L, hr, hl, _, h⟩ := h
  refine (s_unmapT g ps pm pb 32 64 t T H M _ w p h).mono fun e w' hp => ?_
  cases hp with
  | no k _ _ _ he hs => exact ⟨⟨_, he⟩, t, T, H, M, L, hr, hl, hs⟩
  | ok q x t' T' H' M' _ _ _ ha hpg he hs => exact ⟨⟨_, he⟩, t', T', H', M', L, ha.root.trans hr, hl.upd hpg (fun y hy => by cases hy), hs⟩
theorem s_prot_c (g : World) (pm pl ps pu pb c : Nat) (R : HP) (w : World) (q : Nat) (bw : Bool) (h : SpcSt g pm pl ps pu pb c R w) :
    Calls Try.prog 39 #[.pointer (some ⟨ps, 0, none⟩), .int .i64 q, .bool bw] w fun e w' => (∃ v, e = .returned v) ∧ SpcBut g pm pl ps pu pb c q R w' := by
  obtain ⟨t, T, H, M, L, hr, hl, hf, h⟩ := h
  refine (s_protT g ps pm pb 32 64 t T H M _ w q bw h).mono fun e w' hp => ?_
  cases hp with
  | no k _ _ he hs => exact ⟨⟨_, he⟩, t, T, H, M, L, hr, hl, ⟨_, hf, fun _ _ => rfl⟩, hs⟩
  | ok q' x t' M' hq _ hx ha hpg he hs =>
    obtain rfl : q' = q := by omega
    exact ⟨⟨_, he⟩, t', T, H, M', L, ha.root.trans hr, hl.upd hpg (fun y hy => by cases hy; have h5 : x.1 < 32 := hl _ _ hx; exact h5), ⟨_, hf, fun p hp => by rw [hpg, updF_ne _ _ hp]⟩, hs⟩
theorem s_flush_c (g : World) (pm pl ps pu pb c : Nat) (R : HP) (w : World) (h : SpcAny g pm pl ps pu pb c R w) :
    Calls Try.prog 19 #[.pointer (some ⟨pl, 0, none⟩), .int .i64 1] w fun e w' => (∃ v, e = .returned v) ∧ SpcSt g pm pl ps pu pb c R w' := by
  obtain ⟨t, T, H, M, L, hr, hl, h⟩ := h
  exact (s_flush pl L 1 g w _ (tlb_front h.sat)).mono fun e w' ⟨he, hs⟩ => ⟨⟨_, he⟩, t, T, H, M, _, hr, hl, FitL.flush L 1 _, h.sets (tlb_back hs)⟩
theorem s_drop_c (g : World) (pm pl ps pu pb c q : Nat) (R : HP) (w : World) (h : SpcBut g pm pl ps pu pb c q R w) :
    Calls Try.prog 40 #[.pointer (some ⟨pl, 0, none⟩), .int .i64 1, .int .i64 q] w fun e w' => (∃ v, e = .returned v) ∧ SpcSt g pm pl ps pu pb c R w' := by
  obtain ⟨t, T, H, M, L, hr, hl, ⟨pg, hf, hpg⟩, h⟩ := h
  refine (s_drop pl L 1 q g w _ (tlb_front h.sat)).mono fun e w' ⟨⟨b, he⟩, hs⟩ => ⟨⟨_, he⟩, t, T, H, M, _, hr, hl, hf.drop _ (fun l hT ha q' hq' => hpg q' (fun e => ?_)), h.sets (tlb_back hs)⟩
  rw [ha, hq', e] at hT
  simp at hT

/-- What Find tells, by pages. -/
theorem walk_pg {n : Nat} {M : Nat → Int} {t : Tree} (h : TreeW n M t) (q : Nat) : (t.pg q = none ∧ ∃ st, walkT t q = ⟨false, false, false, 0, st, 10⟩) ∨ ∃ x : Nat × Bool, t.pg q = some x ∧ ∃ st, walkT t q = ⟨true, x.2, false, x.1, st, 0⟩ := by
  cases e : t.pg q with
  | none =>
    refine Or.inl ⟨rfl, ?_⟩
    unfold walkT
    cases t.t1 (q / 256) with
    | none => exact ⟨_, rfl⟩
    | some f1 =>
      simp only
      cases t.t2 (q / 16) with
      | none => exact ⟨_, rfl⟩
      | some f2 => simp only [e]; exact ⟨_, rfl⟩
  | some x =>
    obtain ⟨_, _, _, _, ew⟩ := walk_some h e
    exact Or.inr ⟨x, rfl, _, ew⟩

theorem spaces11_walk (a : Option Addr) (len cap : Nat) (L : Nat → Op11) (g : World) (hL : Ops11 g a len L) (hm : len ≤ 9223372036854775807) (hok : ∀ i, i < len → 0 ≤ (L i).x ∧ (L i).x < 18446744073709551616) :
    Calls Try.prog 6 #[.slice a len cap] g fun e w' => e = .returned (.bool true) ∧ Below g.heap.size g w' := by
  go_enter Try.func6, Try.ntmps6
  go_wp2_with (fail)
  refine (s_awake g _ _ (Sat.start g)).mono ?_
  rintro e w1 ⟨rfl, S1⟩
  go_wp2_with (fail)
  refine (s_space g _ _ S1).mono ?_
  rintro e w2 ⟨pm, pl, ps, pu, pb, c, rfl, -, S2⟩
  clear S1
  have hend : ∀ w', SpcSt g pm pl ps pu pb c (whole g) w' → Below g.heap.size g w' := fun w' ⟨t, T, H, M, L, _, _, _, h⟩ => Sat.ends (h.sat.right.right.right.right.right.emp.perm (star_comm _ _))
  have HEND := Lib.hid hend
  clear hend
  have B2 : SpcSt g pm pl ps pu pb c (whole g) w2 := ⟨emptyT c, _, _, _, L0, rfl, (fun q y h => by cases h), FitL.none _ _, S2⟩
  clear S2
  by_cases h60 : 60 < len
  · have h60' : (60 : Int) < (len : Int) := by omega
    have HB := Lib.hid (HEND.out _ B2)
    clear B2 h60 hL hok
    go_wp2_with (fail)
    go_ret
    exact ⟨rfl, HB.out⟩
  · have h60' : ¬ (60 : Int) < (len : Int) := by omega
    go_wp2_with (fail)
    go_loopw [8] (fun i wr => ∃ k : Nat, k ≤ len ∧ i = .int .i64 k ∧ SpcSt g pm pl ps pu pb c (whole g) wr) (fun i _ => len - (intOf i).toNat)
    case atStart => exact ⟨0, by omega, rfl, B2⟩
    case round =>
      obtain ⟨k, hk, rfl, B3⟩ := hrel
      clear B2
      by_cases hkl : k < len
      · have i1 : (k : Int) < len := by omega
        rcases hL with h0 | ⟨b, off, rfl, hb, hcells⟩
        · omega
        have hold : wr.heap[b]? = g.heap[b]? := (HEND.out _ B3).block b hb
        have hop := (hcells k hkl).heap hold
        have hox := hok k hkl
        obtain ⟨o, ho⟩ : ∃ o, o = L k := ⟨_, rfl⟩
        rw [← ho] at hop hox
        obtain ⟨hx0, hx1⟩ := hox
        have o0 := hop.c0; have o1 := hop.c1; have o2 := hop.c2; have o3 := hop.c3; have o4 := hop.c4; have o5 := hop.c5; have o6 := hop.c6; have o7 := hop.c7; have o8 := hop.c8; have o9 := hop.c9
        clear hcells ho hop hold
        go_upto_region 9 with (fail)
        obtain ⟨bo, hbo⟩ : ∃ bo, bo = wr.heap.size := ⟨_, rfl⟩
        have hopn := op_new wr o 51
        have B4 : SpcSt g pm pl ps pu pb c (opP bo o * whole g) (wr.alloc (.cells #[.int .i64 o.d, .int .i64 o.addr, .int .i64 o.at_, .int .i64 o.fr, .int .i64 o.pl, .int .u64 o.x, .bool o.ev, .bool o.ew, .bool o.et, .int .i64 o.ef] 51)) := by
          obtain ⟨t, T, H, M, L, h1, h2, h3, h4⟩ := B3
          have S3 := Sat.new (g := g) (h := h4.sat) (w' := wr.alloc (.cells #[.int .i64 o.d, .int .i64 o.addr, .int .i64 o.at_, .int .i64 o.fr, .int .i64 o.pl, .int .u64 o.x, .bool o.ev, .bool o.ew, .bool o.et, .int .i64 o.ef] 51)) (by repeat (first | with_reducible exact Below.refl _ _ | with_reducible assumption | with_reducible refine below_drewN ?_ _ | with_reducible refine Below.alloc ?_ (by simp <;> omega) _)) hopn (loc_op _ _) (fun k hk => by rw [hk]; exact Nat.le_refl _) (fun k hk => by rw [hk]; simp)
          refine ⟨t, T, H, M, L, h1, h2, h3, h4.sets ?_⟩
          rw [hbo]
          exact S3.perm (by unfold opP; ac_rfl)
        obtain ⟨wb, hwb⟩ : ∃ wb, wb = wr.alloc (.cells #[.int .i64 o.d, .int .i64 o.addr, .int .i64 o.at_, .int .i64 o.fr, .int .i64 o.pl, .int .u64 o.x, .bool o.ev, .bool o.ew, .bool o.et, .int .i64 o.ef] 51) := ⟨_, rfl⟩
        rw [← hwb] at B4 ⊢
        rw [← hbo]
        clear hopn hwb hbo B3 o0 o1 o2 o3 o4 o5 o6 o7 o8 o9
        have hcl : ∀ w', SpcSt g pm pl ps pu pb c (opP bo o * whole g) w' → w'.cell? ⟨bo, 0, none⟩ = some (.int .i64 o.d) ∧ w'.cell? ⟨bo, 1, none⟩ = some (.int .i64 o.addr) ∧ w'.cell? ⟨bo, 2, none⟩ = some (.int .i64 o.at_) ∧ w'.cell? ⟨bo, 3, none⟩ = some (.int .i64 o.fr) ∧ w'.cell? ⟨bo, 5, none⟩ = some (.int .u64 o.x) := fun w' ⟨t, T, H, M, L, _, _, _, h⟩ => by
          have ho : OpAt w' bo 0 o := h.sat.right.right.right.right.right.inv
          exact ⟨ho.c0, ho.c1, ho.c2, ho.c3, ho.c5⟩
        have HCL := Lib.hid hcl
        clear hcl
        have hdone : ∀ w', SpcSt g pm pl ps pu pb c (opP bo o * whole g) w' → SpcSt g pm pl ps pu pb c (whole g) w' := fun w' ⟨t, T, H, M, L, h1, h2, h3, h⟩ => ⟨t, T, H, M, L, h1, h2, h3, h.sets ((h.sat.perm (show _ = opP bo o * _ by ac_rfl)).right)⟩
        have HD := Lib.hid hdone
        clear hdone
        obtain ⟨o0, o1, o2, o3, o5⟩ := HCL.out _ B4
        by_cases hg : ((0 ≤ o.at_ ∧ o.at_ ≤ 7) ∧ 0 ≤ o.addr) ∧ o.addr ≤ 65535
        case neg =>
          have hh : o.at_ < 0 ∨ (0 ≤ o.at_ ∧ 7 < o.at_) ∨ ((0 ≤ o.at_ ∧ o.at_ ≤ 7) ∧ o.addr < 0) ∨ ((0 ≤ o.at_ ∧ o.at_ ≤ 7) ∧ 0 ≤ o.addr ∧ 65535 < o.addr) := by omega
          clear hg
          rcases hh with h | ⟨h1, h2⟩ | ⟨⟨h1, h2⟩, h3⟩ | ⟨⟨h1, h2⟩, h3, h4⟩
          all_goals
            go_wp2_with (fail)
            go_roundw
            case rel => exact ⟨k + 1, by omega, by go_num, HD.out _ B4⟩
            case measure => simp [intOf]; omega
        case pos =>
          obtain ⟨⟨⟨g1, g2⟩, g3⟩, g4⟩ := hg
          obtain ⟨od, oa, ot, of_, op, ox, oev, oew, oet, oef⟩ := o
          simp only at g1 g2 g3 g4 o0 o1 o2 o3 o5 hx0 hx1
          obtain ⟨A, rfl⟩ := Int.eq_ofNat_of_zero_le g3
          have hfr : bits .and .i64 of_ 31 < 32 := by rw [i64_and31]; omega
          obtain ⟨q, hq⟩ : ∃ q, q = A / 16 := ⟨_, rfl⟩
          obtain ⟨r, hr⟩ : ∃ r, r = A % 16 := ⟨_, rfl⟩
          have hpd : (A : Int) / 16 = (q : Int) := by omega
          have hpm : (A : Int) % 16 = (r : Int) := by omega
          have hq4 : q < 4096 := by omega
          have hA6 : A < 65536 := by omega
          have hAd : A / 16 = q := hq.symm
          have hAm : A % 16 = r := hr.symm
          have HQ := Lib.hid (And.intro hAd hAm)
          have HFR := Lib.hid hfr
          clear hAd hAm hq hr hfr
          have hk1 : k + 1 ≤ len := hkl
          -- the three ifs
          go_upto_if 83 with (fail)
          go_cut [] (fun wx => SpcSt g pm pl ps pu pb c (opP bo ⟨od, A, ot, of_, op, ox, oev, oew, oet, oef⟩ * whole g) wx)
          case first =>
            by_cases h5 : od = 5
            · as_aux_lemma =>
              have e5 : (od == 5) = true := by simp [h5]
              clear h5
              go_wp2_with (fail)
              with_reducible refine (s_map_c g pm pl ps pu pb c _ _ q _ _ HFR.out B4).mono ?_
              rintro e w3 ⟨⟨v, rfl⟩, B5⟩
              go_wp2_with (fail)
              with_reducible refine (s_flush_c g pm pl ps pu pb c _ _ B5).mono ?_
              rintro e w4 ⟨⟨v2, rfl⟩, B6⟩
              go_wp2_with (fail)
              go_meet
              exact B6
            · have e5 : (od == 5) = false := by rw [beq_eq_false_iff_ne]; exact h5
              clear h5
              go_wp2_with (fail)
              go_meet
              exact B4
          case rest =>
          clear B4 o0 o1 o2 o3 o5
          have B5 := hcut
          clear hcut
          obtain ⟨o0, o1, o2, o3, o5⟩ := HCL.out _ B5
          go_upto_if 98 with (fail)
          go_cut [] (fun wx => SpcSt g pm pl ps pu pb c (opP bo ⟨od, A, ot, of_, op, ox, oev, oew, oet, oef⟩ * whole g) wx)
          case first =>
            by_cases h5 : od = 6
            · as_aux_lemma =>
              have e5 : (od == 6) = true := by simp [h5]
              clear h5
              go_wp2_with (fail)
              with_reducible refine (s_unmap_c g pm pl ps pu pb c _ _ q B5).mono ?_
              rintro e w3 ⟨⟨v, rfl⟩, B6⟩
              go_wp2_with (fail)
              with_reducible refine (s_flush_c g pm pl ps pu pb c _ _ B6).mono ?_
              rintro e w4 ⟨⟨v2, rfl⟩, B7⟩
              go_wp2_with (fail)
              go_meet
              exact B7
            · have e5 : (od == 6) = false := by rw [beq_eq_false_iff_ne]; exact h5
              clear h5
              go_wp2_with (fail)
              go_meet
              exact B5
          case rest =>
          clear B5 o0 o1 o2 o3 o5
          have B5 := hcut
          clear hcut
          obtain ⟨o0, o1, o2, o3, o5⟩ := HCL.out _ B5
          go_upto_if 106 with (fail)
          go_cut [] (fun wx => SpcSt g pm pl ps pu pb c (opP bo ⟨od, A, ot, of_, op, ox, oev, oew, oet, oef⟩ * whole g) wx)
          case first =>
            by_cases h5 : od = 7
            · as_aux_lemma =>
              have e5 : (od == 7) = true := by simp [h5]
              clear h5
              go_wp2_with (fail)
              with_reducible refine (s_prot_c g pm pl ps pu pb c _ _ q _ B5).mono ?_
              rintro e w3 ⟨⟨v, rfl⟩, B6⟩
              go_wp2_with (fail)
              with_reducible refine (s_drop_c g pm pl ps pu pb c q _ _ B6).mono ?_
              rintro e w4 ⟨⟨v2, rfl⟩, B7⟩
              go_wp2_with (fail)
              go_meet
              exact B7
            · have e5 : (od == 7) = false := by rw [beq_eq_false_iff_ne]; exact h5
              clear h5
              go_wp2_with (fail)
              go_meet
              exact B5
          case rest =>
          clear B5 o0 o1 o2 o3 o5
          have B5 := hcut
          clear hcut
          obtain ⟨t, T, H, M, L1, hrt, hlow, hfit, S5⟩ := B5
          subst hrt
          have htw := S5.tree.w
          have HTW := Lib.hid htw
          have HF0 := Lib.hid hfit
          have HLO := Lib.hid hlow
          have HS5 : Hid (∀ w' M' L', FitL L' 1 t.pg → M' = swT t.pg M A ox → Sat g w' (spP ps pm pb t.root * (midP pb pm T H * (memP pm 64 M' * (tlbP pl L' * (unitP pu pm pl t.root 1 * whole g))))) → SpcSt g pm pl ps pu pb t.root (whole g) w') := Lib.hid fun w' M' L' hf' hm' hs' => ⟨t, T, H, M', L', rfl, hlow, hf', by rw [hm'] at hs' ⊢; exact S5.store hlow A ox hs'⟩
          have HNT : Hid (∀ f, f < 32 → ¬ isTab t f) := Lib.hid fun f hf => (low_free S5.inv S5.held hf).1
          clear hfit hlow HCL HD
          have hwt := walk_tree htw (by omega) q hq4
          have S50 := S5.sat
          clear S5
          rcases walk_pg htw q with ⟨hpg, st, ew⟩ | ⟨⟨xf, xw⟩, hpg, st, ew⟩
          · -- no page
            as_aux_lemma =>
            have hfd := s_find8 ps pm pb t.root 64 M q g wc _ (S50.perm (show _ = spP ps pm pb t.root * (memP pm 64 M * (midP pb pm T H * (tlbP pl L1 * (unitP pu pm pl t.root 1 * (opP bo ⟨od, A, ot, of_, op, ox, oev, oew, oet, oef⟩ * whole g))))) by ac_rfl)) _ (hwt.trans ew)
            have e1 : fT t.pg A false = ⟨0, 0, 10⟩ := by unfold fT; rw [HQ.out.1, hpg]
            have e2 : seT t.pg A = 10 := by unfold seT; rw [HQ.out.1, hpg]; try rfl
            have e3 : leT t.pg A = 10 := by unfold leT; rw [HQ.out.1, hpg]
            have e4 : swT t.pg M A ox = M := by unfold swT; rw [HQ.out.1, hpg]
            have e5 : lxT t.pg (M) A = 0 := by unfold lxT; rw [HQ.out.1, hpg]
            have htw2 : TreeW 64 (M) t := HTW.out
            have HE := Lib.hid (And.intro e1 (And.intro e2 (And.intro e3 (And.intro e4 e5))))
            have HT2 := Lib.hid htw2
            have HFD := Lib.hid hfd
            clear hfd hwt ew hpg e1 e2 e3 e4 e5 htw htw2
            go_wp2_with (fail)
            with_reducible refine HFD.out.mono ?_
            rintro e w3 ⟨rfl, hb3⟩
            have S6 := S50.below hb3
            clear hb3 HFD S50
            go_upto_region 21 with (fail)
            have S7 := S6.pt_new (.cells #[.bool false, .bool false, .bool false, .int .i64 0] 34)
            obtain ⟨w4, hw4⟩ : ∃ w4, w4 = w3.alloc (.cells #[.bool false, .bool false, .bool false, .int .i64 0] 34) := ⟨_, rfl⟩
            obtain ⟨eb, heb⟩ : ∃ eb, eb = w3.heap.size := ⟨_, rfl⟩
            rw [← hw4, ← heb] at S7 ⊢
            clear hw4 heb S6
            have hcc : ∀ w', Sat g w' (opP bo ⟨od, A, ot, of_, op, ox, oev, oew, oet, oef⟩ * (pt eb (.cells #[.bool false, .bool false, .bool false, .int .i64 0] 34) * whole g)) → (w'.cell? ⟨bo, 1, none⟩ = some (.int .i64 A) ∧ w'.cell? ⟨bo, 2, none⟩ = some (.int .i64 ot) ∧ w'.cell? ⟨bo, 5, none⟩ = some (.int .u64 ox)) ∧ w'.cell? ⟨eb, 1, none⟩ = some (.bool false) ∧ w'.cell? ⟨eb, 3, none⟩ = some (.int .i64 0) := fun w' h => by
              have ho : OpAt w' bo 0 ⟨od, A, ot, of_, op, ox, oev, oew, oet, oef⟩ := h.inv
              have e := h.right.pt_heap
              exact ⟨⟨ho.c1, ho.c2, ho.c5⟩, by simp [World.cell?, e], by simp [World.cell?, e]⟩
            have HCC := Lib.hid hcc
            clear hcc
            have S8 : Sat g w4 (unitP pu pm pl t.root 1 * (memP pm 64 M * (tlbP pl L1 * (spP ps pm pb t.root * (midP pb pm T H * (opP bo ⟨od, A, ot, of_, op, ox, oev, oew, oet, oef⟩ * (pt eb (.cells #[.bool false, .bool false, .bool false, .int .i64 0] 34) * whole g))))))) := S7.perm (by ac_rfl)
            obtain ⟨⟨c1, c2, c5⟩, x1, x3⟩ := HCC.out _ S8.right.right.right.right.right
            clear S7
            go_wp2_with (fail)
            have hff := s_findT pu pm pl 64 t 1 M L1 A false ot g w4 _ S8 HTW.out (by omega) HF0.out hA6 (by omega) (by omega) (by omega) (by omega)
            rw [HE.out.1] at hff
            have F2 := fTlb_fit (b := 1) (pg := t.pg) HTW.out (by omega) HF0.out A hA6 ot HF0.out (fun _ => rfl)
            generalize fTlb 64 M L1 t.root 1 (A : Int) ot = L2 at hff F2
            with_reducible refine hff.mono ?_
            rintro e w5 ⟨rfl, S9⟩
            obtain ⟨⟨c1, c2, c5⟩, x1, x3⟩ := HCC.out _ S9.right.right.right.right.right
            have HF2 := Lib.hid F2
            clear hff S8 F2
            go_wp2_with (fail)
            have hst := s_storeT pu pm pl 64 t 1 M L2 A ox ot g w5 _ S9 HTW.out (by omega) HF2.out hA6 (by omega) (by omega) (by omega) (by omega) hx0 hx1
            rw [HE.out.2.1, HE.out.2.2.2.1] at hst
            have F3 := fTlb_fit (b := 1) (pg := t.pg) HTW.out (by omega) HF2.out A hA6 ot HF2.out (fun _ => rfl)
            generalize fTlb 64 M L2 t.root 1 (A : Int) ot = L3 at hst F3
            with_reducible refine hst.mono ?_
            rintro e w6 ⟨rfl, S10⟩
            obtain ⟨⟨c1, c2, c5⟩, x1, x3⟩ := HCC.out _ S10.right.right.right.right.right
            have HF3 := Lib.hid F3
            clear hst S9 F3
            go_wp2_with (fail)
            have hld := s_loadT pu pm pl 64 t 1 (M) L3 A ot g w6 _ S10 HT2.out (by omega) HF3.out hA6 (by omega) (by omega) (by omega) (by omega)
            rw [HE.out.2.2.2.2, HE.out.2.2.1] at hld
            have F4 := fTlb_fit (b := 1) (pg := t.pg) HT2.out (by omega) HF3.out A hA6 ot HF3.out (fun _ => rfl)
            generalize fTlb 64 (M) L3 t.root 1 (A : Int) ot = L4 at hld F4
            with_reducible refine hld.mono ?_
            rintro e w7 ⟨rfl, S11⟩
            obtain ⟨⟨c1, c2, c5⟩, x1, x3⟩ := HCC.out _ S11.right.right.right.right.right
            have B6 := Lib.hid (HS5.out w7 (M) L4 F4 HE.out.2.2.2.1.symm ((S11.perm (show _ = opP bo ⟨od, A, ot, of_, op, ox, oev, oew, oet, oef⟩ * (pt eb (.cells #[.bool false, .bool false, .bool false, .int .i64 0] 34) * (spP ps pm pb t.root * (midP pb pm T H * (memP pm 64 (M) * (tlbP pl L4 * (unitP pu pm pl t.root 1 * whole g)))))) by ac_rfl)).right.right))
            clear hld S10 S11 F4
            go_wp2_with (fail)
            go_roundw
            case rel => exact ⟨k + 1, hk1, by go_num, B6.out⟩
            case measure => simp [intOf]; omega
          · have hx32 : xf < 32 := HLO.out q (xf, xw) hpg
            have hnt := HNT.out xf hx32
            have hr16 : r < 16 := by have := HQ.out.2; omega
            cases xw
            · -- a page that may not be written
              as_aux_lemma =>
              have hfd := s_find8 ps pm pb t.root 64 M q g wc _ (S50.perm (show _ = spP ps pm pb t.root * (memP pm 64 M * (midP pb pm T H * (tlbP pl L1 * (unitP pu pm pl t.root 1 * (opP bo ⟨od, A, ot, of_, op, ox, oev, oew, oet, oef⟩ * whole g))))) by ac_rfl)) _ (hwt.trans ew)
              have e1 : fT t.pg A false = ⟨xf, r, 0⟩ := by unfold fT; rw [HQ.out.1, hpg]; rw [HQ.out.2]; rfl
              have e2 : seT t.pg A = 9 := by unfold seT; rw [HQ.out.1, hpg]; try rfl
              have e3 : leT t.pg A = 0 := by unfold leT; rw [HQ.out.1, hpg]
              have e4 : swT t.pg M A ox = M := by unfold swT; rw [HQ.out.1, hpg]; rfl
              have e5 : lxT t.pg (M) A = M (16 * xf + r) := by unfold lxT; rw [HQ.out.1, hpg]; rw [HQ.out.2]
              have htw2 : TreeW 64 (M) t := HTW.out
              have HE := Lib.hid (And.intro e1 (And.intro e2 (And.intro e3 (And.intro e4 e5))))
              have HT2 := Lib.hid htw2
              have HFD := Lib.hid hfd
              clear hfd hwt ew hpg e1 e2 e3 e4 e5 htw htw2
              go_wp2_with (fail)
              with_reducible refine HFD.out.mono ?_
              rintro e w3 ⟨rfl, hb3⟩
              have S6 := S50.below hb3
              clear hb3 HFD S50
              go_upto_region 21 with (fail)
              have S7 := S6.pt_new (.cells #[.bool true, .bool false, .bool false, .int .i64 xf] 34)
              obtain ⟨w4, hw4⟩ : ∃ w4, w4 = w3.alloc (.cells #[.bool true, .bool false, .bool false, .int .i64 xf] 34) := ⟨_, rfl⟩
              obtain ⟨eb, heb⟩ : ∃ eb, eb = w3.heap.size := ⟨_, rfl⟩
              rw [← hw4, ← heb] at S7 ⊢
              clear hw4 heb S6
              have hcc : ∀ w', Sat g w' (opP bo ⟨od, A, ot, of_, op, ox, oev, oew, oet, oef⟩ * (pt eb (.cells #[.bool true, .bool false, .bool false, .int .i64 xf] 34) * whole g)) → (w'.cell? ⟨bo, 1, none⟩ = some (.int .i64 A) ∧ w'.cell? ⟨bo, 2, none⟩ = some (.int .i64 ot) ∧ w'.cell? ⟨bo, 5, none⟩ = some (.int .u64 ox)) ∧ w'.cell? ⟨eb, 1, none⟩ = some (.bool false) ∧ w'.cell? ⟨eb, 3, none⟩ = some (.int .i64 xf) := fun w' h => by
                have ho : OpAt w' bo 0 ⟨od, A, ot, of_, op, ox, oev, oew, oet, oef⟩ := h.inv
                have e := h.right.pt_heap
                exact ⟨⟨ho.c1, ho.c2, ho.c5⟩, by simp [World.cell?, e], by simp [World.cell?, e]⟩
              have HCC := Lib.hid hcc
              clear hcc
              have S8 : Sat g w4 (unitP pu pm pl t.root 1 * (memP pm 64 M * (tlbP pl L1 * (spP ps pm pb t.root * (midP pb pm T H * (opP bo ⟨od, A, ot, of_, op, ox, oev, oew, oet, oef⟩ * (pt eb (.cells #[.bool true, .bool false, .bool false, .int .i64 xf] 34) * whole g))))))) := S7.perm (by ac_rfl)
              obtain ⟨⟨c1, c2, c5⟩, x1, x3⟩ := HCC.out _ S8.right.right.right.right.right
              clear S7
              go_wp2_with (fail)
              have hff := s_findT pu pm pl 64 t 1 M L1 A false ot g w4 _ S8 HTW.out (by omega) HF0.out hA6 (by omega) (by omega) (by omega) (by omega)
              rw [HE.out.1] at hff
              have F2 := fTlb_fit (b := 1) (pg := t.pg) HTW.out (by omega) HF0.out A hA6 ot HF0.out (fun _ => rfl)
              generalize fTlb 64 M L1 t.root 1 (A : Int) ot = L2 at hff F2
              with_reducible refine hff.mono ?_
              rintro e w5 ⟨rfl, S9⟩
              obtain ⟨⟨c1, c2, c5⟩, x1, x3⟩ := HCC.out _ S9.right.right.right.right.right
              have HF2 := Lib.hid F2
              clear hff S8 F2
              go_wp2_with (fail)
              have hst := s_storeT pu pm pl 64 t 1 M L2 A ox ot g w5 _ S9 HTW.out (by omega) HF2.out hA6 (by omega) (by omega) (by omega) (by omega) hx0 hx1
              rw [HE.out.2.1, HE.out.2.2.2.1] at hst
              have F3 := fTlb_fit (b := 1) (pg := t.pg) HTW.out (by omega) HF2.out A hA6 ot HF2.out (fun _ => rfl)
              generalize fTlb 64 M L2 t.root 1 (A : Int) ot = L3 at hst F3
              with_reducible refine hst.mono ?_
              rintro e w6 ⟨rfl, S10⟩
              obtain ⟨⟨c1, c2, c5⟩, x1, x3⟩ := HCC.out _ S10.right.right.right.right.right
              have HF3 := Lib.hid F3
              clear hst S9 F3
              go_wp2_with (fail)
              have hld := s_loadT pu pm pl 64 t 1 (M) L3 A ot g w6 _ S10 HT2.out (by omega) HF3.out hA6 (by omega) (by omega) (by omega) (by omega)
              rw [HE.out.2.2.2.2, HE.out.2.2.1] at hld
              have F4 := fTlb_fit (b := 1) (pg := t.pg) HT2.out (by omega) HF3.out A hA6 ot HF3.out (fun _ => rfl)
              generalize fTlb 64 (M) L3 t.root 1 (A : Int) ot = L4 at hld F4
              with_reducible refine hld.mono ?_
              rintro e w7 ⟨rfl, S11⟩
              obtain ⟨⟨c1, c2, c5⟩, x1, x3⟩ := HCC.out _ S11.right.right.right.right.right
              have B6 := Lib.hid (HS5.out w7 (M) L4 F4 HE.out.2.2.2.1.symm ((S11.perm (show _ = opP bo ⟨od, A, ot, of_, op, ox, oev, oew, oet, oef⟩ * (pt eb (.cells #[.bool true, .bool false, .bool false, .int .i64 xf] 34) * (spP ps pm pb t.root * (midP pb pm T H * (memP pm 64 (M) * (tlbP pl L4 * (unitP pu pm pl t.root 1 * whole g)))))) by ac_rfl)).right.right))
              clear hld S10 S11 F4
              go_wp2_with (fail)
              go_roundw
              case rel => exact ⟨k + 1, hk1, by go_num, B6.out⟩
              case measure => simp [intOf]; omega
            · -- a page that may be written
              as_aux_lemma =>
              have hfd := s_find8 ps pm pb t.root 64 M q g wc _ (S50.perm (show _ = spP ps pm pb t.root * (memP pm 64 M * (midP pb pm T H * (tlbP pl L1 * (unitP pu pm pl t.root 1 * (opP bo ⟨od, A, ot, of_, op, ox, oev, oew, oet, oef⟩ * whole g))))) by ac_rfl)) _ (hwt.trans ew)
              have e1 : fT t.pg A false = ⟨xf, r, 0⟩ := by unfold fT; rw [HQ.out.1, hpg]; rw [HQ.out.2]; rfl
              have e2 : seT t.pg A = 0 := by unfold seT; rw [HQ.out.1, hpg]; try rfl
              have e3 : leT t.pg A = 0 := by unfold leT; rw [HQ.out.1, hpg]
              have e4 : swT t.pg M A ox = setW M (16 * xf + r) ox := by unfold swT; rw [HQ.out.1, hpg]; rw [HQ.out.2]; rfl
              have e5 : lxT t.pg (setW M (16 * xf + r) ox) A = ox := by unfold lxT; rw [HQ.out.1, hpg]; rw [HQ.out.2]; exact setW_same _ _ _
              have htw2 : TreeW 64 (setW M (16 * xf + r) ox) t := HTW.out.set hnt hr16 ox
              have HE := Lib.hid (And.intro e1 (And.intro e2 (And.intro e3 (And.intro e4 e5))))
              have HT2 := Lib.hid htw2
              have HFD := Lib.hid hfd
              clear hfd hwt ew hpg e1 e2 e3 e4 e5 htw htw2
              go_wp2_with (fail)
              with_reducible refine HFD.out.mono ?_
              rintro e w3 ⟨rfl, hb3⟩
              have S6 := S50.below hb3
              clear hb3 HFD S50
              go_upto_region 21 with (fail)
              have S7 := S6.pt_new (.cells #[.bool true, .bool true, .bool false, .int .i64 xf] 34)
              obtain ⟨w4, hw4⟩ : ∃ w4, w4 = w3.alloc (.cells #[.bool true, .bool true, .bool false, .int .i64 xf] 34) := ⟨_, rfl⟩
              obtain ⟨eb, heb⟩ : ∃ eb, eb = w3.heap.size := ⟨_, rfl⟩
              rw [← hw4, ← heb] at S7 ⊢
              clear hw4 heb S6
              have hcc : ∀ w', Sat g w' (opP bo ⟨od, A, ot, of_, op, ox, oev, oew, oet, oef⟩ * (pt eb (.cells #[.bool true, .bool true, .bool false, .int .i64 xf] 34) * whole g)) → (w'.cell? ⟨bo, 1, none⟩ = some (.int .i64 A) ∧ w'.cell? ⟨bo, 2, none⟩ = some (.int .i64 ot) ∧ w'.cell? ⟨bo, 5, none⟩ = some (.int .u64 ox)) ∧ w'.cell? ⟨eb, 1, none⟩ = some (.bool true) ∧ w'.cell? ⟨eb, 3, none⟩ = some (.int .i64 xf) := fun w' h => by
                have ho : OpAt w' bo 0 ⟨od, A, ot, of_, op, ox, oev, oew, oet, oef⟩ := h.inv
                have e := h.right.pt_heap
                exact ⟨⟨ho.c1, ho.c2, ho.c5⟩, by simp [World.cell?, e], by simp [World.cell?, e]⟩
              have HCC := Lib.hid hcc
              clear hcc
              have S8 : Sat g w4 (unitP pu pm pl t.root 1 * (memP pm 64 M * (tlbP pl L1 * (spP ps pm pb t.root * (midP pb pm T H * (opP bo ⟨od, A, ot, of_, op, ox, oev, oew, oet, oef⟩ * (pt eb (.cells #[.bool true, .bool true, .bool false, .int .i64 xf] 34) * whole g))))))) := S7.perm (by ac_rfl)
              obtain ⟨⟨c1, c2, c5⟩, x1, x3⟩ := HCC.out _ S8.right.right.right.right.right
              clear S7
              go_wp2_with (fail)
              have hff := s_findT pu pm pl 64 t 1 M L1 A false ot g w4 _ S8 HTW.out (by omega) HF0.out hA6 (by omega) (by omega) (by omega) (by omega)
              rw [HE.out.1] at hff
              have F2 := fTlb_fit (b := 1) (pg := t.pg) HTW.out (by omega) HF0.out A hA6 ot HF0.out (fun _ => rfl)
              generalize fTlb 64 M L1 t.root 1 (A : Int) ot = L2 at hff F2
              with_reducible refine hff.mono ?_
              rintro e w5 ⟨rfl, S9⟩
              obtain ⟨⟨c1, c2, c5⟩, x1, x3⟩ := HCC.out _ S9.right.right.right.right.right
              have HF2 := Lib.hid F2
              clear hff S8 F2
              go_wp2_with (fail)
              have hst := s_storeT pu pm pl 64 t 1 M L2 A ox ot g w5 _ S9 HTW.out (by omega) HF2.out hA6 (by omega) (by omega) (by omega) (by omega) hx0 hx1
              rw [HE.out.2.1, HE.out.2.2.2.1] at hst
              have F3 := fTlb_fit (b := 1) (pg := t.pg) HTW.out (by omega) HF2.out A hA6 ot HF2.out (fun _ => rfl)
              generalize fTlb 64 M L2 t.root 1 (A : Int) ot = L3 at hst F3
              with_reducible refine hst.mono ?_
              rintro e w6 ⟨rfl, S10⟩
              obtain ⟨⟨c1, c2, c5⟩, x1, x3⟩ := HCC.out _ S10.right.right.right.right.right
              have HF3 := Lib.hid F3
              clear hst S9 F3
              go_wp2_with (fail)
              have hld := s_loadT pu pm pl 64 t 1 (setW M (16 * xf + r) ox) L3 A ot g w6 _ S10 HT2.out (by omega) HF3.out hA6 (by omega) (by omega) (by omega) (by omega)
              rw [HE.out.2.2.2.2, HE.out.2.2.1] at hld
              have F4 := fTlb_fit (b := 1) (pg := t.pg) HT2.out (by omega) HF3.out A hA6 ot HF3.out (fun _ => rfl)
              generalize fTlb 64 (setW M (16 * xf + r) ox) L3 t.root 1 (A : Int) ot = L4 at hld F4
              with_reducible refine hld.mono ?_
              rintro e w7 ⟨rfl, S11⟩
              obtain ⟨⟨c1, c2, c5⟩, x1, x3⟩ := HCC.out _ S11.right.right.right.right.right
              have B6 := Lib.hid (HS5.out w7 (setW M (16 * xf + r) ox) L4 F4 HE.out.2.2.2.1.symm ((S11.perm (show _ = opP bo ⟨od, A, ot, of_, op, ox, oev, oew, oet, oef⟩ * (pt eb (.cells #[.bool true, .bool true, .bool false, .int .i64 xf] 34) * (spP ps pm pb t.root * (midP pb pm T H * (memP pm 64 (setW M (16 * xf + r) ox) * (tlbP pl L4 * (unitP pu pm pl t.root 1 * whole g)))))) by ac_rfl)).right.right))
              clear hld S10 S11 F4
              go_wp2_with (fail)
              go_roundw
              case rel => exact ⟨k + 1, hk1, by go_num, B6.out⟩
              case measure => simp [intOf]; omega
      · obtain rfl : len = k := by omega
        have HB := Lib.hid (HEND.out _ B3)
        clear B3 hL hok
        go_wp2_with (fail)
        go_ret
        exact ⟨rfl, HB.out⟩

end Go.Proofs.Yteehghjdifbjbaa

namespace Go.Proofs.Yteehghjdifbjbaa
set_option linter.unusedSimpArgs false
set_option linter.unusedVariables false
set_option maxRecDepth 100000
open Go.RowKit
set_option maxHeartbeats 4000000

theorem cnt_self (x k : Nat) (h : x < k) : cnt (fun z => z = x) k = 1 := by
  rw [cnt_congr (U := fun z => x ≤ z ∧ z < x + 1) k (fun z _ => by omega)]
  exact cnt_int x 1 k (by omega)
theorem cnt_one {T : Nat → Prop} {x k : Nat} (hx : T x) (h : x < k) : cnt T k = cnt (fun z => T z ∧ z ≠ x) k + 1 := by
  have := cnt_add (T := T) (A := fun z => z = x) (B := fun z => T z ∧ z ≠ x) (fun z => ⟨fun hz => by
    by_cases e : z = x
    · exact Or.inl e
    · exact Or.inr ⟨hz, e⟩, fun hz => by
    rcases hz with e | e
    · rw [e]; exact hx
    · exact e.1⟩) (fun z e h => h.2 e) k
  rw [cnt_self x k h] at this
  omega
theorem cnt_two {T : Nat → Prop} {x y k : Nat} (hx : T x) (hy : T y) (hne : x ≠ y) (h1 : x < k) (h2 : y < k) : 2 ≤ cnt T k := by
  rw [cnt_one hx h1, cnt_one (T := fun z => T z ∧ z ≠ x) (x := y) ⟨hy, Ne.symm hne⟩ h2]
  omega
theorem pick (a b c d s : Nat) : ∃ x, s ≤ x ∧ x < s + 5 ∧ x ≠ a ∧ x ≠ b ∧ x ≠ c ∧ x ≠ d := by
  by_cases h0 : s ≠ a ∧ s ≠ b ∧ s ≠ c ∧ s ≠ d
  · exact ⟨s, by omega, by omega, h0⟩
  by_cases h1 : s + 1 ≠ a ∧ s + 1 ≠ b ∧ s + 1 ≠ c ∧ s + 1 ≠ d
  · exact ⟨s + 1, by omega, by omega, h1⟩
  by_cases h2 : s + 2 ≠ a ∧ s + 2 ≠ b ∧ s + 2 ≠ c ∧ s + 2 ≠ d
  · exact ⟨s + 2, by omega, by omega, h2⟩
  by_cases h3 : s + 3 ≠ a ∧ s + 3 ≠ b ∧ s + 3 ≠ c ∧ s + 3 ≠ d
  · exact ⟨s + 3, by omega, by omega, h3⟩
  exact ⟨s + 4, by omega, by omega, by omega⟩

/-- A space with one page has three tables at most. -/
theorem one_tabs {n : Nat} {M : Nat → Int} {t : Tree} (h : TreeN n M t) {p0 : Nat} (hp : ∀ p, p ≠ p0 → t.pg p = none) : ∃ f1 f2, ∀ f, isTab t f → f = t.root ∨ f = f1 ∨ f = f2 := by
  refine ⟨(t.t1 (p0 / 256)).getD 0, (t.t2 (p0 / 16)).getD 0, fun f hf => ?_⟩
  rcases hf with hf | ⟨i, hf⟩ | ⟨q, hf⟩
  · exact Or.inl hf
  · right; left
    obtain ⟨j, hj, f2, h2⟩ := h.dn1 i f hf
    obtain ⟨k, hk, x, hx⟩ := h.dn2 _ f2 h2
    have e : 16 * (16 * i + j) + k = p0 := by
      apply Classical.byContradiction
      intro hne
      rw [hp _ hne] at hx; cases hx
    rw [show p0 / 256 = i by omega, hf]; rfl
  · right; right
    obtain ⟨k, hk, x, hx⟩ := h.dn2 _ f hf
    have e : 16 * q + k = p0 := by
      apply Classical.byContradiction
      intro hne
      rw [hp _ hne] at hx; cases hx
    rw [show p0 / 16 = q by omega, hf]; rfl
/-- Behind the first page of the first space there is room for the second space's. -/
theorem room_two {t t' : Tree} {T T' : Nat → Prop} {H' : List Blk} {c1 c2 : Nat} {M M' : Nat → Int} {p0 : Nat} (ha : After 32 64 t T [((c1 : Int), (0 : Int)), ((c2 : Int), (0 : Int))] M t' T' H' M') (hr : t.root = c1) (hp : ∀ p, p ≠ p0 → t'.pg p = none) : 2 ≤ cnt T' 256 := by
  obtain ⟨f1, f2, hf⟩ := one_tabs ha.tree hp
  have hin : ∀ x, 32 ≤ x → x < 64 → x ≠ t'.root → x ≠ f1 → x ≠ f2 → x ≠ c2 → T' x := fun x h1 h2 n0 n1 n2 n3 => by
    rcases (ha.inv.cov x).1 ⟨h1, h2⟩ with h | ⟨b, hb, hx⟩
    · exact h
    · exfalso
      rcases ha.ap.gave b hb with ⟨f, hft, rfl⟩ | ⟨hb, hnt⟩
      · have : x = f := by unfold inB at hx; simpa using hx
        subst this
        rcases hf _ hft with e | e | e
        · exact n0 e
        · exact n1 e
        · exact n2 e
      · simp only [List.mem_cons, List.not_mem_nil, or_false] at hb
        rcases hb with rfl | rfl
        · exact hnt c1 (Or.inl hr.symm) rfl
        · exact n3 (by unfold inB at hx; simpa using hx)
  obtain ⟨x, x1, x2, x3, x4, x5, x6⟩ := pick t'.root f1 f2 c2 32
  obtain ⟨y, y1, y2, y3, y4, y5, y6⟩ := pick t'.root f1 f2 c2 40
  exact cnt_two (hin x x1 (by omega) x3 x4 x5 x6) (hin y (by omega) (by omega) y3 y4 y5 y6) (by omega) (by omega) (by omega)
theorem need_le (t : Tree) (p : Nat) : needT t p ≤ 2 := by
  unfold needT
  cases t.t1 (p / 256) with
  | none => simp
  | some f => cases t.t2 (p / 16) <;> simp

/-- Lines of two numbers, of one page; each number has one line at most. -/
structure TwoL (L : Nat → Option Ln) : Prop where
  is : ∀ i l, i < 8 → L i = some l → (l.a = 1 ∨ l.a = 2) ∧ l.p = 7
  one : ∀ i j l m, i < 8 → j < 8 → L i = some l → L j = some m → l.a = m.a → i = j
theorem TwoL.none : TwoL (fun _ => none) := ⟨fun i l _ h => (by cases h), fun i j l m _ _ h => (by cases h)⟩
theorem TwoL.lines {L : Nat → Option Ln} (h : TwoL L) : (linesK L 8).length ≤ 2 := by
  have hp : (linesK L 8).Pairwise (fun x y => x.a ≠ y.a) := by
    unfold linesK
    refine List.Pairwise.filterMap (R := fun i j : Nat => i < 8 ∧ j < 8 ∧ i ≠ j) _ (fun i j hij x hx y hy e => ?_) ?_
    · exact hij.2.2 (h.one i j x y hij.1 hij.2.1 hx hy e)
    · refine List.pairwise_iff_getElem.2 fun i j hi hj hij => ?_
      simp at hi hj
      simp only [List.getElem_range]
      omega
  have hm : ∀ x ∈ linesK L 8, x.a = 1 ∨ x.a = 2 := fun x hx => by
    unfold linesK at hx
    obtain ⟨i, hi, e⟩ := List.mem_filterMap.1 hx
    exact (h.is i x (by simpa using hi) e).1
  revert hp hm
  generalize linesK L 8 = l
  intro hp hm
  match l, hp, hm with
  | [], _, _ => simp
  | [_], _, _ => simp
  | [_, _], _, _ => simp
  | x :: y :: z :: l, hp, hm =>
    exfalso
    have h1 := hm x (by simp)
    have h2 := hm y (by simp)
    have h3 := hm z (by simp)
    have p1 := List.pairwise_cons.1 hp
    have p2 := List.pairwise_cons.1 p1.2
    have e1 := p1.1 y (by simp)
    have e2 := p1.1 z (by simp)
    have e3 := p2.1 z (by simp)
    omega
theorem tFind_none {L : Nat → Option Ln} {a p : Int} (h : tFind L a p = none) : ∀ i l, i < 8 → L i = some l → l.a = a → l.p ≠ p := fun i l hi hl ha hp => by
  rcases firstI_spec (fun i => isB a p (L i)) with ⟨_, h2⟩ | ⟨k, hk, h1, h2, _⟩
  · have := h2 i hi
    rw [hl] at this
    simp [isB, ha, hp] at this
  · have h3 : tAt L a p = k := h1
    unfold tFind at h
    rw [h3, if_neg (by omega)] at h
    simp only [Int.toNat_natCast] at h
    rw [h] at h2
    simp [isB] at h2
theorem TwoL.tlb {n : Nat} {M : Nat → Int} {t : Tree} {L : Nat → Option Ln} {a : Int} (h : TwoL L) (ht : TreeW n M t) (hn : n ≤ 256) (hf : FitL L a t.pg) (ha : a = 1 ∨ a = 2) (addr : Nat) (hq : addr / 16 = 7) (at_ : Int) : TwoL (fTlb n M L t.root a addr at_) := by
  unfold fTlb
  split
  case isFalse => exact h
  case isTrue =>
  rw [show (addr : Int) / 16 = ((7 : Nat) : Int) by omega]
  unfold mTlb
  cases e : tFind L a ((7 : Nat) : Int) with
  | some l => exact h
  | none =>
    simp only
    rw [mLine_tree ht hn hf 7 (by omega)]
    cases e3 : t.pg 7 with
    | none => exact h
    | some x =>
      simp only [Option.map_some]
      have hno : ∀ i l, i < 8 → L i = some l → l.a ≠ a := fun i l hi hl e5 => tFind_none e i l hi hl e5 (h.is i l hi hl).2
      refine ⟨fun i l hi hl => ?_, fun i j l m hi hj hl hm e5 => ?_⟩
      · unfold tPutL at hl
        split at hl
        · cases hl; exact ⟨ha, rfl⟩
        · exact h.is i l hi hl
      · unfold tPutL at hl hm
        split at hl <;> split at hm
        · omega
        · cases hl; exact absurd e5.symm (hno j m hj hm)
        · cases hm; exact absurd e5 (hno i l hi hl)
        · exact h.one i j l m hi hj hl hm e5

/-- Two spaces, each with the page 7 alone; the lines; the words of the frames 1 and 2. -/
structure SwIn (t1 t2 : Tree) (oth : Nat) (M : Nat → Int) (L : Nat → Option Ln) (W : Nat → Int) : Prop where
  w1 : TreeW 64 M t1
  w2 : TreeW 64 M t2
  g1 : t1.pg 7 = some (1, true)
  g2 : t2.pg 7 = some (oth, true)
  ho : oth = 1 ∨ oth = 2
  n1 : ∀ f, f < 32 → ¬ isTab t1 f
  n2 : ∀ f, f < 32 → ¬ isTab t2 f
  f1 : FitL L 1 t1.pg
  f2 : FitL L 2 t2.pg
  two : TwoL L
  words : ∀ f k, (f = 1 ∨ f = 2) → k < 16 → M (16 * f + k) = W (16 * f + k)
/-- One of the two, its number, its frame. -/
def Chosen (t1 t2 : Tree) (oth : Nat) (t : Tree) (a : Int) (f : Nat) : Prop := (t = t1 ∧ a = 1 ∧ f = 1) ∨ (t = t2 ∧ a = 2 ∧ f = oth)
theorem SwIn.chosen {t1 t2 : Tree} {oth : Nat} {M : Nat → Int} {L : Nat → Option Ln} {W : Nat → Int} (h : SwIn t1 t2 oth M L W) {t : Tree} {a : Int} {f : Nat} (hc : Chosen t1 t2 oth t a f) : TreeW 64 M t ∧ t.pg 7 = some (f, true) ∧ FitL L a t.pg ∧ (a = 1 ∨ a = 2) ∧ (f = 1 ∨ f = 2) := by
  rcases hc with ⟨rfl, rfl, rfl⟩ | ⟨rfl, rfl, rfl⟩
  · exact ⟨h.w1, h.g1, h.f1, Or.inl rfl, Or.inl rfl⟩
  · exact ⟨h.w2, h.g2, h.f2, Or.inr rfl, h.ho⟩
theorem SwIn.tlb {t1 t2 : Tree} {oth : Nat} {M : Nat → Int} {L : Nat → Option Ln} {W : Nat → Int} (h : SwIn t1 t2 oth M L W) {t : Tree} {a : Int} {f : Nat} (hc : Chosen t1 t2 oth t a f) (addr : Nat) (hq : addr / 16 = 7) (at_ : Int) : SwIn t1 t2 oth M (fTlb 64 M L t.root a addr at_) W := by
  obtain ⟨c1, c2, c3, c4, c5⟩ := h.chosen hc
  have hd : addr < 65536 := by omega
  have x1 : FitL (fTlb 64 M L t.root a addr at_) 1 t1.pg := by
    refine fTlb_fit c1 (by omega) c3 addr hd at_ h.f1 (fun e => ?_)
    rcases hc with ⟨e1, _, _⟩ | ⟨_, e2, _⟩
    · rw [e1]
    · omega
  have x2 : FitL (fTlb 64 M L t.root a addr at_) 2 t2.pg := by
    refine fTlb_fit c1 (by omega) c3 addr hd at_ h.f2 (fun e => ?_)
    rcases hc with ⟨_, e2, _⟩ | ⟨e1, _, _⟩
    · omega
    · rw [e1]
  exact ⟨h.w1, h.w2, h.g1, h.g2, h.ho, h.n1, h.n2, x1, x2, h.two.tlb c1 (by omega) c3 c4 addr hq at_, h.words⟩
theorem SwIn.set {t1 t2 : Tree} {oth : Nat} {M : Nat → Int} {L : Nat → Option Ln} {W : Nat → Int} (h : SwIn t1 t2 oth M L W) {f k : Nat} (hf : f = 1 ∨ f = 2) (hk : k < 16) (v : Int) : SwIn t1 t2 oth (setW M (16 * f + k) v) L (setW W (16 * f + k) v) := by
  refine ⟨h.w1.set (h.n1 f (by omega)) hk v, h.w2.set (h.n2 f (by omega)) hk v, h.g1, h.g2, h.ho, h.n1, h.n2, h.f1, h.f2, h.two, fun f' k' hf' hk' => ?_⟩
  by_cases e : 16 * f' + k' = 16 * f + k
  · rw [e, setW_same, setW_same]
  · rw [setW_ne _ _ e, setW_ne _ _ e]; exact h.words f' k' hf' hk'

/-- Both spaces with their pages. -/
theorem sw_start {c1 c2 oth : Nat} {T2 T3 T4 : Nat → Prop} {H2 H3 H4 : List Blk} {M3 M4 : Nat → Int} {t1 t2 : Tree} (hn : c1 ≠ c2) (hT : ¬ T2 c2) (hh1 : HeldT (emptyT c1) H2) (hi2 : InvB 32 64 T2 H2)
    (ha : After 32 64 (emptyT c1) T2 H2 (fun _ => 0) t1 T3 H3 M3) (hg1 : t1.pg = updF (emptyT c1).pg 7 (some (1, true)))
    (hh2 : HeldT (emptyT c2) H3) (ha2 : After 32 64 (emptyT c2) T3 H3 M3 t2 T4 H4 M4) (hg2 : t2.pg = updF (emptyT c2).pg 7 (some (oth, true))) (ho : oth = 1 ∨ oth = 2) : SwIn t1 t2 oth M4 (fun _ => none) (fun _ => 0) := by
  have hne : ∀ f, isTab t1 f → ¬ isTab (emptyT c2) f ∧ ¬ T3 f := fun f hf => by
    refine ⟨fun h => ?_, apart_T ha.inv (ha.held f hf)⟩
    have hfc : f = c2 := by
      rcases h with h | ⟨i, h⟩ | ⟨i, h⟩
      · exact h
      · cases h
      · cases h
    rcases ha.ap.tabs f hf with h | h
    · rcases h with h | ⟨i, h⟩ | ⟨i, h⟩
      · exact hn (by rw [← hfc]; exact h.symm)
      · cases h
      · cases h
    · rw [hfc] at h; exact hT h
  refine ⟨ha.tree.w.congr (fun f hf k hk => ha2.ap.words f (hne f hf).1 (hne f hf).2 k hk), ha2.tree.w, by rw [hg1, updF_same], by rw [hg2, updF_same], ho, fun f hf => (low_free ha.inv ha.held hf).1, fun f hf => (low_free ha2.inv ha2.held hf).1, FitL.none _ _, FitL.none _ _, TwoL.none, fun f k hf hk => ?_⟩
  rw [ha2.low ha.inv hh2 (by omega) hk, ha.low hi2 hh1 (by omega) hk]
theorem cnt_start {c1 c2 : Nat} (h1 : NextF (rangeT 32 64) c1) (h2 : NextF (minusQ (rangeT 32 64) c1 0) c2) : cnt (minusQ (minusQ (rangeT 32 64) c1 0) c2 0) 256 = 30 := by
  have h0 : cnt (rangeT 32 64) 256 = 32 := cnt_int 32 32 256 (by omega)
  have f1 := h1.free
  have f2 := h2.free
  have e1 := cnt_minus (T := rangeT 32 64) (a := c1) (o := 0) (k := 256) (full0.2 f1) (by have : c1 < 64 := f1.2; omega)
  have e2 := cnt_minus (T := minusQ (rangeT 32 64) c1 0) (a := c2) (o := 0) (k := 256) (full0.2 f2) (by have : c2 < 64 := f2.1.2; omega)
  rw [Nat.pow_zero] at e1 e2
  omega

end Go.Proofs.Yteehghjdifbjbaa
