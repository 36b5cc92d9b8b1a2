/- Part 15 of the proofs: Same3, LawTablesBack, LawTablesWalks. -/
import Derived.Test.YtoiiblajgkdabaaP1
import Derived.Test.YtoiiblajgkdabaaP2
import Derived.Test.YtoiiblajgkdabaaP14
namespace Go.Proofs.Ytoiiblajgkdabaa
set_option linter.unusedSimpArgs false
set_option linter.unusedVariables false
set_option maxRecDepth 100000
open Go.RowKit
set_option maxHeartbeats 4000000

/-- The cells of a list of numbers. -/
def ListAt (w : World) (a : Option Addr) (L : List Int) : Prop := L = [] ∨ ∃ b off, a = some ⟨b, off, none⟩ ∧ ∀ j (_ : j < L.length), w.cell? ⟨b, off + j, none⟩ = some (.int .i64 L[j])
theorem cell_lt3 {w : World} {b o : Nat} {v : Value} (h : w.cell? ⟨b, o, none⟩ = some v) : b < w.heap.size := by
  rcases Nat.lt_or_ge b w.heap.size with h' | h'
  · exact h'
  · unfold World.cell? at h
    rw [Array.getElem?_eq_none h'] at h; cases h
theorem ListAt.below {w w' : World} {a : Option Addr} {L : List Int} (h : ListAt w a L) (hb : Below w.heap.size w w') : ListAt w' a L := by
  rcases h with h | ⟨b, off, rfl, h⟩
  · exact Or.inl h
  · exact Or.inr ⟨b, off, rfl, fun j hj => keep hb (cell_lt3 (h j hj)) (h j hj)⟩
theorem ListAt.cell {w : World} {a : Option Addr} {L : List Int} (h : ListAt w a L) {k : Nat} (hk : k < L.length) : ∃ b off, a = some ⟨b, off, none⟩ ∧ w.cell? ⟨b, off + k, none⟩ = some (.int .i64 L[k]) := by
  rcases h with h | ⟨b, off, rfl, h⟩
  · subst h; simp at hk
  · exact ⟨b, off, rfl, h k hk⟩

theorem same3 (a b : Option Addr) (ca cb : Nat) (A B : List Int) (w : World) (hA : ListAt w a A) (hB : ListAt w b B) (la : A.length ≤ 1000000) :
    Calls Try.prog 46 #[.slice a A.length ca, .slice b B.length cb] w fun e w' => e = .returned (.bool (decide (A = B))) ∧ Below w.heap.size w w' := by
  by_cases hl : A.length = B.length
  · have HA : Hid (∀ w', Below w.heap.size w w' → ListAt w' a A) := Lib.hid fun w' hb => hA.below hb
    have HB : Hid (∀ w', Below w.heap.size w w' → ListAt w' b B) := Lib.hid fun w' hb => hB.below hb
    clear hA hB
    have HL := Lib.hid hl
    generalize hn : B.length = n at hl ⊢
    have HN := Lib.hid hn
    clear hn
    rw [hl] at la ⊢
    clear hl
    go_enter Try.func46, Try.ntmps46
    go_wp2_with (fail)
    go_loopw [5] (fun i wr => ∃ k : Nat, k ≤ n ∧ i = .int .i64 k ∧ Hid (∀ j, j < k → A[j]? = B[j]?) ∧ Below w.heap.size w wr) (fun i _ => n - (intOf i).toNat)
    case atStart => exact ⟨0, by omega, rfl, Lib.hid (fun j hj => by omega), Below.refl _ _⟩
    case round =>
      obtain ⟨k, hk, rfl, HK, hb⟩ := hrel
      by_cases hkl : k < n
      · have i1 : (k : Int) < n := by omega
        have lA : k < A.length := by have := HL.out; have := HN.out; omega
        have lB : k < B.length := by have := HN.out; omega
        obtain ⟨ba, oa, rfl, q1⟩ := (HA.out wr hb).cell lA
        obtain ⟨bb, ob, rfl, q2⟩ := (HB.out wr hb).cell lB
        have HE : Hid (A[k] = B[k] → A[k]? = B[k]?) := Lib.hid fun e => by rw [List.getElem?_eq_getElem lA, List.getElem?_eq_getElem lB, e]
        have HE2 : Hid (A = B → A[k] = B[k]) := Lib.hid fun e => by subst e; rfl
        generalize A[k] = x at q1 HE HE2
        generalize B[k] = y at q2 HE HE2
        have hb2 : Below w.heap.size w wr.drew := below_drew hb
        have m1 : ∀ z : Wc (fun w' => wr.drew = w'), z.w.cell? ⟨ba, oa + k, none⟩ = some (.int .i64 x) := fun z => by rw [← z.h]; exact q1
        have m2 : ∀ z : Wc (fun w' => wr.drew = w'), z.w.cell? ⟨bb, ob + k, none⟩ = some (.int .i64 y) := fun z => by rw [← z.h]; exact q2
        clear q1 q2 lA lB
        by_cases hxy : x = y
        · have HK' : Hid (∀ j, j < k + 1 → A[j]? = B[j]?) := Lib.hid fun j hj => by
            by_cases e : j = k
            · subst e; exact HE.out hxy
            · exact HK.out j (by omega)
          have g1 : (x != y) = false := by simp [hxy]
          clear hxy HE HE2
          go_wp2_with (fail)
          (refine region_class (fun w' => wr.drew = w') (by kernel_rfl) (by kernel_rfl) (rfl) ?_; intro _; (repeat (first | go_big_quiet_step ((fail)) | quiet_step ((fail)))); refine wpQuiet_nil ?_; intro wz hz)
          subst hz
          clear m1 m2
          go_wp2_with (fail)
          go_roundw
          case rel => exact ⟨k + 1, by omega, by go_num, HK', hb2⟩
          case measure => simp [intOf]; omega
        · have hne : decide (A = B) = false := decide_eq_false fun e => hxy (HE2.out e)
          have g1 : (x != y) = true := by simp [hxy]
          have HNE := Lib.hid hne
          clear hxy HE HE2 hne
          go_wp2_with (fail)
          (refine region_class (fun w' => wr.drew = w') (by kernel_rfl) (by kernel_rfl) (rfl) ?_; intro _; (repeat (first | go_big_quiet_step ((fail)) | quiet_step ((fail)))); refine wpQuiet_nil ?_; intro wz hz)
          subst hz
          clear m1 m2
          go_wp2_with (fail)
          go_ret
          exact ⟨by rw [HNE.out]; rfl, hb2⟩
      · obtain rfl : n = k := by omega
        have heq : decide (A = B) = true := decide_eq_true (List.ext_getElem? fun j => by
          by_cases hj : j < n
          · exact HK.out j hj
          · rw [List.getElem?_eq_none (by have := HL.out; have := HN.out; omega), List.getElem?_eq_none (by have := HN.out; omega)])
        have HEQ := Lib.hid heq
        clear heq
        go_wp2_with (fail)
        go_ret
        exact ⟨by rw [HEQ.out]; rfl, hb⟩
  · have hne : decide (A = B) = false := decide_eq_false fun e => hl (by rw [e])
    have HNE := Lib.hid hne
    have g1 : decide ((A.length : Int) = (B.length : Int)) = false := decide_eq_false (by omega)
    have g2 : ((A.length : Int) != (B.length : Int)) = true := by rw [bne_iff_ne]; omega
    clear hne
    go_enter Try.func46, Try.ntmps46
    go_wp2_with (fail)
    go_ret
    exact ⟨by rw [HNE.out]; rfl, Below.refl _ _⟩

end Go.Proofs.Ytoiiblajgkdabaa

namespace Go.Proofs.Ytoiiblajgkdabaa
set_option linter.unusedSimpArgs false
set_option linter.unusedVariables false
set_option maxRecDepth 100000
open Go.RowKit
set_option maxHeartbeats 40000000

theorem row_list {g w : World} {a : Option Addr} {cap : Nat} {L : List Int} {R : HP} (h : Sat g w (rowP (.slice a L.length cap) L * R)) : ListAt w a L := by
  by_cases h0 : L = []
  · exact Or.inl h0
  · obtain ⟨gb, rfl⟩ := row_addr h (List.length_pos_iff.2 h0)
    exact Or.inr ⟨gb, 0, rfl, fun j hj => by rw [Nat.zero_add]; exact row_cells_at (n := 0) h j hj⟩
theorem eachL_same {sel sel' : Sel} {page : Nat} {ent : Nat → Option (Nat × Bool × Bool)} {sub sub' : Nat → List Int} (h : ∀ k, (eachA sel page ent sub k).length = (eachA sel' page ent sub' k).length) : ∀ k, (eachL sel page ent sub k).length = (eachL sel' page ent sub' k).length
  | 0 => rfl
  | k + 1 => by rw [eachL_succ, eachL_succ, List.length_append, List.length_append, h k, eachL_same h k]
theorem eachA_same {sel sel' : Sel} (h : ∀ a b c, (sel a b c).length = (sel' a b c).length) {page : Nat} {ent : Nat → Option (Nat × Bool × Bool)} {sub sub' : Nat → List Int} (hs : ∀ k, (sub k).length = (sub' k).length) (k : Nat) : (eachA sel page ent sub k).length = (eachA sel' page ent sub' k).length := by
  unfold eachA
  cases ent k with
  | none => rfl
  | some x =>
    simp only [List.length_append, h]
    split
    · rw [hs]
    · rfl
theorem fr_pg (a : Int) (b : Bool) (c : Int) : (selFr a b c).length = (selPg a b c).length := by unfold selFr selPg; cases b <;> rfl
theorem close_many (t : Tree) : (vis0 selFr t).length = (vis0 selPg t).length :=
  eachL_same (eachA_same fr_pg fun i => eachL_same (eachA_same fr_pg fun j => eachL_same (eachA_same fr_pg fun _ => rfl) 16) 16) 16

/-- A space whose tables are all that is given. -/
def SpX (g : World) (ps pm pb n : Nat) (R : HP) (t : Tree) (T : Nat → Prop) (w : World) : Prop := ∃ H M, HeldX t H ∧ SpSt g ps pm pb 0 n t T H M R w
def OpX (g : World) (ps pm pb n : Nat) (R : HP) (t : Tree) (T : Nat → Prop) (k : Int) (w' : World) : Prop := ∃ t2 T2, SpX g ps pm pb n R t2 T2 w' ∧ ((k ≠ 0 ∧ t2 = t ∧ T2 = T) ∨ (k = 0 ∧ vis0 selPg t ≠ vis0 selPg t2))
theorem pages_more {n : Nat} {M M' : Nat → Int} {t t' : Tree} (h : TreeW n M t) (h' : TreeW n M' t') {q : Nat} {x : Nat × Bool} (e : t.pg q = none) (e' : t'.pg q = some x) : vis0 selPg t ≠ vis0 selPg t' := fun he => by
  have h1 := pages_has h' e'
  rw [← he] at h1
  obtain ⟨p, hp, y, hy⟩ := pages_mem t _ h1
  have : p = q := by omega
  rw [this, e] at hy; cases hy
theorem x_map (g : World) (ps pm pb n : Nat) (R : HP) (t : Tree) (T : Nat → Prop) (w : World) (p fr : Int) (bw : Bool) (h : SpX g ps pm pb n R t T w) :
    Calls Try.prog 39 #[.pointer (some ⟨ps, 0, none⟩), .int .i64 p, .int .i64 fr, .bool bw] w fun e w' => ∃ k, e = .returned (.int .i64 k) ∧ OpX g ps pm pb n R t T k w' := by
  obtain ⟨H, M, hx, h⟩ := h
  refine (s_mapT g ps pm pb 0 n t T H M R w p fr bw h).mono fun e w' hp => ?_
  cases hp with
  | no k hk _ he hs => exact ⟨k, he, t, T, ⟨H, M, hx, hs⟩, Or.inl ⟨hk, rfl, rfl⟩⟩
  | ok q f t' T' H' M' _ _ hq hn ha hpg he hs => exact ⟨0, he, t', T', ⟨H', M', hx.after ha, hs⟩, Or.inr ⟨rfl, pages_more h.tree.w hs.tree.w (q := q) (x := (f, bw)) hn (by rw [hpg]; exact updF_same _ _ _)⟩⟩
theorem x_unmap (g : World) (ps pm pb n : Nat) (R : HP) (t : Tree) (T : Nat → Prop) (w : World) (p : Int) (h : SpX g ps pm pb n R t T w) :
    Calls Try.prog 38 #[.pointer (some ⟨ps, 0, none⟩), .int .i64 p] w fun e w' => ∃ f k, e = .returned (.tuple #[.int .i64 f, .int .i64 k]) ∧ OpX g ps pm pb n R t T k w' := by
  obtain ⟨H, M, hx, h⟩ := h
  refine (s_unmapT g ps pm pb 0 n t T H M R w p h).mono fun e w' hp => ?_
  cases hp with
  | no k hk _ _ he hs => exact ⟨0, k, he, t, T, ⟨H, M, hx, hs⟩, Or.inl ⟨hk, rfl, rfl⟩⟩
  | ok q x t' T' H' M' _ hq hn ha hpg he hs => exact ⟨x.1, 0, he, t', T', ⟨H', M', hx.after ha, hs⟩, Or.inr ⟨rfl, fun e => pages_more hs.tree.w h.tree.w (q := q) (x := x) (by rw [hpg]; exact updF_same _ _ _) hn e.symm⟩⟩
/-- The tables are given back one by one. -/
def Closing (n : Nat) (LT : List Int) (k : Nat) (T : Nat → Prop) (H : List Blk) (_ : Nat → Int) : Prop := InvB 0 n T H ∧ ∀ b, b ∈ H ↔ ∃ j, ∃ _ : j < LT.length, k ≤ j ∧ b = (LT[j], (0 : Int))
theorem closing_step {n : Nat} {M0 : Nat → Int} {t : Tree} (h : TreeW n M0 t) (k : Nat) (hk : k < (tabsL t).length) (T : Nat → Prop) (H : List Blk) (M : Nat → Int) (hc : Closing n (tabsL t) k T H M) :
    InvB 0 n T H ∧ ∃ f : Nat, (tabsL t)[k] = (f : Int) ∧ ((f : Int), (0 : Int)) ∈ H ∧ Closing n (tabsL t) (k + 1) (plusQ T f 0) (H.erase ((f : Int), (0 : Int))) (scrubW M f 1) := by
  obtain ⟨hi, hm⟩ := hc
  obtain ⟨f, hf, _⟩ := (tabs_mem h _).1 (List.getElem_mem hk)
  have hin : ((f : Int), (0 : Int)) ∈ H := (hm _).2 ⟨k, hk, Nat.le_refl _, by rw [hf]⟩
  refine ⟨hi, f, hf, hin, inv_free0 hi hin, fun b => ?_⟩
  rw [hi.nodup.mem_erase_iff, hm]
  constructor
  · rintro ⟨h1, j, hj, h2, rfl⟩
    refine ⟨j, hj, ?_, rfl⟩
    have : j ≠ k := fun e => h1 (by subst e; rw [hf])
    omega
  · rintro ⟨j, hj, h2, rfl⟩
    refine ⟨fun e => ?_, j, hj, by omega, rfl⟩
    have h3 : (tabsL t)[j] = (tabsL t)[k] := by rw [hf]; exact congrArg Prod.fst e
    exact List.pairwise_iff_getElem.1 (tabs_nodup h) k j hk hj (by omega) h3.symm
theorem closing_end {n : Nat} {LT : List Int} {T : Nat → Prop} {H : List Blk} {M : Nat → Int} (hn : n ≤ 256) (h1 : 1 ≤ n) (h : Closing n LT LT.length T H M) : cnt T 256 = n ∧ ∀ L, CanB T L → 1 ≤ L.length := by
  obtain ⟨hi, hm⟩ := h
  have hT : ∀ x, T x ↔ x < n := fun x => by
    have := hi.cov x
    constructor
    · intro hx; exact (this.2 (Or.inl hx)).2
    · intro hx
      rcases this.1 ⟨by omega, hx⟩ with h | ⟨b, hb, _⟩
      · exact h
      · obtain ⟨j, hj, h2, _⟩ := (hm b).1 hb
        omega
  refine ⟨?_, fun L hL => ?_⟩
  · rw [cnt_congr (U := fun x => 0 ≤ x ∧ x < 0 + n) 256 (fun x _ => by rw [hT]; omega)]
    exact cnt_int 0 n 256 (by omega)
  · obtain ⟨b, k, _, hk, hc, _⟩ := full_can 8 0 0 rfl (full0.2 ((hT 0).2 (by omega)))
    exact List.length_pos_of_mem ((hL.2 _).2 ⟨b, k, hk, rfl, hc⟩)

theorem back08 (frames : Int) (a : Option Addr) (len cap : Nat) (L : Nat → OpT) (w : World) (hA : OpsT w a len L) (hm : len ≤ 9223372036854775807) :
    Calls Try.prog 12 #[.int .i64 frames, .slice a len cap] w fun e w' => e = .returned (.bool true) ∧ Below w.heap.size w w' := by
  have HK := Lib.hid hA.kept
  have HA := Lib.hid (awake08 w w _ (Sat.start w))
  clear hA
  go_enter Try.func12, Try.ntmps12
  go_wp2_with (fail)
  refine HA.out.mono ?_
  rintro e w1 ⟨rfl, S0⟩
  by_cases hf : ¬ (1 ≤ frames ∧ frames ≤ 256)
  · go_wp2_with (fail)
    refine (begun8_no frames w1 hf).mono ?_
    rintro e w2 ⟨rfl, hb2⟩
    go_wp2_with (fail)
    go_ret
    exact ⟨rfl, Sat.ends ((S0.below hb2).emp.perm (star_comm _ _))⟩
  obtain ⟨n, rfl⟩ := Int.eq_ofNat_of_zero_le (show 0 ≤ frames by omega)
  have hn1 : 1 ≤ n := by omega
  have hn2 : n ≤ 256 := by omega
  clear hf
  go_wp2_with (fail)
  refine (begun8_yes n w w1 _ S0 hn1 hn2).mono ?_
  rintro e w2 ⟨pm, pb, ps, c, rfl, _, S1⟩
  by_cases hlen : 40 < len
  · go_wp2_with (fail)
    go_ret
    exact ⟨rfl, Sat.ends (S1.sat.right.right.right.emp.perm (star_comm _ _))⟩
  have B1 : ∃ t T, SpX w ps pm pb n (whole w) t T w2 := ⟨_, _, _, _, heldX_new c, S1⟩
  clear S1 S0
  go_wp2_with (fail)
  go_loopw [9] (fun i wr => ∃ k : Nat, k ≤ len ∧ i = .int .i64 k ∧ ∃ t T, SpX w ps pm pb n (whole w) t T wr) (fun i _ => len - (intOf i).toNat)
  case atStart => exact ⟨0, by omega, rfl, B1⟩
  case round =>
    obtain ⟨k, hk, rfl, t, T, H, M, hx, S2⟩ := hrel
    clear B1
    by_cases hkl : k < len
    · have i1 : (k : Int) < len := by omega
      have hop : ∃ ob off, a = some ⟨ob, off, none⟩ ∧ ∀ w' Q, Sat w w' (Q * whole w) → OpTAt w' ob (off + k * 4) (L k) := by
        rcases HK.out wr (spP ps pm pb t.root * (midP pb pm T H * memP pm n M)) (S2.sat.perm (by ac_rfl)) with h0 | ⟨ob, off, h1, hops⟩
        · omega
        · refine ⟨ob, off, h1, fun w' Q h' => ?_⟩
          rcases HK.out w' Q h' with h0 | ⟨ob', off', h1', hops'⟩
          · omega
          · rw [h1] at h1'
            simp only [Option.some.injEq, Addr.mk.injEq] at h1'
            obtain ⟨rfl, rfl, -⟩ := h1'
            exact hops' k hkl
      obtain ⟨ob, off, rfl, hop⟩ := hop
      generalize L k = x at hop
      have HOP := Lib.hid hop
      have HT := Lib.hid S2.tree
      have HX := Lib.hid hx
      have S3 : Sat w wr (spP ps pm pb t.root * (memP pm n M * (midP pb pm T H * whole w))) := S2.sat.perm (by ac_rfl)
      have HST : Hid (∀ w' R, Sat w w' (spP ps pm pb t.root * (memP pm n M * (midP pb pm T H * R))) → SpX w ps pm pb n R t T w') := Lib.hid fun w' R h' => ⟨H, M, hx, S2.tree, S2.inv, S2.zero, S2.held, S2.n256, h'.perm (by ac_rfl)⟩
      clear hop hx S2
      go_wp2_with (fail)
      refine (s_pages ps pm pb n M t HT.out.w hn2 w _ _ S3).mono ?_
      rintro e w3 ⟨a1, c1, rfl, S4⟩
      go_wp2_with (fail)
      refine (s_tabs ps pm pb n M t HT.out.w hn2 w _ (rowP (.slice a1 (vis0 selPg t).length c1) (vis0 selPg t) * (midP pb pm T H * whole w)) (S4.perm (by ac_rfl))).mono ?_
      rintro e w4 ⟨a2, c2, rfl, S5⟩
      go_wp2_with (fail)
      refine (s_left' pb pm T H w _ (rowP (.slice a2 (tabsL t).length c2) (tabsL t) * (rowP (.slice a1 (vis0 selPg t).length c1) (vis0 selPg t) * (spP ps pm pb t.root * (memP pm n M * whole w)))) (S5.perm (by ac_rfl))).mono ?_
      rintro e w5 ⟨rfl, rfl⟩
      obtain ⟨R, hR⟩ : ∃ R, R = rowP (.slice a2 (tabsL t).length c2) (tabsL t) * (rowP (.slice a1 (vis0 selPg t).length c1) (vis0 selPg t) * whole w) := ⟨_, rfl⟩
      have X5 : SpX w ps pm pb n R t T w4 := HST.out w4 R (by rw [hR]; exact S5.perm (by ac_rfl))
      have X6 : SpX w ps pm pb n R t T w4.drew := HST.out w4.drew R (by rw [hR]; exact S5.drew.perm (by ac_rfl))
      obtain ⟨q0, q1, q2, q3⟩ := HOP.out w4 (rowP (.slice a2 (tabsL t).length c2) (tabsL t) * (rowP (.slice a1 (vis0 selPg t).length c1) (vis0 selPg t) * (spP ps pm pb t.root * (memP pm n M * midP pb pm T H)))) (S5.perm (by ac_rfl))
      have hlp := vis0_len selPg_len t
      have hlt := tabsL_len t
      have hlf : Hid (cnt T 256 = cnt T 256) := Lib.hid rfl
      clear S3 S4 S5 HOP HST HX
      go_upto_if 66 with (fail)
      go_cut [13] (fun s wx => ∃ k, s = .int .i64 k ∧ OpX w ps pm pb n R t T k wx)
      case first =>
        by_cases h1 : x.d = 2
        · have g1 : (x.d == 2) = true := by simp [h1]
          clear h1
          go_wp2_with (fail)
          refine (x_unmap w ps pm pb n R t T _ x.p X5).mono ?_
          rintro e w6 ⟨f, y, rfl, HO⟩
          go_wp2_with (fail)
          go_meet
          exact ⟨y, rfl, HO⟩
        · have g1 : (x.d == 2) = false := by rw [beq_eq_false_iff_ne]; exact h1
          clear h1
          have m1 : ∀ z : Wc (fun w' => w4.drew = w'), z.w.cell? ⟨ob, off + k * 4 + 1, none⟩ = some (.int .i64 x.p) := fun z => by rw [← z.h]; exact q1
          have m2 : ∀ z : Wc (fun w' => w4.drew = w'), z.w.cell? ⟨ob, off + k * 4 + 2, none⟩ = some (.int .i64 x.f) := fun z => by rw [← z.h]; exact q2
          have m3 : ∀ z : Wc (fun w' => w4.drew = w'), z.w.cell? ⟨ob, off + k * 4 + 3, none⟩ = some (.bool x.b) := fun z => by rw [← z.h]; exact q3
          go_wp2_with (fail)
          (refine region_tail (fun w' => w4.drew = w') 16 (by kernel_rfl) (by kernel_rfl) (rfl) ?_; intro _; simp only [List.take_succ_cons, List.take_zero, List.drop_succ_cons, List.drop_zero]; (repeat (first | go_big_quiet_step ((fail)) | quiet_step ((fail)))); refine wpQuiet_nil ?_; intro wz hz)
          subst hz
          clear m1 m2 m3 q1 q2 q3
          go_wp2_with (fail)
          refine (x_map w ps pm pb n R t T _ x.p x.f x.b X6).mono ?_
          rintro e w6 ⟨y, rfl, HO⟩
          go_wp2_with (fail)
          go_meet
          exact ⟨y, rfl, HO⟩
      case rest =>
        obtain ⟨y, rfl, t2, T2, ⟨H2, M2, hx2, S6⟩, hcase⟩ := hcut
        rw [hR] at S6
        clear X5 X6 q0 q1 q2 q3 hR
        have hfr := left_tabs S6.tree.w hn2 S6.inv S6.held hx2
        have HX2 := Lib.hid hx2
        have HT2 := Lib.hid S6.tree
        have hlp2 := vis0_len selPg_len t2
        have hlt2 := tabsL_len t2
        have HB2 : Hid (∀ w', Sat w w' (spP ps pm pb t2.root * (memP pm n M2 * (midP pb pm T2 H2 * whole w))) → ∃ t T, SpX w ps pm pb n (whole w) t T w') := Lib.hid fun w' h' => ⟨t2, T2, H2, M2, HX2.out, S6.tree, S6.inv, S6.zero, S6.held, S6.n256, h'.perm (by ac_rfl)⟩
        have S7 : Sat w wc (spP ps pm pb t2.root * (memP pm n M2 * (rowP (.slice a2 (tabsL t).length c2) (tabsL t) * (rowP (.slice a1 (vis0 selPg t).length c1) (vis0 selPg t) * (midP pb pm T2 H2 * whole w))))) := S6.sat.perm (by ac_rfl)
        clear S6 hx2
        -- what the tests ask
        obtain ⟨one, hone⟩ : ∃ one, decide (vis0 selPg t = vis0 selPg t2) = one := ⟨_, rfl⟩
        obtain ⟨two, htwo⟩ : ∃ two, decide (tabsL t = tabsL t2) = two := ⟨_, rfl⟩
        have hR2 : (y ≠ 0 ∧ one = true ∧ two = true ∧ cnt T 256 = cnt T2 256) ∨ (y = 0 ∧ one = false) := by
          rcases hcase with ⟨h1, rfl, rfl⟩ | ⟨h1, h2⟩
          · exact Or.inl ⟨h1, by rw [← hone]; exact decide_eq_true rfl, by rw [← htwo]; exact decide_eq_true rfl, rfl⟩
          · exact Or.inr ⟨h1, by rw [← hone]; exact decide_eq_false h2⟩
        clear hcase
        have HR2 := Lib.hid hR2
        have HONE := Lib.hid hone
        have HTWO := Lib.hid htwo
        have HFR := Lib.hid hfr
        clear hR2 hone htwo hfr
        go_wp2_with (fail)
        refine (s_pages ps pm pb n M2 t2 HT2.out.w hn2 w _ _ S7).mono ?_
        rintro e w7 ⟨a3, c3, rfl, S8⟩
        go_wp2_with (fail)
        refine (same3 a1 a3 c1 c3 _ _ _ (row_list (S8.perm (show _ = rowP (.slice a1 (vis0 selPg t).length c1) (vis0 selPg t) * (rowP (.slice a3 (vis0 selPg t2).length c3) (vis0 selPg t2) * (spP ps pm pb t2.root * (memP pm n M2 * (rowP (.slice a2 (tabsL t).length c2) (tabsL t) * (midP pb pm T2 H2 * whole w))))) by ac_rfl))) (row_list S8) (by omega)).mono ?_
        rintro e w8 ⟨rfl, hb8⟩
        have S9 := (S8.below hb8).right
        rw [HONE.out]
        clear S8 hb8 S7
        go_wp2_with (fail)
        refine (s_tabs ps pm pb n M2 t2 HT2.out.w hn2 w _ _ S9).mono ?_
        rintro e w9 ⟨a4, c4, rfl, S10⟩
        go_wp2_with (fail)
        refine (same3 a2 a4 c2 c4 _ _ _ (row_list (S10.perm (show _ = rowP (.slice a2 (tabsL t).length c2) (tabsL t) * (rowP (.slice a4 (tabsL t2).length c4) (tabsL t2) * (spP ps pm pb t2.root * (memP pm n M2 * (rowP (.slice a1 (vis0 selPg t).length c1) (vis0 selPg t) * (midP pb pm T2 H2 * whole w))))) by ac_rfl))) (row_list S10) (by omega)).mono ?_
        rintro e w10 ⟨rfl, hb10⟩
        rw [HTWO.out]
        have S11 : Sat w w10 (spP ps pm pb t2.root * (memP pm n M2 * (midP pb pm T2 H2 * whole w))) := ((S10.below hb10).right).perm (show _ = rowP (.slice a2 (tabsL t).length c2) (tabsL t) * (rowP (.slice a1 (vis0 selPg t).length c1) (vis0 selPg t) * (spP ps pm pb t2.root * (memP pm n M2 * (midP pb pm T2 H2 * whole w)))) by ac_rfl) |>.right |>.right
        clear S9 S10 hb10
        have HLEFT := Lib.hid (s_left' pb pm T2 H2 w w10 (spP ps pm pb t2.root * (memP pm n M2 * whole w)) (S11.perm (by ac_rfl)))
        have HTAB := Lib.hid (s_tabs ps pm pb n M2 t2 HT2.out.w hn2 w w10 _ S11)
        have hc256 : cnt T2 256 ≤ 256 := by have := HFR.out; omega
        rcases HR2.out with ⟨hy, rfl, rfl, hcc⟩ | ⟨rfl, rfl⟩
        rotate_left
        · clear HR2
          go_wp2_with (fail)
          refine HLEFT.out.mono ?_
          rintro e w11 ⟨rfl, rfl⟩
          go_wp2_with (fail)
          refine HTAB.out.mono ?_
          rintro e w11 ⟨a5, c5, rfl, S12⟩
          have S13 := S12.right
          have g1 : (((cnt T2 256 : Int) + ((tabsL t2).length : Int)) != (n : Int)) = false := by rw [bne_eq_false_iff_eq]; have := HFR.out; omega
          go_wp2_with (fail)
          refine (s_frames pm n M2 w _ (spP ps pm pb t2.root * (midP pb pm T2 H2 * whole w)) (S13.perm (by ac_rfl))).mono ?_
          rintro e w12 ⟨rfl, rfl⟩
          go_wp2_with (fail)
          go_roundw
          case rel => exact ⟨k + 1, by omega, by go_num, HB2.out _ S13⟩
          case measure => simp [intOf]; omega
        · clear HR2
          have g2 : (y != 0) = true := by rw [bne_iff_ne]; exact hy
          have g3 : (y == 0) = false := by rw [beq_eq_false_iff_ne]; exact hy
          clear hy
          rw [hcc]
          clear hcc
          go_wp2_with (fail)
          refine HLEFT.out.mono ?_
          rintro e w11 ⟨rfl, rfl⟩
          go_wp2_with (fail)
          refine HLEFT.out.mono ?_
          rintro e w11 ⟨rfl, rfl⟩
          go_wp2_with (fail)
          refine HTAB.out.mono ?_
          rintro e w11 ⟨a5, c5, rfl, S12⟩
          have S13 := S12.right
          have g1 : (((cnt T2 256 : Int) + ((tabsL t2).length : Int)) != (n : Int)) = false := by rw [bne_eq_false_iff_eq]; have := HFR.out; omega
          go_wp2_with (fail)
          refine (s_frames pm n M2 w _ (spP ps pm pb t2.root * (midP pb pm T2 H2 * whole w)) (S13.perm (by ac_rfl))).mono ?_
          rintro e w12 ⟨rfl, rfl⟩
          go_wp2_with (fail)
          go_roundw
          case rel => exact ⟨k + 1, by omega, by go_num, HB2.out _ S13⟩
          case measure => simp [intOf]; omega
    · obtain rfl : len = k := by omega
      have HT := Lib.hid S2.tree
      have HI := Lib.hid S2.inv
      have h0 : Closing n (tabsL t) 0 T H M := ⟨S2.inv, fun b => by
        constructor
        · intro hb
          obtain ⟨f, hf, rfl⟩ := hx b hb
          obtain ⟨j, hj, e⟩ := List.mem_iff_getElem.1 ((tabs_mem S2.tree.w (f : Int)).2 ⟨f, rfl, hf⟩)
          exact ⟨j, hj, by omega, by rw [e]⟩
        · rintro ⟨j, hj, _, rfl⟩
          obtain ⟨f, e, hf⟩ := (tabs_mem S2.tree.w _).1 (List.getElem_mem hj)
          rw [e]; exact S2.held f hf⟩
      have H0 := Lib.hid h0
      have S3 : Sat w wr (spP ps pm pb t.root * (memP pm n M * (midP pb pm T H * whole w))) := S2.sat.perm (by ac_rfl)
      have hlp := vis0_len selPg_len t
      clear hx S2 h0
      go_wp2_with (fail)
      refine (s_pages ps pm pb n M t HT.out.w hn2 w _ _ S3).mono ?_
      rintro e w3 ⟨a1, c1, rfl, S4⟩
      have hcm := close_many t
      have HCM := Lib.hid hcm
      clear hcm
      go_wp2_with (fail)
      refine (s_close ps pm pb 0 n T H M t HT.out.w hn2 (Closing n (tabsL t)) (fun k hk T H M hc => closing_step HT.out.w k hk T H M hc) H0.out w _ (whole w) (S4.right.perm (by ac_rfl))).mono ?_
      rintro e w4 ⟨a2, c2, rfl, T2, H2, M2, hD, S5⟩
      obtain ⟨hcn, hbl⟩ := closing_end hn2 hn1 hD
      rw [HCM.out] at S5 ⊢
      have HBL := Lib.hid hbl
      have S6 : Sat w w4 (midP pb pm T2 H2 * (memP pm n M2 * (spP ps pm pb t.root * whole w))) := S5.right.perm (by ac_rfl)
      clear hbl hD S3 S4 S5
      go_wp2_with (fail)
      refine (s_left' pb pm T2 H2 w _ _ S6).mono ?_
      rintro e w5 ⟨rfl, rfl⟩
      rw [hcn]
      clear hcn
      go_wp2_with (fail)
      refine (s_frames pm n M2 w _ (midP pb pm T2 H2 * (spP ps pm pb t.root * whole w)) (S6.perm (by ac_rfl))).mono ?_
      rintro e w5 ⟨rfl, rfl⟩
      go_wp2_with (fail)
      refine (s_blocks pb pm T2 H2 w _ _ S6).mono ?_
      rintro e w6 ⟨LB, hcan, ⟨⟨v, rfl, hown⟩, hb6⟩⟩
      have hl1 := HBL.out LB hcan
      obtain ⟨a6, c6, rfl⟩ := own_slice hown
      have S7 := S6.below hb6
      have g1 : decide ((1 : Int) ≤ (LB.length : Int)) = true := decide_eq_true (by omega)
      clear hown hcan hb6 S6
      go_wp2_with (fail)
      go_ret
      exact ⟨rfl, Sat.ends (S7.right.right.right.emp.perm (star_comm _ _))⟩

end Go.Proofs.Ytoiiblajgkdabaa

namespace Go.Proofs.Ytoiiblajgkdabaa
set_option linter.unusedSimpArgs false
set_option linter.unusedVariables false
set_option maxRecDepth 100000
open Go.RowKit
set_option maxHeartbeats 40000000

theorem page_walk {n : Nat} {M : Nat → Int} {t : Tree} (h : TreeN n M t) (hn : n ≤ 256) (k : Nat) (hk : k < (vis0 selPg t).length) : ∃ b f l, walkM M n t.root (vis0 selPg t)[k] = ⟨true, b, false, f, l, 0⟩ := by
  obtain ⟨p, hp, y, hy⟩ := pages_mem t _ (List.getElem_mem hk)
  obtain ⟨f1, f2, _, _, ew⟩ := walk_some h.w hy
  rw [hp, walk_tree h.w hn p (h.w.ltp _ _ hy).1, ew]
  exact ⟨_, _, _, rfl⟩

theorem pt_en {g w : World} {P : HP} {b : Nat} {v wr tb : Bool} {fr : Int} {ty : TypeId} (h : Sat g w (pt b (.cells #[.bool v, .bool wr, .bool tb, .int .i64 fr] ty) * P)) : w.cell? ⟨b, 0, none⟩ = some (.bool v) ∧ w.cell? ⟨b, 1, none⟩ = some (.bool wr) ∧ w.cell? ⟨b, 2, none⟩ = some (.bool tb) ∧ w.cell? ⟨b, 3, none⟩ = some (.int .i64 fr) := by
  have e := h.pt_heap
  refine ⟨?_, ?_, ?_, ?_⟩ <;> simp [World.cell?, e]

theorem walks08 (frames : Int) (a : Option Addr) (len cap : Nat) (L : Nat → OpT) (w : World) (hA : OpsT w a len L) (hm : len ≤ 9223372036854775807) :
    Calls Try.prog 11 #[.int .i64 frames, .slice a len cap] w fun e w' => e = .returned (.bool true) ∧ Below w.heap.size w w' := by
  have HK := Lib.hid hA.kept
  have HA := Lib.hid (awake08 w w _ (Sat.start w))
  clear hA
  go_enter Try.func11, Try.ntmps11
  go_wp2_with (fail)
  refine HA.out.mono ?_
  rintro e w1 ⟨rfl, S0⟩
  by_cases hf : ¬ (1 ≤ frames ∧ frames ≤ 256)
  · go_wp2_with (fail)
    refine (begun8_no frames w1 hf).mono ?_
    rintro e w2 ⟨rfl, hb2⟩
    go_wp2_with (fail)
    go_ret
    exact ⟨rfl, Sat.ends ((S0.below hb2).emp.perm (star_comm _ _))⟩
  obtain ⟨n, rfl⟩ := Int.eq_ofNat_of_zero_le (show 0 ≤ frames by omega)
  have hn1 : 1 ≤ n := by omega
  have hn2 : n ≤ 256 := by omega
  clear hf
  go_wp2_with (fail)
  refine (begun8_yes n w w1 _ S0 hn1 hn2).mono ?_
  rintro e w2 ⟨pm, pb, ps, c, rfl, _, S1⟩
  by_cases hlen : 40 < len
  · go_wp2_with (fail)
    go_ret
    exact ⟨rfl, Sat.ends (S1.sat.right.right.right.emp.perm (star_comm _ _))⟩
  have B1 : SpAny w ps pm pb 0 n (whole w) w2 := ⟨_, _, _, _, S1⟩
  clear S1 S0
  go_wp2_with (fail)
  go_loopw [9] (fun i wr => ∃ k : Nat, k ≤ len ∧ i = .int .i64 k ∧ SpAny w ps pm pb 0 n (whole w) wr) (fun i _ => len - (intOf i).toNat)
  case atStart => exact ⟨0, by omega, rfl, B1⟩
  case round =>
    obtain ⟨k, hk, rfl, B2⟩ := hrel
    clear B1
    by_cases hkl : k < len
    · have i1 : (k : Int) < len := by omega
      have hop : ∃ ob off, a = some ⟨ob, off, none⟩ ∧ OpTAt wr ob (off + k * 4) (L k) := by
        obtain ⟨t, T, H, M, S2⟩ := B2
        rcases HK.out wr (spP ps pm pb t.root * (midP pb pm T H * memP pm n M)) (S2.sat.perm (by ac_rfl)) with h0 | ⟨ob, off, h1, hops⟩
        · omega
        · exact ⟨ob, off, h1, hops k hkl⟩
      obtain ⟨ob, off, rfl, hop⟩ := hop
      generalize L k = x at hop
      obtain ⟨q0, q1, q2, q3⟩ := hop
      have B3 : SpAny w ps pm pb 0 n (whole w) wr.drew := by
        obtain ⟨t, T, H, M, S2⟩ := B2
        exact ⟨t, T, H, M, { S2 with sat := S2.sat.drew }⟩
      by_cases h1 : x.d = 2
      · have g1 : (x.d == 2) = true := by simp [h1]
        clear h1
        go_wp2_with (fail)
        refine (s_unmap_any w ps pm pb 0 n _ _ x.p B2).mono ?_
        rintro e w4 ⟨⟨v, rfl⟩, B4⟩
        go_wp2_with (fail)
        go_roundw
        case rel => exact ⟨k + 1, by omega, by go_num, B4⟩
        case measure => simp [intOf]; omega
      · have g1 : (x.d == 2) = false := by rw [beq_eq_false_iff_ne]; exact h1
        clear h1
        have m1 : ∀ z : Wc (fun w' => wr.drew = w'), z.w.cell? ⟨ob, off + k * 4 + 1, none⟩ = some (.int .i64 x.p) := fun z => by rw [← z.h]; exact q1
        have m2 : ∀ z : Wc (fun w' => wr.drew = w'), z.w.cell? ⟨ob, off + k * 4 + 2, none⟩ = some (.int .i64 x.f) := fun z => by rw [← z.h]; exact q2
        have m3 : ∀ z : Wc (fun w' => wr.drew = w'), z.w.cell? ⟨ob, off + k * 4 + 3, none⟩ = some (.bool x.b) := fun z => by rw [← z.h]; exact q3
        by_cases h2 : x.d = 3
        · have g2 : (x.d == 3) = true := by simp [h2]
          clear h2
          go_wp2_with (fail)
          (refine region_tail (fun w' => wr.drew = w') 11 (by kernel_rfl) (by kernel_rfl) (rfl) ?_; intro _; simp only [List.take_succ_cons, List.take_zero, List.drop_succ_cons, List.drop_zero]; (repeat (first | go_big_quiet_step ((fail)) | quiet_step ((fail)))); refine wpQuiet_nil ?_; intro wz hz)
          subst hz
          clear m1 m2 m3 q1 q2 q3
          go_wp2_with (fail)
          refine (s_prot_any w ps pm pb 0 n _ _ x.p x.b B3).mono ?_
          rintro e w4 ⟨⟨v, rfl⟩, B4⟩
          go_wp2_with (fail)
          go_roundw
          case rel => exact ⟨k + 1, by omega, by go_num, B4⟩
          case measure => simp [intOf]; omega
        · have g2 : (x.d == 3) = false := by rw [beq_eq_false_iff_ne]; exact h2
          clear h2
          go_wp2_with (fail)
          (refine region_tail (fun w' => wr.drew = w') 16 (by kernel_rfl) (by kernel_rfl) (rfl) ?_; intro _; simp only [List.take_succ_cons, List.take_zero, List.drop_succ_cons, List.drop_zero]; (repeat (first | go_big_quiet_step ((fail)) | quiet_step ((fail)))); refine wpQuiet_nil ?_; intro wz hz)
          subst hz
          clear m1 m2 m3 q1 q2 q3
          go_wp2_with (fail)
          refine (s_map_any w ps pm pb 0 n _ _ x.p x.f x.b B3).mono ?_
          rintro e w4 ⟨⟨v, rfl⟩, B4⟩
          go_wp2_with (fail)
          go_roundw
          case rel => exact ⟨k + 1, by omega, by go_num, B4⟩
          case measure => simp [intOf]; omega
    · obtain rfl : len = k := by omega
      obtain ⟨t, T, H, M, S2⟩ := B2
      have S3 : Sat w wr (spP ps pm pb t.root * (memP pm n M * (midP pb pm T H * whole w))) := S2.sat.perm (by ac_rfl)
      have HT := Lib.hid S2.tree
      clear S2
      obtain ⟨wo, rfl⟩ : ∃ wo : World, wo = wr := ⟨_, rfl⟩
      go_wp2_with (fail)
      go_loopw [10] (fun i wr => ∃ k : Nat, k ≤ len ∧ i = .int .i64 k ∧ Sat w wr (spP ps pm pb t.root * (memP pm n M * (midP pb pm T H * whole w)))) (fun i _ => len - (intOf i).toNat)
      case atStart => exact ⟨0, by omega, rfl, S3⟩
      case round =>
        obtain ⟨k, hk, rfl, S4⟩ := hrel
        clear S3
        by_cases hkl : k < len
        · have i1 : (k : Int) < len := by omega
          have hop : ∃ ob off, a = some ⟨ob, off, none⟩ ∧ ∀ w' Q, Sat w w' (Q * whole w) → w'.cell? ⟨ob, off + k * 4 + 1, none⟩ = some (.int .i64 (L k).p) := by
            rcases HK.out wr (spP ps pm pb t.root * (midP pb pm T H * memP pm n M)) (S4.perm (by ac_rfl)) with h0 | ⟨ob, off, h1, hops⟩
            · omega
            · refine ⟨ob, off, h1, fun w' Q h' => ?_⟩
              rcases HK.out w' Q h' with h0 | ⟨ob', off', h1', hops'⟩
              · omega
              · rw [h1] at h1'
                simp only [Option.some.injEq, Addr.mk.injEq] at h1'
                obtain ⟨rfl, rfl, -⟩ := h1'
                exact (hops' k hkl).c1
          obtain ⟨ob, off, rfl, hop⟩ := hop
          generalize (L k).p = p at hop
          have HP := Lib.hid hop
          clear hop
          obtain ⟨wi, rfl⟩ : ∃ wi : World, wi = wr := ⟨_, rfl⟩
          go_wp2_with (fail)
          go_loopw [11] (fun i wr => ∃ d : Int, -1 ≤ d ∧ d ≤ 2 ∧ i = .int .i64 d ∧ Sat w wr (spP ps pm pb t.root * (memP pm n M * (midP pb pm T H * whole w)))) (fun i _ => (2 - intOf i).toNat)
          case atStart => exact ⟨-1, by omega, by omega, rfl, S4⟩
          case round =>
            obtain ⟨d, hd0, hd, rfl, S5⟩ := hrel
            clear S4
            by_cases hd2 : d < 2
            · have q1 := HP.out wr (spP ps pm pb t.root * (midP pb pm T H * memP pm n M)) (S5.perm (by ac_rfl))
              obtain ⟨pd, hpd⟩ : ∃ pd, IntKind.i64.wrap (p + d) = pd := ⟨_, rfl⟩
              obtain ⟨Q, hQ⟩ : ∃ Q, walkM M n t.root pd = Q := ⟨_, rfl⟩
              have HQ := Lib.hid hQ
              have hfd := s_find8 ps pm pb t.root n M pd w wr _ S5 Q hQ
              obtain ⟨qv, qw, qt, qf, qs, qe⟩ := Q
              have HFD := Lib.hid hfd
              clear hfd hQ
              go_wp2_with (fail)
              refine HFD.out.mono ?_
              rintro e w3 ⟨rfl, hb3⟩
              have S6 := S5.below hb3
              clear q1 S5 hb3
              go_upto_region 20 with (fail)
              have S7 := S6.pt_new (.cells #[.bool qv, .bool qw, .bool qt, .int .i64 qf] 78)
              obtain ⟨w4, hw4⟩ : ∃ w4, w4 = w3.alloc (.cells #[.bool qv, .bool qw, .bool qt, .int .i64 qf] 78) := ⟨_, rfl⟩
              obtain ⟨eb, heb⟩ : ∃ eb, eb = w3.heap.size := ⟨_, rfl⟩
              rw [← hw4, ← heb] at S7
              rw [← hw4, ← heb]
              clear hw4 heb S6
              have HRT : Hid (∀ w', Below w4.heap.size w4 w' → Calls Try.prog 45 #[.pointer (some ⟨ps, 0, none⟩)] w' fun e w'' => e = .returned (.int .i64 t.root) ∧ w' = w'') := Lib.hid fun w' hb => s_root ps pm pb t.root w w' _ (S7.below hb).right
              have HW : Hid (∀ w', Below w4.heap.size w4 w' → Calls Try.prog 44 #[.pointer (some ⟨pm, 0, none⟩), .int .i64 t.root, .int .i64 pd] w' fun e w2 => ∃ v, e = .returned (.tuple #[.agg #[.bool qv, .bool qw, .bool qt, .int .i64 qf], v, .int .i64 qe]) ∧ w2.ownsRow w'.heap.size 109 2 v qs.length (wCells qs) ∧ Below w'.heap.size w' w2) := Lib.hid fun w' hb => s_walk pm n M t.root pd w w' _ (S7.below hb).right.right ⟨qv, qw, qt, qf, qs, qe⟩ HQ.out
              have hS : ∀ w', Below w4.heap.size w4 w' → w'.cell? ⟨ob, off + k * 4 + 1, none⟩ = some (.int .i64 p) := fun w' hb => HP.out w' _ ((S7.below hb).perm (show _ = (pt eb (.cells #[.bool qv, .bool qw, .bool qt, .int .i64 qf] 78) * (spP ps pm pb t.root * (memP pm n M * midP pb pm T H))) * whole w by ac_rfl))
              go_cut [14, 15, 16] (fun s6 s7 s8 wx => WalkCut w4 ⟨qv, qw, qt, qf, qs, qe⟩ s6 s7 s8 wx)
              case first =>
                go_region_held3 (fun w' => w'.cell? ⟨ob, off + k * 4 + 1, none⟩ = some (.int .i64 p)) (exact hS _ (by repeat (first | with_reducible exact Below.refl _ _ | with_reducible assumption | with_reducible refine below_drewN ?_ _ | with_reducible refine Below.drew ?_ | with_reducible refine Below.setCell ?_ (by first | omega | (simp <;> omega)) _ | with_reducible refine Below.alloc ?_ (by first | omega | (simp <;> omega)) _)))
                  ((first
                    | (go_at_call 45
                       refine (HRT.out _ (by repeat (first | with_reducible exact Below.refl _ _ | with_reducible assumption | with_reducible refine below_drewN ?_ _ | with_reducible refine Below.drew ?_ | with_reducible refine Below.setCell ?_ (by first | omega | (simp <;> omega)) _ | with_reducible refine Below.alloc ?_ (by first | omega | (simp <;> omega)) _))).mono ?_
                       rintro e w5 ⟨rfl, rfl⟩)
                    | (go_at_call 44
                       first | rw [hpd] | skip
                       refine (HW.out _ (by repeat (first | with_reducible exact Below.refl _ _ | with_reducible assumption | with_reducible refine below_drewN ?_ _ | with_reducible refine Below.drew ?_ | with_reducible refine Below.setCell ?_ (by first | omega | (simp <;> omega)) _ | with_reducible refine Below.alloc ?_ (by first | omega | (simp <;> omega)) _))).mono ?_
                       rintro e w5 ⟨v, rfl, hown3, hb3'⟩
                       first
                         | (have hb4 := un_drew hb3'; have he := (EnAt.new w4 false false false 0 78).below hb4 (by simp); have hb3 : Below w4.heap.size w4 w5 := (Below.alloc (Below.refl _ _) (Nat.le_refl _) _).trans (hb4.mono (by simp)); have hs3 := hb3.size; have g0 := he.c0; have g1 := he.c1; have g2 := he.c2; have g3 := he.c3; have g4 := he.f0; have g5 := he.f1; have g6 := he.f2; have g7 := he.f3)
                         | (have hb3 : Below w4.heap.size w4 w5 := un_drew hb3'; have hs3 := hb3.size))))
                all_goals (go_wp2_with (fail))
                all_goals go_meet
                all_goals (first | exact walkCut_new (Q := ⟨qv, qw, qt, qf, qs, qe⟩) (by simp) hown3 hb3 | exact walkCut_put (Q := ⟨qv, qw, qt, qf, qs, qe⟩) (by simp) hown3 he hb3)
              case rest =>
                obtain ⟨be, rfl, rfl, hbe, he, _, hb, _⟩ := hcut
                have x0 := he.c0; have x1 := he.c1; have x2 := he.c2; have x3 := he.c3
                have S8 := S7.below hb
                obtain ⟨y0, y1, y2, y3⟩ := pt_en S8
                have S9 := S8.right
                clear hS HW HRT S7 S8 HFD he hb hbe
                go_wp2_with (fail)
                go_roundw
                case rel => exact ⟨d + 1, by omega, by omega, by go_num, S9⟩
                case measure => simp [intOf]; omega
            · obtain rfl : d = 2 := by omega
              go_wp2_with (fail)
              go_roundw
              case rel => exact ⟨k + 1, by omega, by go_num, S5⟩
              case measure => simp [intOf]; omega
        · obtain rfl : len = k := by omega
          go_wp2_with (fail)
          refine (s_pages ps pm pb n M t HT.out.w hn2 w wr _ S4).mono ?_
          rintro e w5 ⟨va, vc, rfl, S5⟩
          have hpw : ∀ k (hk : k < (vis0 selPg t).length), ∃ b f l, walkM M n t.root (vis0 selPg t)[k] = ⟨true, b, false, f, l, 0⟩ := page_walk HT.out hn2
          have hpr := List.pairwise_iff_getElem.1 (pages_rise t)
          have hpl := vis0_len selPg_len t
          generalize vis0 selPg t = PL at S5 hpw hpr hpl
          have HPW := Lib.hid hpw
          have HPR := Lib.hid hpr
          have HPL := Lib.hid hpl
          clear hpw hpr hpl S4
          obtain ⟨wi, rfl⟩ : ∃ wi : World, wi = wr := ⟨_, rfl⟩
          go_wp2_with (fail)
          go_loopw [18] (fun i wr => ∃ k : Nat, k ≤ PL.length ∧ i = .int .i64 k ∧ Sat w wr (rowP (.slice va PL.length vc) PL * (spP ps pm pb t.root * (memP pm n M * (midP pb pm T H * whole w))))) (fun i _ => PL.length - (intOf i).toNat)
          case atStart => exact ⟨0, by omega, rfl, S5⟩
          case round =>
            obtain ⟨k, hk, rfl, S6⟩ := hrel
            clear S5
            by_cases hkl : k < PL.length
            · have i1 : (k : Int) < PL.length := by omega
              obtain ⟨gb, rfl⟩ := row_addr S6 (by omega)
              have HCE : Hid (∀ w', Sat w w' (rowP (.slice (some ⟨gb, 0, none⟩) PL.length vc) PL * (spP ps pm pb t.root * (memP pm n M * (midP pb pm T H * whole w)))) → ∀ j (_ : j < PL.length), w'.cell? ⟨gb, j, none⟩ = some (.int .i64 PL[j])) := Lib.hid fun w' h' j hj => row_cells_at (n := 0) h' j hj
              have q1 := HCE.out wr S6 k hkl
              obtain ⟨qw, qf, qs, hQ⟩ := HPW.out k hkl
              have hfd := s_find8 ps pm pb t.root n M PL[k] w wr _ (S6.perm (show _ = spP ps pm pb t.root * (memP pm n M * (rowP (.slice (some ⟨gb, 0, none⟩) PL.length vc) PL * (midP pb pm T H * whole w))) by ac_rfl)) _ hQ
              obtain ⟨pk, hpk⟩ : ∃ pk, PL[k] = pk := ⟨_, rfl⟩
              rw [hpk] at q1 hfd
              have HPK := Lib.hid hpk
              have HFD := Lib.hid hfd
              clear hfd hQ hpk
              go_wp2_with (fail)
              with_reducible refine HFD.out.mono ?_
              rintro e w6 ⟨rfl, hb6⟩
              have S7 := S6.below hb6
              clear q1 S6 hb6 HFD
              go_upto_region 28 with (fail)
              have S8 := S7.below (Below.alloc (Below.refl _ _) (Nat.le_refl _) (.cells #[.bool true, .bool qw, .bool false, .int .i64 qf] 78))
              obtain ⟨w7, hw7⟩ : ∃ w7, w7 = w6.alloc (.cells #[.bool true, .bool qw, .bool false, .int .i64 qf] 78) := ⟨_, rfl⟩
              rw [← hw7] at S8 ⊢
              clear hw7 S7
              have q2 := HCE.out w7 S8
              have S9 := S8.drew
              by_cases hk0 : 0 < k
              · have q3 := q2 k hkl
                have q4 := q2 (k - 1) (by omega)
                have hlt := HPR.out (k - 1) k (by omega) hkl (by omega)
                have hll := HPL.out
                rw [HPK.out] at q3 hlt
                generalize PL[k - 1] = pj at q4 hlt
                obtain ⟨j, rfl⟩ : ∃ j, k = j + 1 := ⟨k - 1, by omega⟩
                rw [show j + 1 - 1 = j by omega] at q4
                have g1 : decide (pk ≤ pj) = false := decide_eq_false (by omega)
                have g2 : decide ((0 : Int) < ((j + 1 : Nat) : Int)) = true := decide_eq_true (by omega)
                have g2' : decide ((0 : Int) < (j : Int) + 1) = true := decide_eq_true (by omega)
                have hil : j ≤ 5000 := by omega
                have hw1 : IntKind.i64.wrap ((j : Int) + 1 - 1) = (j : Int) := by rw [IntWalk.i64_in _ ⟨by omega, by omega⟩]; omega
                have m1 : ∀ z : Wc (fun w' => w7.drew = w'), z.w.cell? ⟨gb, j + 1, none⟩ = some (.int .i64 pk) := fun z => by rw [← z.h]; exact q3
                have m2 : ∀ z : Wc (fun w' => w7.drew = w'), z.w.cell? ⟨gb, j, none⟩ = some (.int .i64 pj) := fun z => by rw [← z.h]; exact q4
                clear hlt hll q3 q4 q2
                (refine region_class (fun w' => w7.drew = w') (by kernel_rfl) (by kernel_rfl) (rfl) ?_; intro _; (repeat (first | go_big_quiet_step ((fail)) | quiet_step ((fail)))); refine wpQuiet_nil ?_; intro wz hz)
                subst hz
                clear m1 m2
                go_wp2_with (fail)
                go_roundw
                case rel => exact ⟨j + 1 + 1, by omega, by go_num, S9⟩
                case measure => simp [intOf]; omega
              · obtain rfl : k = 0 := by omega
                clear q2
                (refine region_class (fun w' => w7.drew = w') (by kernel_rfl) (by kernel_rfl) (rfl) ?_; intro _; (repeat (first | go_big_quiet_step ((fail)) | quiet_step ((fail)))); refine wpQuiet_nil ?_; intro wz hz)
                subst hz
                go_wp2_with (fail)
                go_roundw
                case rel => exact ⟨1, by omega, by go_num, S9⟩
                case measure => simp [intOf]; omega
            · obtain rfl : PL.length = k := by omega
              go_wp2_with (fail)
              go_ret
              exact ⟨rfl, Sat.ends (S6.right.right.right.right.emp.perm (star_comm _ _))⟩

end Go.Proofs.Ytoiiblajgkdabaa
