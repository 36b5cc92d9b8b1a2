/- Part 19 of the proofs: LawMmuSwaps. -/
import Derived.Test.YteehghjdifbjbaaQ18
import Derived.Test.YteehghjdifbjbaaQ17
import Derived.Test.YteehghjdifbjbaaQ10
import Derived.Deep.CutBlock
namespace Go.Proofs.Yteehghjdifbjbaa
set_option linter.unusedSimpArgs false
set_option linter.unusedVariables false
set_option maxRecDepth 100000
open Go.RowKit
set_option maxHeartbeats 8000000

/-- The words that are wanted. -/
structure WantIn (w : World) (b : Nat) (W : Nat → Int) : Prop where
  c : ∀ i, i < 48 → w.cell? ⟨b, i, none⟩ = some (.int .u64 (W i))
  f : ∀ i, i < 48 → w.frozen? ⟨b, i, none⟩ = false
  lt : b < w.heap.size
def wantP (b : Nat) (W : Nat → Int) : HP := ownP (fun k => k = b) (fun w => WantIn w b W)
theorem loc_want (b : Nat) (W : Nat → Int) : Loc (fun k => k = b) (fun w => WantIn w b W) := fun _ _ h e =>
  ⟨fun i hi => (cell_of_heap (e b rfl) _).trans (h.c i hi), fun i hi => (frozen_of_heap (e b rfl) _).trans (h.f i hi), heap_size (e b rfl) h.lt⟩
theorem Sat.want {g w : World} {b : Nat} {W : Nat → Int} {R : HP} (h : Sat g w (wantP b W * R)) : WantIn w b W := Sat.inv h
theorem Sat.want_set {g w : World} {b : Nat} {W : Nat → Int} {R : HP} (h : Sat g w (wantP b W * R)) (i : Nat) (hi : i < 48) (v : Int) : Sat g (w.setCell ⟨b, i, none⟩ (.int .u64 v)) (wantP b (setW W i v) * R) := by
  have hw := h.want
  refine h.touch (Touch.setCell (S := (· = b)) (Touch.refl _ _) (Or.inl rfl) _) ⟨fun j hj => ?_, fun j hj => ?_, by simpa using hw.lt⟩ (loc_want _ _) (fun k hk => Or.inl hk) (fun k hk => by rw [hk]; simpa using hw.lt)
  · by_cases e : j = i
    · subst e
      rw [setW_same]
      exact World.cell?_setCell_same' _ _ _ (by rw [hw.c j hj]; rfl)
    · have e' : ¬ i = j := fun h => e h.symm
      rw [setW_ne _ _ e]
      simp [go_sem, e', hw.c j hj]
  · rw [World.frozen?_setCell]; exact hw.f j hj

theorem want_new (w : World) : WantIn (w.alloc (.cells #[.int .u64 0, .int .u64 0, .int .u64 0, .int .u64 0, .int .u64 0, .int .u64 0, .int .u64 0, .int .u64 0, .int .u64 0, .int .u64 0, .int .u64 0, .int .u64 0, .int .u64 0, .int .u64 0, .int .u64 0, .int .u64 0, .int .u64 0, .int .u64 0, .int .u64 0, .int .u64 0, .int .u64 0, .int .u64 0, .int .u64 0, .int .u64 0, .int .u64 0, .int .u64 0, .int .u64 0, .int .u64 0, .int .u64 0, .int .u64 0, .int .u64 0, .int .u64 0, .int .u64 0, .int .u64 0, .int .u64 0, .int .u64 0, .int .u64 0, .int .u64 0, .int .u64 0, .int .u64 0, .int .u64 0, .int .u64 0, .int .u64 0, .int .u64 0, .int .u64 0, .int .u64 0, .int .u64 0, .int .u64 0] 81)) w.heap.size (fun _ => 0) := by
  have hc : ∀ i, i < 48 → (w.alloc (.cells #[.int .u64 0, .int .u64 0, .int .u64 0, .int .u64 0, .int .u64 0, .int .u64 0, .int .u64 0, .int .u64 0, .int .u64 0, .int .u64 0, .int .u64 0, .int .u64 0, .int .u64 0, .int .u64 0, .int .u64 0, .int .u64 0, .int .u64 0, .int .u64 0, .int .u64 0, .int .u64 0, .int .u64 0, .int .u64 0, .int .u64 0, .int .u64 0, .int .u64 0, .int .u64 0, .int .u64 0, .int .u64 0, .int .u64 0, .int .u64 0, .int .u64 0, .int .u64 0, .int .u64 0, .int .u64 0, .int .u64 0, .int .u64 0, .int .u64 0, .int .u64 0, .int .u64 0, .int .u64 0, .int .u64 0, .int .u64 0, .int .u64 0, .int .u64 0, .int .u64 0, .int .u64 0, .int .u64 0, .int .u64 0] 81)).cell? ⟨w.heap.size, i, none⟩ = some (.int .u64 0) := fun i hi => by
    rw [World.cell?_alloc_at _ _ _ _ rfl]
    have e : (#[Value.int .u64 0, Value.int .u64 0, Value.int .u64 0, Value.int .u64 0, Value.int .u64 0, Value.int .u64 0, Value.int .u64 0, Value.int .u64 0, Value.int .u64 0, Value.int .u64 0, Value.int .u64 0, Value.int .u64 0, Value.int .u64 0, Value.int .u64 0, Value.int .u64 0, Value.int .u64 0, Value.int .u64 0, Value.int .u64 0, Value.int .u64 0, Value.int .u64 0, Value.int .u64 0, Value.int .u64 0, Value.int .u64 0, Value.int .u64 0, Value.int .u64 0, Value.int .u64 0, Value.int .u64 0, Value.int .u64 0, Value.int .u64 0, Value.int .u64 0, Value.int .u64 0, Value.int .u64 0, Value.int .u64 0, Value.int .u64 0, Value.int .u64 0, Value.int .u64 0, Value.int .u64 0, Value.int .u64 0, Value.int .u64 0, Value.int .u64 0, Value.int .u64 0, Value.int .u64 0, Value.int .u64 0, Value.int .u64 0, Value.int .u64 0, Value.int .u64 0, Value.int .u64 0, Value.int .u64 0] : Array Value) = Array.replicate 48 (Value.int .u64 0) := rfl
    show (#[Value.int .u64 0, Value.int .u64 0, Value.int .u64 0, Value.int .u64 0, Value.int .u64 0, Value.int .u64 0, Value.int .u64 0, Value.int .u64 0, Value.int .u64 0, Value.int .u64 0, Value.int .u64 0, Value.int .u64 0, Value.int .u64 0, Value.int .u64 0, Value.int .u64 0, Value.int .u64 0, Value.int .u64 0, Value.int .u64 0, Value.int .u64 0, Value.int .u64 0, Value.int .u64 0, Value.int .u64 0, Value.int .u64 0, Value.int .u64 0, Value.int .u64 0, Value.int .u64 0, Value.int .u64 0, Value.int .u64 0, Value.int .u64 0, Value.int .u64 0, Value.int .u64 0, Value.int .u64 0, Value.int .u64 0, Value.int .u64 0, Value.int .u64 0, Value.int .u64 0, Value.int .u64 0, Value.int .u64 0, Value.int .u64 0, Value.int .u64 0, Value.int .u64 0, Value.int .u64 0, Value.int .u64 0, Value.int .u64 0, Value.int .u64 0, Value.int .u64 0, Value.int .u64 0, Value.int .u64 0] : Array Value)[i]? = _
    rw [e]
    simp [hi]
  exact ⟨hc, fun i hi => by simp [go_sem], by simp⟩
/-- Between two rounds. -/
def SwSt (g : World) (t1 t2 : Tree) (oth pm pl pu pn : Nat) (R : HP) (wx : World) : Prop := ∃ M L W rt a, SwIn t1 t2 oth M L W ∧ Sat g wx (unitP pu pm pl rt a * (memP pm 64 M * (tlbP pl L * (wantP pn W * R))))
/-- One has been chosen. -/
def SwCh (g : World) (t1 t2 : Tree) (oth pm pl pu pn : Nat) (R : HP) (t : Tree) (a : Int) (f : Nat) (wx : World) : Prop := ∃ M L W, SwIn t1 t2 oth M L W ∧ Chosen t1 t2 oth t a f ∧ Sat g wx (unitP pu pm pl t.root a * (memP pm 64 M * (tlbP pl L * (wantP pn W * R))))

theorem swaps11_walk (a : Option Addr) (len cap : Nat) (L : Nat → Op11) (sh : Bool) (g : World) (hL : Ops11 g a len L) (hm : len ≤ 9223372036854775807) (hok : ∀ i, i < len → 0 ≤ (L i).x ∧ (L i).x < 18446744073709551616) :
    Calls Try.prog 4 #[.slice a len cap, .bool sh] g fun e w' => e = .returned (.bool true) ∧ Below g.heap.size g w' := by
  go_enter Try.func4, Try.ntmps4
  go_wp2_with (fail)
  refine (s_awake g _ _ (Sat.start g)).mono ?_
  rintro e w1 ⟨rfl, S1⟩
  go_wp2_with (fail)
  refine (s_memnew 64 g _ _ S1 (by omega) (by omega)).mono ?_
  rintro e w2 ⟨pm, rfl, S2⟩
  clear S1
  go_wp2_with (fail)
  refine (s_budnew pm 64 32 (fun _ => 0) g _ _ S2 (by omega)).mono ?_
  rintro e w3 ⟨pb, rfl, S3⟩
  clear S2
  go_wp2_with (fail)
  refine (s_newT pm pb 32 64 (rangeT 32 64) [] (fun _ => 0) g _ (whole g) S3 (inv_new 32 64) (fun _ _ _ _ _ => rfl) (by omega)).mono ?_
  rintro e w4 (⟨_, hno, _⟩ | ⟨ps, c1, rfl, hc1, S4⟩)
  · exact absurd hno (range_some (by omega))
  replace S4 : SpSt g ps pm pb 32 64 (emptyT c1) (minusQ (rangeT 32 64) c1 0) [((c1 : Int), (0 : Int))] (fun _ => 0) (whole g) w4 := S4
  have HC1 := Lib.hid hc1
  have S4s : Sat g w4 (midP pb pm (minusQ (rangeT 32 64) c1 0) [((c1 : Int), (0 : Int))] * (memP pm 64 (fun _ => 0) * (spP ps pm pb c1 * whole g))) := S4.sat.perm (by show spP ps pm pb c1 * _ = _; ac_rfl)
  have HI1 := Lib.hid (And.intro S4.inv S4.zero)
  have HT1 := Lib.hid S4.tree
  clear S3 S4 hc1
  go_wp2_with (fail)
  refine (s_newT pm pb 32 64 _ _ (fun _ => 0) g _ _ S4s HI1.out.1 HI1.out.2 (by omega)).mono ?_
  rintro e w5 (⟨_, hno, _⟩ | ⟨pt, c2, rfl, hc2, S5⟩)
  · exfalso
    obtain ⟨x, x1, x2, x3, _⟩ := pick c1 c1 c1 c1 32
    exact hno x (minus0.2 ⟨⟨by omega, by omega⟩, x3⟩)
  replace S5 : SpSt g pt pm pb 32 64 (emptyT c2) (minusQ (minusQ (rangeT 32 64) c1 0) c2 0) [((c1 : Int), (0 : Int)), ((c2 : Int), (0 : Int))] (fun _ => 0) (spP ps pm pb c1 * whole g) w5 := S5
  have hcnt := cnt_start HC1.out hc2
  have hn12 : c1 ≠ c2 := fun e => (minus0.1 hc2.free).2 e.symm
  have HN := Lib.hid (And.intro hcnt hn12)
  have HI2 := Lib.hid (And.intro S5.inv S5.zero)
  have HT2 := Lib.hid S5.tree
  have S5s := S5.sat
  clear S5 hc2 hcnt hn12 S4s HI1
  go_wp2_with (fail)
  refine (s_tlbnew g _ _ S5s).mono ?_
  rintro e w6 ⟨pl, rfl, S6⟩
  clear S5s
  go_wp2_with (fail)
  refine (s_mmunew pm pl g _ _ S6).mono ?_
  rintro e w7 ⟨pu, rfl, S7⟩
  clear S6
  by_cases h40 : 40 < len
  · have h40' : (40 : Int) < (len : Int) := by omega
    have HB := Lib.hid (Sat.ends (S7.right.right.right.right.right.right.emp.perm (star_comm _ _)))
    clear S7 h40 hL hok
    go_wp2_with (fail)
    go_ret
    exact ⟨rfl, HB.out⟩
  · have h40' : ¬ (40 : Int) < (len : Int) := by omega
    obtain ⟨oth, hoth⟩ : ∃ oth : Nat, oth = if sh then 1 else 2 := ⟨_, rfl⟩
    have ho12 : oth = 1 ∨ oth = 2 := by rw [hoth]; cases sh <;> simp
    have HO := Lib.hid hoth
    clear hoth
    go_upto_if 82 with (fail)
    go_cut [17] (fun v wx => v = .int .i64 oth ∧ wx = w7)
    case first =>
      cases sh
      · go_wp2_with (fail)
        go_meet
        exact ⟨by rw [HO.out]; rfl, rfl⟩
      · go_wp2_with (fail)
        go_meet
        exact ⟨by rw [HO.out]; rfl, rfl⟩
    case rest =>
    obtain ⟨rfl, rfl⟩ := hcut
    have A1 : SpSt g ps pm pb 32 64 (emptyT c1) (minusQ (minusQ (rangeT 32 64) c1 0) c2 0) [((c1 : Int), (0 : Int)), ((c2 : Int), (0 : Int))] (fun _ => 0) (spP pt pm pb c2 * (tlbP pl L0 * (unitP pu pm pl 0 0 * whole g))) wc := by
      refine ⟨HT1.out, HI2.out.1, HI2.out.2, fun f hf => ?_, by omega, S7.perm (by show _ * (_ * (spP pt pm pb c2 * _)) = spP ps pm pb c1 * _; unfold L0; ac_rfl)⟩
      rcases hf with h | ⟨i, h⟩ | ⟨i, h⟩
      · rw [h]; exact List.mem_cons_self
      · cases h
      · cases h
    have HH1 := Lib.hid A1.held
    clear S7
    go_wp2_with (fail)
    refine (s_mapT g ps pm pb 32 64 _ _ _ _ _ wc 7 1 true A1).mono ?_
    intro e w8 hp
    cases hp with
    | no k hk hbad he hs =>
      exfalso
      rcases hbad with ⟨_, h1⟩ | ⟨_, q, x, _, h1⟩ | ⟨_, q, _, _, h1⟩
      · exact h1 ⟨⟨by omega, by omega⟩, ⟨by omega, by omega⟩⟩
      · cases h1
      · rw [HN.out.1] at h1
        have := need_le (emptyT c1) q
        omega
    | ok q f t1 T3 H3 M3 hp hf hq hx ha hpg he S8 =>
    obtain rfl : q = 7 := by omega
    obtain rfl : f = 1 := by omega
    subst he
    have hne2 : ¬ isTab (emptyT c1) c2 := fun h => by
      rcases h with h | ⟨i, h⟩ | ⟨i, h⟩
      · exact HN.out.2 h.symm
      · cases h
      · cases h
    have hnT2 : ¬ minusQ (minusQ (rangeT 32 64) c1 0) c2 0 c2 := fun h => (minus0.1 h).2 rfl
    have A2 : SpSt g pt pm pb 32 64 (emptyT c2) T3 H3 M3 (spP ps pm pb t1.root * (tlbP pl L0 * (unitP pu pm pl 0 0 * whole g))) w8 := by
      refine ⟨⟨HT2.out.w.congr (fun f hf k hk => ?_), fun i f hf => (by cases hf), fun i f hf => (by cases hf)⟩, S8.inv, S8.zero, fun f hf => ?_, by omega, S8.sat.perm (by show _ = spP pt pm pb c2 * _; ac_rfl)⟩
      · rcases hf with h | ⟨i, h⟩ | ⟨i, h⟩
        · rw [h]; exact ha.ap.words c2 hne2 hnT2 k hk
        · cases h
        · cases h
      · rcases hf with h | ⟨i, h⟩ | ⟨i, h⟩
        · rw [h]
          refine ha.ap.given _ (List.mem_cons_of_mem _ List.mem_cons_self) (fun f hf e => hne2 ?_)
          have e5 : (c2 : Int) = (f : Int) := congrArg Prod.fst e
          have e6 : c2 = f := by omega
          rw [e6]; exact hf
        · cases h
        · cases h
    have hroom := room_two ha rfl (fun p hp => by rw [hpg, updF_ne _ _ hp]; rfl)
    have HA := Lib.hid (And.intro ha (And.intro hpg hroom))
    have HH2 := Lib.hid A2.held
    clear A1 S8 ha hpg hp hf hx hq hroom
    go_wp2_with (fail)
    refine (s_mapT g pt pm pb 32 64 _ _ _ _ _ w8 7 oth true A2).mono ?_
    intro e w9 hp
    cases hp with
    | no k hk hbad he hs =>
      exfalso
      rcases hbad with ⟨_, h1⟩ | ⟨_, q, x, _, h1⟩ | ⟨_, q, _, _, h1⟩
      · exact h1 ⟨⟨by omega, by omega⟩, ⟨by omega, by omega⟩⟩
      · cases h1
      · have := need_le (emptyT c2) q
        have := HA.out.2.2
        omega
    | ok q f t2 T4 H4 M4 hp hf hq hx ha2 hpg2 he S9 =>
    obtain rfl : q = 7 := by omega
    obtain rfl : oth = f := by omega
    subst he
    have hsw := sw_start HN.out.2 hnT2 HH1.out HI2.out.1 HA.out.1 HA.out.2.1 HH2.out ha2 hpg2 ho12
    have hr1 : t1.root < 64 := hsw.w1.lr
    have hr2 : t2.root < 64 := hsw.w2.lr
    have S10 : Sat g w9 (unitP pu pm pl 0 0 * (memP pm 64 M4 * (tlbP pl L0 * (spP ps pm pb t1.root * (spP pt pm pb t2.root * whole g))))) := (S9.sat.perm (show _ = midP pb pm T4 H4 * (unitP pu pm pl 0 0 * (memP pm 64 M4 * (tlbP pl L0 * (spP ps pm pb t1.root * (spP pt pm pb t2.root * whole g))))) by ac_rfl)).right
    have HSW := Lib.hid hsw
    clear A2 S9 ha2 hpg2 hp hf hx hq HA HH2 HH1 HI2 HN HT1 HT2 HC1 hne2 hnT2 hsw
    go_upto_region 16 with (fail)
    obtain ⟨pn, hpn⟩ : ∃ pn, pn = w9.heap.size := ⟨_, rfl⟩
    have S11 := Sat.new (g := g) (h := S10) (w' := w9.alloc (.cells #[.int .u64 0, .int .u64 0, .int .u64 0, .int .u64 0, .int .u64 0, .int .u64 0, .int .u64 0, .int .u64 0, .int .u64 0, .int .u64 0, .int .u64 0, .int .u64 0, .int .u64 0, .int .u64 0, .int .u64 0, .int .u64 0, .int .u64 0, .int .u64 0, .int .u64 0, .int .u64 0, .int .u64 0, .int .u64 0, .int .u64 0, .int .u64 0, .int .u64 0, .int .u64 0, .int .u64 0, .int .u64 0, .int .u64 0, .int .u64 0, .int .u64 0, .int .u64 0, .int .u64 0, .int .u64 0, .int .u64 0, .int .u64 0, .int .u64 0, .int .u64 0, .int .u64 0, .int .u64 0, .int .u64 0, .int .u64 0, .int .u64 0, .int .u64 0, .int .u64 0, .int .u64 0, .int .u64 0, .int .u64 0] 81)) (by repeat (first | with_reducible exact Below.refl _ _ | with_reducible assumption | with_reducible refine below_drewN ?_ _ | with_reducible refine Below.alloc ?_ (by simp <;> omega) _)) (want_new w9) (loc_want _ _) (fun k hk => by rw [hk]; exact Nat.le_refl _) (fun k hk => by rw [hk]; simp)
    obtain ⟨wa, hwa⟩ : ∃ wa, wa = w9.alloc (.cells #[.int .u64 0, .int .u64 0, .int .u64 0, .int .u64 0, .int .u64 0, .int .u64 0, .int .u64 0, .int .u64 0, .int .u64 0, .int .u64 0, .int .u64 0, .int .u64 0, .int .u64 0, .int .u64 0, .int .u64 0, .int .u64 0, .int .u64 0, .int .u64 0, .int .u64 0, .int .u64 0, .int .u64 0, .int .u64 0, .int .u64 0, .int .u64 0, .int .u64 0, .int .u64 0, .int .u64 0, .int .u64 0, .int .u64 0, .int .u64 0, .int .u64 0, .int .u64 0, .int .u64 0, .int .u64 0, .int .u64 0, .int .u64 0, .int .u64 0, .int .u64 0, .int .u64 0, .int .u64 0, .int .u64 0, .int .u64 0, .int .u64 0, .int .u64 0, .int .u64 0, .int .u64 0, .int .u64 0, .int .u64 0] 81) := ⟨_, rfl⟩
    rw [← hwa, ← hpn] at S11
    rw [← hwa, ← hpn]
    clear hwa hpn S10
    obtain ⟨RR, hRR⟩ : ∃ RR : HP, RR = spP ps pm pb t1.root * (spP pt pm pb t2.root * whole g) := ⟨_, rfl⟩
    have B1 : SwSt g t1 t2 oth pm pl pu pn RR wa := ⟨M4, L0, fun _ => 0, 0, 0, HSW.out, by rw [hRR]; exact S11.perm (by show wantP pn _ * _ = _; ac_rfl)⟩
    have HEND : Hid (∀ w', SwSt g t1 t2 oth pm pl pu pn RR w' → Below g.heap.size g w') := Lib.hid fun w' ⟨_, _, _, _, _, _, h⟩ => by
      rw [hRR] at h
      exact Sat.ends (h.right.right.right.right.right.right.emp.perm (star_comm _ _))
    have HRT : Hid (∀ w' A, Sat g w' (A * RR) → Calls Try.prog 35 #[.pointer (some ⟨ps, 0, none⟩)] w' (fun e w'' => e = .returned (.int .i64 t1.root) ∧ w' = w'') ∧ Calls Try.prog 35 #[.pointer (some ⟨pt, 0, none⟩)] w' (fun e w'' => e = .returned (.int .i64 t2.root) ∧ w' = w'')) := Lib.hid fun w' A h => by
      rw [hRR] at h
      exact ⟨s_root ps pm pb t1.root g w' (A * (spP pt pm pb t2.root * whole g)) (h.perm (by ac_rfl)), s_root pt pm pb t2.root g w' (A * (spP ps pm pb t1.root * whole g)) (h.perm (by ac_rfl))⟩
    clear S11 hRR
    go_wp2_with (fail)
    go_loopw [19] (fun i wr => ∃ k : Nat, k ≤ len ∧ i = .int .i64 k ∧ SwSt g t1 t2 oth pm pl pu pn RR wr) (fun i _ => len - (intOf i).toNat)
    case atStart => exact ⟨0, by omega, rfl, B1⟩
    case round =>
      obtain ⟨k, hk, rfl, B3⟩ := hrel
      clear B1
      by_cases hkl : k < len
      · have i1 : (k : Int) < len := by omega
        have hk1 : k + 1 ≤ len := hkl
        rcases hL with h0 | ⟨b, off, rfl, hb, hcells⟩
        · omega
        have hold : wr.heap[b]? = g.heap[b]? := (HEND.out _ B3).block b hb
        have hop := (hcells k hkl).heap hold
        have hox := hok k hkl
        obtain ⟨o, ho⟩ : ∃ o, o = L k := ⟨_, rfl⟩
        rw [← ho] at hop hox
        obtain ⟨hx0, hx1⟩ := hox
        have o0 := hop.c0; have o1 := hop.c1; have o2 := hop.c2; have o3 := hop.c3; have o4 := hop.c4; have o5 := hop.c5; have o6 := hop.c6; have o7 := hop.c7; have o8 := hop.c8; have o9 := hop.c9
        clear hcells ho hop hold
        go_upto_region 20 with (fail)
        obtain ⟨bo, hbo⟩ : ∃ bo, bo = wr.heap.size := ⟨_, rfl⟩
        have hopn := op_new wr o 51
        have B4 : SwSt g t1 t2 oth pm pl pu pn (opP bo o * RR) (wr.alloc (.cells #[.int .i64 o.d, .int .i64 o.addr, .int .i64 o.at_, .int .i64 o.fr, .int .i64 o.pl, .int .u64 o.x, .bool o.ev, .bool o.ew, .bool o.et, .int .i64 o.ef] 51)) := by
          obtain ⟨M, L, W, rt, as_, h1, h2⟩ := B3
          have S3 := Sat.new (g := g) (h := h2) (w' := wr.alloc (.cells #[.int .i64 o.d, .int .i64 o.addr, .int .i64 o.at_, .int .i64 o.fr, .int .i64 o.pl, .int .u64 o.x, .bool o.ev, .bool o.ew, .bool o.et, .int .i64 o.ef] 51)) (by repeat (first | with_reducible exact Below.refl _ _ | with_reducible assumption | with_reducible refine below_drewN ?_ _ | with_reducible refine Below.alloc ?_ (by simp <;> omega) _)) hopn (loc_op _ _) (fun k hk => by rw [hk]; exact Nat.le_refl _) (fun k hk => by rw [hk]; simp)
          refine ⟨M, L, W, rt, as_, h1, ?_⟩
          rw [hbo]
          exact S3.perm (by unfold opP; ac_rfl)
        obtain ⟨wb, hwb⟩ : ∃ wb, wb = wr.alloc (.cells #[.int .i64 o.d, .int .i64 o.addr, .int .i64 o.at_, .int .i64 o.fr, .int .i64 o.pl, .int .u64 o.x, .bool o.ev, .bool o.ew, .bool o.et, .int .i64 o.ef] 51) := ⟨_, rfl⟩
        rw [← hwb] at B4 ⊢
        rw [← hbo]
        clear hopn hwb hbo B3 o0 o1 o2 o3 o4 o5 o6 o7 o8 o9
        obtain ⟨od, oa, ot, of_, op, ox, oev, oew, oet, oef⟩ := o
        simp only at hx0 hx1
        have hcl : ∀ w', Sat g w' (opP bo ⟨od, oa, ot, of_, op, ox, oev, oew, oet, oef⟩ * RR) → w'.cell? ⟨bo, 0, none⟩ = some (.int .i64 od) ∧ w'.cell? ⟨bo, 1, none⟩ = some (.int .i64 oa) ∧ w'.cell? ⟨bo, 2, none⟩ = some (.int .i64 ot) ∧ w'.cell? ⟨bo, 5, none⟩ = some (.int .u64 ox) := fun w' h => by
          have ho : OpAt w' bo 0 ⟨od, oa, ot, of_, op, ox, oev, oew, oet, oef⟩ := h.inv
          exact ⟨ho.c0, ho.c1, ho.c2, ho.c5⟩
        have HCL := Lib.hid hcl
        clear hcl
        -- the place and the line
        obtain ⟨pk, hpk⟩ : ∃ pk : Nat, (pk : Int) = oa % 16 := ⟨(oa % 16).toNat, by omega⟩
        obtain ⟨pt7, hp7⟩ : ∃ p7 : Nat, (p7 : Int) = ot % 8 := ⟨(ot % 8).toNat, by omega⟩
        have hpk16 : pk < 16 := by omega
        have hp78 : pt7 < 8 := by omega
        have b1 : bits .and .i64 oa 15 = (pk : Int) := by rw [i64_and15, hpk]
        have b2 : bits .and .i64 ot 7 = (pt7 : Int) := by rw [i64_and7, hp7]
        have wr1 : IntKind.i64.wrap (112 + (pk : Int)) = 112 + (pk : Int) := IntWalk.i64_in _ ⟨by omega, by omega⟩
        have hc112 : ((112 + pk : Nat) : Int) = 112 + (pk : Int) := by omega
        have hq7 : (112 + pk) / 16 = 7 := by omega
        have hm7 : (112 + pk) % 16 = pk := by omega
        have HCC := Lib.hid (And.intro hc112 (And.intro hq7 hm7))
        clear hpk hp7 hc112 hq7 hm7
        obtain ⟨M, L0', W, rt, as_, hsw, S5⟩ := B4
        obtain ⟨o0, o1, o2, o5⟩ := HCL.out _ S5.right.right.right.right
        have HS5 := Lib.hid hsw
        have hu1 : useB 64 t1.root 1 = true := by simp [useB, hasB]; omega
        have hu2 : useB 64 t2.root 2 = true := by simp [useB, hasB]; omega
        have HU := Lib.hid (And.intro hu1 hu2)
        clear hsw hu1 hu2
        go_upto_if 108 with (fail)
        go_cut [22] (fun v wx => ∃ t a f, v = .int .i64 ((f : Nat) : Int) ∧ SwCh g t1 t2 oth pm pl pu pn (opP bo ⟨od, oa, ot, of_, op, ox, oev, oew, oet, oef⟩ * RR) t a f wx)
        case first =>
          by_cases h5 : ox % 2 = 1
          · have e5 : (ox % 2 == 1) = true := by simp [h5]
            clear h5
            go_wp2_with (fail)
            with_reducible refine ((HRT.out _ _ (S5.perm (show _ = (unitP pu pm pl rt as_ * (memP pm 64 M * (tlbP pl L0' * (wantP pn W * opP bo ⟨od, oa, ot, of_, op, ox, oev, oew, oet, oef⟩)))) * RR by ac_rfl))).2).mono ?_
            rintro e w3 ⟨rfl, rfl⟩
            go_wp2_with (fail)
            with_reducible refine (s_use pu pm pl 64 rt as_ t2.root 2 M g _ _ S5).mono ?_
            rintro e w4 ⟨rfl, S6⟩
            rw [HU.out.2] at S6 ⊢
            simp only [if_true] at S6 ⊢
            go_wp2_with (fail)
            go_meet
            exact ⟨t2, 2, oth, rfl, M, L0', W, HS5.out, Or.inr ⟨rfl, rfl, rfl⟩, S6⟩
          · have e5 : (ox % 2 == 1) = false := by rw [beq_eq_false_iff_ne]; exact h5
            clear h5
            go_wp2_with (fail)
            with_reducible refine ((HRT.out _ _ (S5.perm (show _ = (unitP pu pm pl rt as_ * (memP pm 64 M * (tlbP pl L0' * (wantP pn W * opP bo ⟨od, oa, ot, of_, op, ox, oev, oew, oet, oef⟩)))) * RR by ac_rfl))).1).mono ?_
            rintro e w3 ⟨rfl, rfl⟩
            go_wp2_with (fail)
            with_reducible refine (s_use pu pm pl 64 rt as_ t1.root 1 M g _ _ S5).mono ?_
            rintro e w4 ⟨rfl, S6⟩
            rw [HU.out.1] at S6 ⊢
            simp only [if_true] at S6 ⊢
            go_wp2_with (fail)
            go_meet
            exact ⟨t1, 1, 1, rfl, M, L0', W, HS5.out, Or.inl ⟨rfl, rfl, rfl⟩, S6⟩
        case rest =>
        obtain ⟨t, a_, f, rfl, M2, L2, W2, hsw2, hch, S6⟩ := hcut
        clear S5 HS5 o0 o1 o2 o5
        obtain ⟨o0, o1, o2, o5⟩ := HCL.out _ S6.right.right.right.right
        have hcho := hsw2.chosen hch
        have ha18 : 1 ≤ a_ ∧ a_ ≤ 8 := by rcases hcho.2.2.2.1 with h | h <;> omega
        have hf12 : f = 1 ∨ f = 2 := hcho.2.2.2.2
        have HCH := Lib.hid (And.intro hcho hch)
        have HSW2 := Lib.hid hsw2
        clear hcho hch hsw2
        go_upto_if 120 with (fail)
        go_cut [] (fun wx => SwCh g t1 t2 oth pm pl pu pn (opP bo ⟨od, oa, ot, of_, op, ox, oev, oew, oet, oef⟩ * RR) t a_ f wx)
        case first =>
          by_cases h3 : od < 3
          · have hst := s_storeT pu pm pl 64 t a_ M2 L2 (112 + pk) ox pt7 g _ _ S6 HCH.out.1.1 (by omega) HCH.out.1.2.2.1 (by omega) ha18.1 ha18.2 (by omega) (by omega) hx0 hx1
            have e1 : seT t.pg (112 + pk) = 0 := by unfold seT; rw [HCC.out.2.1, HCH.out.1.2.1]; rfl
            have e2 : swT t.pg M2 (112 + pk) ox = setW M2 (16 * f + pk) ox := by unfold swT; rw [HCC.out.2.1, HCC.out.2.2, HCH.out.1.2.1]; rfl
            have S7 := HSW2.out.tlb HCH.out.2 (112 + pk) HCC.out.2.1 pt7
            rw [e1, e2] at hst
            generalize fTlb 64 M2 L2 t.root a_ ((112 + pk : Nat) : Int) (pt7 : Int) = L3 at hst S7
            rw [HCC.out.1] at hst
            have S8 := Lib.hid (S7.set hf12 hpk16 ox)
            have HST := Lib.hid hst
            clear hst e1 e2 S7
            go_wp2_with (fail)
            with_reducible refine HST.out.mono ?_
            rintro e w5 ⟨rfl, S9⟩
            clear HST
            rcases hf12 with rfl | rfl
            · as_aux_lemma =>
              have S10 := S9.drew
              obtain ⟨-, -, -, o5⟩ := HCL.out _ S10.right.right.right.right
              have hw := (S10.right.right.right).want
              have m5 : ∀ z : Wc (fun w' => w5.drew = w'), z.w.cell? ⟨bo, 5, none⟩ = some (.int .u64 ox) := fun z => by rw [← z.h]; exact o5
              go_upto_region 29 with (fail)
              (refine region_tail (fun w' => w5.drew = w') 6 (by kernel_rfl) (by kernel_rfl) (rfl) ?_; intro _; simp only [List.take_succ_cons, List.take_zero, List.drop_succ_cons, List.drop_zero]; (repeat (first | go_big_quiet_step ((fail)) | quiet_step ((fail)))); refine wpQuiet_nil ?_; intro wz hz)
              subst hz
              clear m5
              have k1 := hw.c (16 * 1 + pk) (by omega)
              have k2 := hw.f (16 * 1 + pk) (by omega)
              have S11 := (S10.perm (show _ = wantP pn W2 * (unitP pu pm pl t.root a_ * (memP pm 64 (setW M2 (16 * 1 + pk) ox) * (tlbP pl L3 * (opP bo ⟨od, oa, ot, of_, op, ox, oev, oew, oet, oef⟩ * RR)))) by ac_rfl)).want_set (16 * 1 + pk) (by omega) ox
              have HS := Lib.hid S11
              clear S9 S10 S11 hw o5
              go_wp2_with (fail)
              go_meet
              exact ⟨_, L3, _, S8.out, HCH.out.2, HS.out.perm (by ac_rfl)⟩
            · as_aux_lemma =>
              have S10 := S9.drew
              obtain ⟨-, -, -, o5⟩ := HCL.out _ S10.right.right.right.right
              have hw := (S10.right.right.right).want
              have m5 : ∀ z : Wc (fun w' => w5.drew = w'), z.w.cell? ⟨bo, 5, none⟩ = some (.int .u64 ox) := fun z => by rw [← z.h]; exact o5
              go_upto_region 29 with (fail)
              (refine region_tail (fun w' => w5.drew = w') 6 (by kernel_rfl) (by kernel_rfl) (rfl) ?_; intro _; simp only [List.take_succ_cons, List.take_zero, List.drop_succ_cons, List.drop_zero]; (repeat (first | go_big_quiet_step ((fail)) | quiet_step ((fail)))); refine wpQuiet_nil ?_; intro wz hz)
              subst hz
              clear m5
              have k1 := hw.c (16 * 2 + pk) (by omega)
              have k2 := hw.f (16 * 2 + pk) (by omega)
              have S11 := (S10.perm (show _ = wantP pn W2 * (unitP pu pm pl t.root a_ * (memP pm 64 (setW M2 (16 * 2 + pk) ox) * (tlbP pl L3 * (opP bo ⟨od, oa, ot, of_, op, ox, oev, oew, oet, oef⟩ * RR)))) by ac_rfl)).want_set (16 * 2 + pk) (by omega) ox
              have HS := Lib.hid S11
              clear S9 S10 S11 hw o5
              go_wp2_with (fail)
              go_meet
              exact ⟨_, L3, _, S8.out, HCH.out.2, HS.out.perm (by ac_rfl)⟩
          · go_wp2_with (fail)
            go_meet
            exact ⟨M2, L2, W2, HSW2.out, HCH.out.2, S6⟩
        case rest =>
        clear S6 HSW2 HCH o0 o1 o2 o5
        obtain ⟨M3, L3, W3, hsw3, hch3, S7⟩ := hcut
        obtain ⟨o0, o1, o2, o5⟩ := HCL.out _ S7.right.right.right.right
        have hcho := hsw3.chosen hch3
        have hld := s_loadT pu pm pl 64 t a_ M3 L3 (112 + pk) pt7 g _ _ S7 hcho.1 (by omega) hcho.2.2.1 (by omega) ha18.1 ha18.2 (by omega) (by omega)
        have e1 : lxT t.pg M3 (112 + pk) = W3 (16 * f + pk) := by unfold lxT; rw [HCC.out.2.1, HCC.out.2.2, hcho.2.1]; exact hsw3.words f pk hf12 hpk16
        have e2 : leT t.pg (112 + pk) = 0 := by unfold leT; rw [HCC.out.2.1, hcho.2.1]
        have S8 := hsw3.tlb hch3 (112 + pk) HCC.out.2.1 pt7
        rw [e1, e2] at hld
        generalize fTlb 64 M3 L3 t.root a_ ((112 + pk : Nat) : Int) (pt7 : Int) = L4 at hld S8
        rw [HCC.out.1] at hld
        have HLD := Lib.hid hld
        have HS8 := Lib.hid S8
        clear hld e1 e2 S8 hcho hsw3 hch3
        go_wp2_with (fail)
        with_reducible refine HLD.out.mono ?_
        rintro e w5 ⟨rfl, S9⟩
        have hw := S9.right.right.right.want
        have B9 : Hid (SwSt g t1 t2 oth pm pl pu pn RR w5) := Lib.hid ⟨M3, L4, W3, _, _, HS8.out, (S9.perm (show _ = opP bo ⟨od, oa, ot, of_, op, ox, oev, oew, oet, oef⟩ * (unitP pu pm pl t.root a_ * (memP pm 64 M3 * (tlbP pl L4 * (wantP pn W3 * RR)))) by ac_rfl)).right⟩
        clear S9 HLD S7 HS8
        rcases hf12 with rfl | rfl
        · have k1 := hw.c (16 * 1 + pk) (by omega)
          clear hw
          go_wp2_with (fail)
          go_roundw
          case rel => exact ⟨k + 1, hk1, by go_num, B9.out⟩
          case measure => simp [intOf]; omega
        · have k1 := hw.c (16 * 2 + pk) (by omega)
          clear hw
          go_wp2_with (fail)
          go_roundw
          case rel => exact ⟨k + 1, hk1, by go_num, B9.out⟩
          case measure => simp [intOf]; omega
      · obtain rfl : len = k := by omega
        have HB := Lib.hid (HEND.out _ B3)
        obtain ⟨M, L0', W, rt, as_, hsw, S5⟩ := B3
        have h2 := Lib.hid hsw.two.lines
        clear hL hok
        go_wp2_with (fail)
        refine (s_lines pl L0' g _ _ (S5.perm (show _ = tlbP pl L0' * (unitP pu pm pl rt as_ * (memP pm 64 M * (wantP pn W * RR))) by ac_rfl))).mono ?_
        rintro e w7 ⟨v, rfl, hown, hb7⟩
        obtain ⟨av, capv, rfl⟩ := own_slice hown
        have hl2 : ((linesK L0' 8).length : Int) ≤ 2 := by have := h2.out; omega
        have HB2 := Lib.hid (HB.out.trans (hb7.mono HB.out.size))
        clear S5 hown hb7 hsw
        go_wp2_with (fail)
        go_ret
        exact ⟨rfl, HB2.out⟩

end Go.Proofs.Yteehghjdifbjbaa
