/- For every list of calls MmuPlays returns true and leaves all memory that was there as it was: by a walk over its text. -/
import Derived.Test.YteehghjdifbjbaaLaw11
import Derived.Deep.CutBlock
namespace Go.Proofs.Yteehghjdifbjbaa
set_option linter.unusedSimpArgs false
set_option linter.unusedVariables false
set_option maxRecDepth 100000
open Go.RowKit
set_option maxHeartbeats 8000000

/-- A call: what is done; address, line, frame, place; a word; an entry. -/
structure Op11 where
  d : Int
  addr : Int
  at_ : Int
  fr : Int
  pl : Int
  x : Int
  ev : Bool
  ew : Bool
  et : Bool
  ef : Int
structure OpAt (w : World) (b off : Nat) (o : Op11) : Prop where
  c0 : w.cell? ⟨b, off, none⟩ = some (.int .i64 o.d)
  c1 : w.cell? ⟨b, off + 1, none⟩ = some (.int .i64 o.addr)
  c2 : w.cell? ⟨b, off + 2, none⟩ = some (.int .i64 o.at_)
  c3 : w.cell? ⟨b, off + 3, none⟩ = some (.int .i64 o.fr)
  c4 : w.cell? ⟨b, off + 4, none⟩ = some (.int .i64 o.pl)
  c5 : w.cell? ⟨b, off + 5, none⟩ = some (.int .u64 o.x)
  c6 : w.cell? ⟨b, off + 6, none⟩ = some (.bool o.ev)
  c7 : w.cell? ⟨b, off + 7, none⟩ = some (.bool o.ew)
  c8 : w.cell? ⟨b, off + 8, none⟩ = some (.bool o.et)
  c9 : w.cell? ⟨b, off + 9, none⟩ = some (.int .i64 o.ef)
theorem OpAt.heap {w w' : World} {b off : Nat} {o : Op11} (h : OpAt w b off o) (e : w'.heap[b]? = w.heap[b]?) : OpAt w' b off o :=
  ⟨(cell_of_heap e _).trans h.c0, (cell_of_heap e _).trans h.c1, (cell_of_heap e _).trans h.c2, (cell_of_heap e _).trans h.c3, (cell_of_heap e _).trans h.c4, (cell_of_heap e _).trans h.c5, (cell_of_heap e _).trans h.c6, (cell_of_heap e _).trans h.c7, (cell_of_heap e _).trans h.c8, (cell_of_heap e _).trans h.c9⟩
def opP (b : Nat) (o : Op11) : HP := ownP (fun k => k = b) (fun w => OpAt w b 0 o)
theorem loc_op (b : Nat) (o : Op11) : Loc (fun k => k = b) (fun w => OpAt w b 0 o) := fun _ _ h e => h.heap (e b rfl)
def Ops11 (w : World) (a : Option Addr) (len : Nat) (L : Nat → Op11) : Prop := len = 0 ∨ ∃ b off, a = some ⟨b, off, none⟩ ∧ b < w.heap.size ∧ ∀ i, i < len → OpAt w b (off + i * 10) (L i)
theorem Sat.inv1 {g w : World} {S : Nat → Prop} {I : World → Prop} (h : Sat g w (ownP S I)) : I w := (h.emp.perm (star_comm _ _)).inv
theorem Sat.flip3 {g w : World} {A B C D E F R : HP} (h : Sat g w (A * (B * (C * (D * (E * (F * R))))))) : Sat g w (D * (E * (F * (A * (B * (C * R)))))) := h.perm (by ac_rfl)

/-- All parts: the unit with its memory and buffer, the reference's, and the rest. -/
def allP (pu pm pb pw prm pr : Nat) (R : HP) (W : Nat → Int) (L : Nat → Option Ln) (rt as_ : Int) : HP :=
  unitP pu pm pb rt as_ * (memP pm 8 W * (tlbP pb L * (unitP pw prm pr rt as_ * (refP prm 8 W * (r09P pr L * R)))))
def CutS (g : World) (pu pm pb pw prm pr : Nat) (R : HP) (s16 : Value) (wx : World) : Prop := ∃ W L rt as_, s16 = .bool true ∧ 0 ≤ as_ ∧ as_ ≤ 8 ∧ Sat g wx (allP pu pm pb pw prm pr R W L rt as_)

/-- The reference's words while the tables are copied. -/
def cpW (i k : Nat) : Nat → Int := fun a => if a < 16 * i + k ∧ (a % 16 < 2) then ptW a else 0
theorem ptW_fine (a : Nat) : ofB (ptW a) = true := by
  unfold ptW setW
  by_cases h1 : a = 33
  · rw [if_pos h1]; decide
  · rw [if_neg h1]
    by_cases h2 : a = 32
    · rw [if_pos h2]; decide
    · rw [if_neg h2]
      by_cases h3 : a = 16
      · rw [if_pos h3]; decide
      · rw [if_neg h3]
        by_cases h4 : a = 0
        · rw [if_pos h4]; decide
        · rw [if_neg h4]; show ofB 0 = true; decide
theorem ptW_zero (a : Nat) (h : ¬ a = 0) (h1 : ¬ a = 16) (h2 : ¬ a = 32) (h3 : ¬ a = 33) : ptW a = 0 := by
  unfold ptW setW; rw [if_neg h3, if_neg h2, if_neg h1, if_neg h]
theorem cp_put (i k : Nat) (hi : i < 3) (hk : k < 2) : putW (cpW i k) 8 i k (gV ptW 8 i k) (gW ptW 8 i k) (gT ptW 8 i k) (gF ptW 8 i k) = cpW i (k + 1) := by
  have hin : inT 8 i k := ⟨by omega, by omega⟩
  have ha : (16 * (i : Int) + (k : Int)).toNat = 16 * i + k := by omega
  have hf := ptW_fine (16 * i + k)
  obtain ⟨h1, h2⟩ := of_right _ hf
  have e1 : gV ptW 8 i k = pV (ptW (16 * i + k)) := by unfold gV oV; rw [ha, hf]; simp [hin]
  have e2 : gW ptW 8 i k = pW (ptW (16 * i + k)) := by unfold gW oW; rw [ha, hf]; simp [hin]
  have e3 : gT ptW 8 i k = pT (ptW (16 * i + k)) := by unfold gT oT; rw [ha, hf]; simp [hin]
  have e4 : gF ptW 8 i k = pF (ptW (16 * i + k)) := by unfold gF oF; rw [ha, hf]; simp [hin]
  rw [e1, e2, e3, e4]
  unfold putW
  rw [if_pos ⟨hin, h1⟩, h2, ha]
  funext a
  unfold setW cpW
  by_cases e : a = 16 * i + k
  · subst e; rw [if_pos rfl, if_pos ⟨by omega, by omega⟩]
  · rw [if_neg e]
    by_cases e2 : a < 16 * i + k ∧ a % 16 < 2
    · rw [if_pos e2, if_pos ⟨by omega, e2.2⟩]
    · rw [if_neg e2, if_neg (by omega)]
theorem cp_row (i : Nat) : cpW i 2 = cpW (i + 1) 0 := by
  funext a
  unfold cpW
  by_cases e : a < 16 * i + 2 ∧ a % 16 < 2
  · rw [if_pos e, if_pos (by omega)]
  · rw [if_neg e, if_neg (by omega)]
theorem cp_start : cpW 0 0 = fun _ => 0 := by funext a; unfold cpW; rw [if_neg (by omega)]
theorem cp_end : cpW 3 0 = ptW := by
  funext a
  unfold cpW
  by_cases e : a < 16 * 3 + 0 ∧ a % 16 < 2
  · rw [if_pos e]
  · rw [if_neg e, ptW_zero] <;> omega

theorem s_get (pm : Nat) (W : Nat → Int) (f p : Int) (g w : World) (R : HP) (h : Sat g w (memP pm 8 W * R)) :
    Calls Try.prog 10 #[.pointer (some ⟨pm, 0, none⟩), .int .i64 f, .int .i64 p] w fun e w' => e = .returned (.tuple #[.agg #[.bool (gV W 8 f p), .bool (gW W 8 f p), .bool (gT W 8 f p), .int .i64 (gF W 8 f p)], .int .i64 (gE W 8 f p)]) ∧ Below w.heap.size w w' := by
  obtain ⟨bk, hm, _, _⟩ := h.mem
  exact get_any pm bk 8 W f p w hm

theorem r9_zero (w : World) (t : TypeId) : R9In (w.alloc (.cells #[.int .i64 0, .int .i64 0, .int .i64 0, .bool false, .int .i64 0, .int .i64 0, .int .i64 0, .bool false, .int .i64 0, .int .i64 0, .int .i64 0, .bool false, .int .i64 0, .int .i64 0, .int .i64 0, .bool false, .int .i64 0, .int .i64 0, .int .i64 0, .bool false, .int .i64 0, .int .i64 0, .int .i64 0, .bool false, .int .i64 0, .int .i64 0, .int .i64 0, .bool false, .int .i64 0, .int .i64 0, .int .i64 0, .bool false, .bool false, .bool false, .bool false, .bool false, .bool false, .bool false, .bool false, .bool false] t)) w.heap.size (fun _ => zeroLn) (fun _ => false) := by
  refine ⟨fun i hi => ?_, fun i hi => ?_, fun i hi => ?_, fun i hi => ?_, fun i hi => ?_, fun i hi => by simp [go_sem], by simp⟩
  all_goals rcases eight hi with h | h | h | h | h | h | h | h <;> subst h <;> simp [go_sem, zeroLn]
theorem L9_zero : L9 (fun _ => zeroLn) (fun _ => false) = L0 := by funext i; rfl
theorem unit_new (w : World) (pm pb : Nat) (t : TypeId) : UnitIn (w.alloc (.cells #[.pointer (some ⟨pm, 0, none⟩), .pointer (some ⟨pb, 0, none⟩), .int .i64 0, .int .i64 0] t)) w.heap.size pm pb 0 0 :=
  ⟨by simp [go_sem], by simp [go_sem], by simp [go_sem], by simp [go_sem], by simp [go_sem], by simp [go_sem], by simp⟩
theorem op_new (w : World) (o : Op11) (t : TypeId) : OpAt (w.alloc (.cells #[.int .i64 o.d, .int .i64 o.addr, .int .i64 o.at_, .int .i64 o.fr, .int .i64 o.pl, .int .u64 o.x, .bool o.ev, .bool o.ew, .bool o.et, .int .i64 o.ef] t)) w.heap.size 0 o :=
  ⟨by simp [go_sem], by simp [go_sem], by simp [go_sem], by simp [go_sem], by simp [go_sem], by simp [go_sem], by simp [go_sem], by simp [go_sem], by simp [go_sem], by simp [go_sem]⟩
theorem s_rlines (pr : Nat) (L : Nat → Option Ln) (g w : World) (R : HP) (h : Sat g w (r09P pr L * R)) : Calls Try.prog 27 #[.pointer (some ⟨pr, 0, none⟩)] w (LinesPost w w.heap.size (linesK L 8)) := by
  obtain ⟨M, I, ht, rfl, _⟩ := h.r09
  exact r09_lines pr M I w ht
theorem cell_lt {w : World} {b o : Nat} {v : Value} (h : w.cell? ⟨b, o, none⟩ = some v) : b < w.heap.size := by
  rcases Nat.lt_or_ge b w.heap.size with h' | h'
  · exact h'
  · exfalso
    have := World.cell?_of_block (w := w) (w' := { w with heap := #[] }) (a := ⟨b, o, none⟩) (by rw [Array.getElem?_eq_none h']; rfl)
    rw [h] at this
    simp [World.cell?] at this
theorem LnsAt.below {w w' : World} {a : Option Addr} {l : List Ln} (h : LnsAt w a l) (hb : Below w.heap.size w w') : LnsAt w' a l := by
  rcases h with h | ⟨b, rfl, h⟩
  · exact Or.inl h
  · refine Or.inr ⟨b, rfl, fun i hi => ?_⟩
    obtain ⟨h0, h1, h2, h3⟩ := h i hi
    have hl := cell_lt h0
    exact ⟨keep hb hl h0, keep hb hl h1, keep hb hl h2, keep hb hl h3⟩
theorem plays11_walk (a : Option Addr) (len cap : Nat) (L : Nat → Op11) (g : World) (hL : Ops11 g a len L) (hm : len ≤ 9223372036854775807) (hok : ∀ i, i < len → 0 ≤ (L i).x ∧ (L i).x < 18446744073709551616) :
    Calls Try.prog 3 #[.slice a len cap] g fun e w' => e = .returned (.bool true) ∧ Below g.heap.size g w' := by
  have S0 := Sat.start g
  have hu8 : useB 8 0 1 = true := by decide
  go_enter Try.func3, Try.ntmps3
  go_wp2_with (fail)
  refine (s_awake g _ _ S0).mono ?_
  rintro e w1 ⟨rfl, S1⟩
  go_wp2_with (fail)
  refine (s_begun g _ _ S1).mono ?_
  rintro e w2 ⟨pm, pb, pu, rfl, S2⟩
  go_wp2_with (fail)
  refine (s_refnew 8 g _ _ S2 (by omega) (by omega)).mono ?_
  rintro e w3 ⟨prm, rfl, S3⟩
  go_wp2_with (fail)
  go_loopw [9] (fun i wr => ∃ k : Nat, k ≤ 3 ∧ i = .int .i64 k ∧ Sat g wr (refP prm 8 (cpW k 0) * (memP pm 8 ptW * (unitP pu pm pb 0 1 * (tlbP pb L0 * whole g))))) (fun i _ => 3 - (intOf i).toNat)
  case atStart => exact ⟨0, by omega, rfl, by rw [cp_start]; exact S3.perm (by ac_rfl)⟩
  case round =>
    obtain ⟨i, hi, rfl, S4⟩ := hrel
    by_cases hi3 : i < 3
    · have hdi : decide ((i : Int) < 3) = true := by simp; omega
      go_wp2_with (fail)
      obtain ⟨wo, rfl⟩ : ∃ wo : World, wo = wr := ⟨_, rfl⟩
      go_loopw [10] (fun j wr => ∃ k : Nat, k ≤ 2 ∧ j = .int .i64 k ∧ Sat g wr (refP prm 8 (cpW i k) * (memP pm 8 ptW * (unitP pu pm pb 0 1 * (tlbP pb L0 * whole g))))) (fun j _ => 2 - (intOf j).toNat)
      case atStart => exact ⟨0, by omega, rfl, S4⟩
      case round =>
        obtain ⟨k, hk, rfl, S5⟩ := hrel
        by_cases hk2 : k < 2
        · go_wp2_with (fail)
          refine (s_get pm ptW i k g _ _ S5.swap).mono ?_
          rintro e w5 ⟨rfl, hb5⟩
          go_wp2_with (fail)
          refine (s_rput prm 8 (cpW i k) i k (gV ptW 8 i k) (gW ptW 8 i k) (gT ptW 8 i k) (gF ptW 8 i k) g _ _ (Sat.alloc (S5.below hb5) _)).mono ?_
          rintro e w6 ⟨rfl, S6⟩
          rw [cp_put i k hi3 hk2] at S6
          go_wp2_with (fail)
          go_roundw
          case rel => first | exact ⟨k + 1, by omega, by go_num, S6⟩ | ((repeat apply Exists.intro); exact ⟨⟨k + 1, by omega, by go_num, S6⟩, rfl⟩)
          case measure => simp [intOf]; omega
        · obtain rfl : k = 2 := by omega
          go_wp2_with (fail)
          go_roundw
          case rel => exact ⟨i + 1, by omega, by go_num, by rw [← cp_row]; exact S5⟩
          case measure => simp [intOf]; omega
    · have e3 : i = 3 := by omega
      rw [e3, cp_end] at S4
      clear e3
      go_wp2_with (fail)
      have S6 := Sat.r09_new (g := g) (h := S4) (w' := wr.alloc (.cells #[.int .i64 0, .int .i64 0, .int .i64 0, .bool false, .int .i64 0, .int .i64 0, .int .i64 0, .bool false, .int .i64 0, .int .i64 0, .int .i64 0, .bool false, .int .i64 0, .int .i64 0, .int .i64 0, .bool false, .int .i64 0, .int .i64 0, .int .i64 0, .bool false, .int .i64 0, .int .i64 0, .int .i64 0, .bool false, .int .i64 0, .int .i64 0, .int .i64 0, .bool false, .int .i64 0, .int .i64 0, .int .i64 0, .bool false, .bool false, .bool false, .bool false, .bool false, .bool false, .bool false, .bool false, .bool false] 45)) (by repeat (first | with_reducible exact Below.refl _ _ | with_reducible assumption | with_reducible refine below_drewN ?_ _ | with_reducible refine Below.alloc ?_ (by simp <;> omega) _)) (r9_zero wr _) (Nat.le_refl _)
      rw [L9_zero] at S6
      obtain ⟨wa, hwa⟩ : ∃ wa, wa = wr.alloc (.cells #[.int .i64 0, .int .i64 0, .int .i64 0, .bool false, .int .i64 0, .int .i64 0, .int .i64 0, .bool false, .int .i64 0, .int .i64 0, .int .i64 0, .bool false, .int .i64 0, .int .i64 0, .int .i64 0, .bool false, .int .i64 0, .int .i64 0, .int .i64 0, .bool false, .int .i64 0, .int .i64 0, .int .i64 0, .bool false, .int .i64 0, .int .i64 0, .int .i64 0, .bool false, .int .i64 0, .int .i64 0, .int .i64 0, .bool false, .bool false, .bool false, .bool false, .bool false, .bool false, .bool false, .bool false, .bool false] 45) := ⟨_, rfl⟩
      have hsa : wa.heap.size = wr.heap.size + 1 := by rw [hwa]; simp
      have hsa2 : wr.heap.size + 1 = wa.heap.size := hsa.symm
      rw [← hwa] at S6 ⊢
      rw [hsa2]
      obtain ⟨pr, hpr⟩ : ∃ pr, pr = wr.heap.size := ⟨_, rfl⟩
      rw [← hpr] at S6 ⊢
      clear hwa hsa hsa2 hpr
      have S7 := Sat.unit_new (g := g) (h := S6) (w' := wa.alloc (.cells #[.pointer (some ⟨prm, 0, none⟩), .pointer (some ⟨pr, 0, none⟩), .int .i64 0, .int .i64 0] 47)) (by repeat (first | with_reducible exact Below.refl _ _ | with_reducible assumption | with_reducible refine below_drewN ?_ _ | with_reducible refine Below.alloc ?_ (by simp <;> omega) _)) (unit_new wa prm pr _) (Nat.le_refl _)
      obtain ⟨pw, hpw⟩ : ∃ pw, pw = wa.heap.size := ⟨_, rfl⟩
      rw [← hpw] at S7 ⊢
      clear hpw
      refine (s_ruse pw prm pr 8 0 0 0 1 ptW g _ _ ((S7.perm (by ac_rfl) : Sat g _ (unitP pw prm pr 0 0 * (refP prm 8 ptW * (unitP pu pm pb 0 1 * (memP pm 8 ptW * (tlbP pb L0 * (r09P pr L0 * whole g))))))))).mono ?_
      rintro e w8 ⟨rfl, S8⟩
      simp only [hu8, if_true] at S8 ⊢
      have S9 : Sat g w8 (allP pu pm pb pw prm pr (whole g) ptW L0 0 1) := S8.perm (by unfold allP; ac_rfl)
      clear S0 S1 S2 S3 S4 S6 S7 S8
      go_wp2_with (fail)
      go_loopw [14] (fun i wr => ∃ (k : Nat) (W : Nat → Int) (T : Nat → Option Ln) (rt as_ : Int), k ≤ len ∧ k ≤ 60 ∧ i = .int .i64 k ∧ 0 ≤ as_ ∧ as_ ≤ 8 ∧ Sat g wr (allP pu pm pb pw prm pr (whole g) W T rt as_)) (fun i _ => len - (intOf i).toNat)
      case atStart => exact ⟨0, ptW, L0, 0, 1, by omega, by omega, rfl, by omega, by omega, S9⟩
      case round =>
        obtain ⟨k, W, T, rt, as_, hk, hk60, rfl, has, has', S1⟩ := hrel
        by_cases hlt : k < len ∧ k < 60
        · obtain ⟨hkl, hkk⟩ := hlt
          rcases hL with h0 | ⟨b, off, rfl, hb, hcells⟩
          · omega
          have hold : wr.heap[b]? = g.heap[b]? := (show Sat g wr (whole g) from S1.right.right.right.right.right.right).inv1 b hb
          have hop := (hcells k hkl).heap hold
          obtain ⟨o, ho⟩ : ∃ o, o = L k := ⟨_, rfl⟩
          have hox := hok k hkl
          rw [← ho] at hop hox
          have o0 := hop.c0; have o1 := hop.c1; have o2 := hop.c2; have o3 := hop.c3; have o4 := hop.c4; have o5 := hop.c5; have o6 := hop.c6; have o7 := hop.c7; have o8 := hop.c8; have o9 := hop.c9
          have hm2 : (k : Int) < len := by omega
          clear hcells ho hop hold
          go_upto_block 6 with (fail)
          obtain ⟨bo, hbo⟩ : ∃ bo, bo = wr.heap.size := ⟨_, rfl⟩
          have hopn := op_new wr o 51
          have S2 := Sat.new (g := g) (h := S1) (w' := wr.alloc (.cells #[.int .i64 o.d, .int .i64 o.addr, .int .i64 o.at_, .int .i64 o.fr, .int .i64 o.pl, .int .u64 o.x, .bool o.ev, .bool o.ew, .bool o.et, .int .i64 o.ef] 51)) (by repeat (first | with_reducible exact Below.refl _ _ | with_reducible assumption | with_reducible refine below_drewN ?_ _ | with_reducible refine Below.alloc ?_ (by simp <;> omega) _)) hopn (loc_op _ _) (fun k hk => by rw [hk]; exact Nat.le_refl _) (fun k hk => by rw [hk]; simp)
          obtain ⟨wb, hwb⟩ : ∃ wb, wb = wr.alloc (.cells #[.int .i64 o.d, .int .i64 o.addr, .int .i64 o.at_, .int .i64 o.fr, .int .i64 o.pl, .int .u64 o.x, .bool o.ev, .bool o.ew, .bool o.et, .int .i64 o.ef] 51) := ⟨_, rfl⟩
          rw [← hwb, ← hbo] at S2 ⊢
          clear hopn hwb hbo S1 o0 o1 o2 o3 o4 o5 o6 o7 o8 o9
          have S3 : Sat g wb (unitP pu pm pb rt as_ * (memP pm 8 W * (tlbP pb T * (unitP pw prm pr rt as_ * (refP prm 8 W * (r09P pr T * (opP bo o * whole g))))))) := S2.perm (by unfold allP opP; ac_rfl)
          clear S2
          have hK : ∀ w' W T rt as_ W' T' rt' as', Sat g w' (unitP pu pm pb rt as_ * (memP pm 8 W * (tlbP pb T * (unitP pw prm pr rt' as' * (refP prm 8 W' * (r09P pr T' * (opP bo o * whole g))))))) → w'.cell? ⟨bo, 1, none⟩ = some (.int .i64 o.addr) ∧ w'.cell? ⟨bo, 2, none⟩ = some (.int .i64 o.at_) ∧ w'.cell? ⟨bo, 3, none⟩ = some (.int .i64 o.fr) ∧ w'.cell? ⟨bo, 4, none⟩ = some (.int .i64 o.pl) ∧ w'.cell? ⟨bo, 5, none⟩ = some (.int .u64 o.x) ∧ w'.cell? ⟨bo, 6, none⟩ = some (.bool o.ev) ∧ w'.cell? ⟨bo, 7, none⟩ = some (.bool o.ew) ∧ w'.cell? ⟨bo, 8, none⟩ = some (.bool o.et) ∧ w'.cell? ⟨bo, 9, none⟩ = some (.int .i64 o.ef) ∧ w'.cell? ⟨pw, 1, none⟩ = some (.pointer (some ⟨pr, 0, none⟩)) :=
            fun w' _ _ _ _ _ _ _ _ h => by
              have ho : OpAt w' bo 0 o := h.right.right.right.right.right.right.inv
              have hu := (h.right.right.right).unit.c1
              exact ⟨ho.c1, ho.c2, ho.c3, ho.c4, ho.c5, ho.c6, ho.c7, ho.c8, ho.c9, hu⟩
          have hop : OpAt wb bo 0 o := S3.right.right.right.right.right.right.inv
          obtain ⟨o1, o2, o3, o4, o5, o6, o7, o8, o9, ou⟩ := hK _ _ _ _ _ _ _ _ _ S3
          clear hop
          go_cut [16] (fun s16 wx => CutS g pu pm pb pw prm pr (opP bo o * whole g) s16 wx)
          case first =>
            have hd : (((o.d == 0) = true) ∨ ((o.d == 0) = false ∧ (o.d == 1) = true) ∨ ((o.d == 0) = false ∧ (o.d == 1) = false ∧ (o.d == 2) = true)) ∨ (((o.d == 0) = false ∧ (o.d == 1) = false ∧ (o.d == 2) = false ∧ (o.d == 3) = true) ∨ ((o.d == 0) = false ∧ (o.d == 1) = false ∧ (o.d == 2) = false ∧ (o.d == 3) = false ∧ (o.d == 4) = true)) ∨ ((o.d == 0) = false ∧ (o.d == 1) = false ∧ (o.d == 2) = false ∧ (o.d == 3) = false ∧ (o.d == 4) = false ∧ (o.d == 5) = true) ∨ ((o.d == 0) = false ∧ (o.d == 1) = false ∧ (o.d == 2) = false ∧ (o.d == 3) = false ∧ (o.d == 4) = false ∧ (o.d == 5) = false ∧ (o.d == 6) = true) ∨ ((o.d == 0) = false ∧ (o.d == 1) = false ∧ (o.d == 2) = false ∧ (o.d == 3) = false ∧ (o.d == 4) = false ∧ (o.d == 5) = false ∧ (o.d == 6) = false ∧ (o.d == 7) = true) ∨ ((o.d == 0) = false ∧ (o.d == 1) = false ∧ (o.d == 2) = false ∧ (o.d == 3) = false ∧ (o.d == 4) = false ∧ (o.d == 5) = false ∧ (o.d == 6) = false ∧ (o.d == 7) = false) := by
              simp only [beq_iff_eq, beq_eq_false_iff_ne, ne_eq]; omega
            rcases hd with hd | hd | ⟨d0, d1, d2, d3, d4, d5⟩ | ⟨d0, d1, d2, d3, d4, d5, d6⟩ | ⟨d0, d1, d2, d3, d4, d5, d6, d7⟩ | ⟨d0, d1, d2, d3, d4, d5, d6, d7⟩
            · rcases hd with d0 | ⟨d0, d1⟩ | ⟨d0, d1, d2⟩
              all_goals as_aux_lemma =>
                go_wp2_with (fail)
                refine (s_load pu pm pb 8 rt as_ W T o.addr o.at_ g _ _ S3 has has').mono ?_
                rintro e w2 ⟨rfl, S4⟩
                obtain ⟨q1, q2, q3, q4, q5, q6, q7, q8, q9, qu⟩ := hK _ _ _ _ _ _ _ _ _ S4
                clear o1 o2 o3 o4 o5 o6 o7 o8 o9 ou
                go_wp2_with (fail)
                refine (s_rload pw prm pr 8 rt as_ W T o.addr o.at_ g _ _ S4.flip3 has has').mono ?_
                rintro e w3 ⟨rfl, S5⟩
                go_wp2_with (fail)
                go_meet
                exact ⟨_, _, rt, as_, by simp, has, has', S5.flip3⟩
            · rcases hd with ⟨d0, d1, d2, d3⟩ | ⟨d0, d1, d2, d3, d4⟩
              all_goals as_aux_lemma =>
                go_wp2_with (fail)
                go_region_held3 (fun w' => w'.cell? ⟨bo, 1, none⟩ = some (.int .i64 o.addr) ∧ w'.cell? ⟨bo, 2, none⟩ = some (.int .i64 o.at_) ∧ w'.cell? ⟨bo, 3, none⟩ = some (.int .i64 o.fr) ∧ w'.cell? ⟨bo, 4, none⟩ = some (.int .i64 o.pl) ∧ w'.cell? ⟨bo, 5, none⟩ = some (.int .u64 o.x) ∧ w'.cell? ⟨bo, 6, none⟩ = some (.bool o.ev) ∧ w'.cell? ⟨bo, 7, none⟩ = some (.bool o.ew) ∧ w'.cell? ⟨bo, 8, none⟩ = some (.bool o.et) ∧ w'.cell? ⟨bo, 9, none⟩ = some (.int .i64 o.ef) ∧ w'.cell? ⟨pw, 1, none⟩ = some (.pointer (some ⟨pr, 0, none⟩))) (exact hK _ _ _ _ _ _ _ _ _ (by first | assumption | exact Sat.drew (by assumption) | exact Sat.drew (Sat.drew (by assumption))))
                  (first
                    | (go_at_call 15; refine (s_store pu pm pb 8 rt as_ W T o.addr o.x o.at_ g _ _ (Sat.drew S3) has has' hox.1 hox.2).mono ?_; rintro e w2 ⟨rfl, S4⟩)
                    | (go_at_call 16; refine (s_rstore pw prm pr 8 rt as_ W T o.addr o.x o.at_ g _ _ (Sat.flip3 S4) has has' hox.1 hox.2).mono ?_; rintro e w3 ⟨rfl, S5'⟩; have S5 := S5'.flip3))
                go_wp2_with (fail)
                go_meet
                exact ⟨_, _, rt, as_, by simp, has, has', S5⟩
            · as_aux_lemma =>
              go_wp2_with (fail)
              go_region_held3 (fun w' => w'.cell? ⟨bo, 1, none⟩ = some (.int .i64 o.addr) ∧ w'.cell? ⟨bo, 2, none⟩ = some (.int .i64 o.at_) ∧ w'.cell? ⟨bo, 3, none⟩ = some (.int .i64 o.fr) ∧ w'.cell? ⟨bo, 4, none⟩ = some (.int .i64 o.pl) ∧ w'.cell? ⟨bo, 5, none⟩ = some (.int .u64 o.x) ∧ w'.cell? ⟨bo, 6, none⟩ = some (.bool o.ev) ∧ w'.cell? ⟨bo, 7, none⟩ = some (.bool o.ew) ∧ w'.cell? ⟨bo, 8, none⟩ = some (.bool o.et) ∧ w'.cell? ⟨bo, 9, none⟩ = some (.int .i64 o.ef) ∧ w'.cell? ⟨pw, 1, none⟩ = some (.pointer (some ⟨pr, 0, none⟩))) (exact hK _ _ _ _ _ _ _ _ _ (by first | assumption | exact Sat.drew (by assumption) | exact Sat.drew (Sat.drew (by assumption))))
                (first
                  | (go_at_call 17; refine (s_put pm 8 W o.fr o.pl o.ev o.ew o.et o.ef g _ _ (Sat.swap (Sat.drew S3))).mono ?_; rintro e w2 ⟨rfl, S4'⟩; have S4 := S4'.swap)
                  | (go_at_call 11; refine (s_rput prm 8 W o.fr o.pl o.ev o.ew o.et o.ef g _ _ (Sat.swap (Sat.flip3 S4))).mono ?_; rintro e w3 ⟨rfl, S5'⟩; have S5 := S5'.swap.flip3))
              go_wp2_with (fail)
              go_meet
              exact ⟨_, _, rt, as_, by simp, has, has', S5⟩
            · as_aux_lemma =>
              have hab : 0 ≤ (if useB 8 o.fr o.pl = true then o.pl else as_) ∧ (if useB 8 o.fr o.pl = true then o.pl else as_) ≤ 8 := by
                split
                · rename_i hu
                  have : (hasB 8 o.fr = true ∧ 1 ≤ o.pl) ∧ o.pl ≤ 8 := by simpa [useB] using hu
                  omega
                · omega
              have HAB := Lib.hid hab
              clear hab
              obtain ⟨ue, hue⟩ : ∃ ue : Int, ue = if useB 8 o.fr o.pl = true then 0 else 1 := ⟨_, rfl⟩
              have HUE := Lib.hid hue
              clear hue
              go_wp2_with (fail)
              go_region_held3 (fun w' => w'.cell? ⟨bo, 1, none⟩ = some (.int .i64 o.addr) ∧ w'.cell? ⟨bo, 2, none⟩ = some (.int .i64 o.at_) ∧ w'.cell? ⟨bo, 3, none⟩ = some (.int .i64 o.fr) ∧ w'.cell? ⟨bo, 4, none⟩ = some (.int .i64 o.pl) ∧ w'.cell? ⟨bo, 5, none⟩ = some (.int .u64 o.x) ∧ w'.cell? ⟨bo, 6, none⟩ = some (.bool o.ev) ∧ w'.cell? ⟨bo, 7, none⟩ = some (.bool o.ew) ∧ w'.cell? ⟨bo, 8, none⟩ = some (.bool o.et) ∧ w'.cell? ⟨bo, 9, none⟩ = some (.int .i64 o.ef) ∧ w'.cell? ⟨pw, 1, none⟩ = some (.pointer (some ⟨pr, 0, none⟩))) (exact hK _ _ _ _ _ _ _ _ _ (by first | assumption | exact Sat.drew (by assumption) | exact Sat.drew (Sat.drew (by assumption))))
                (first
                  | (go_at_call 18; refine (s_use pu pm pb 8 rt as_ o.fr o.pl W g _ _ (Sat.drew S3)).mono ?_; rintro e w2 ⟨rfl, S4⟩; rw [← HUE.out])
                  | (go_at_call 12; refine (s_ruse pw prm pr 8 rt as_ o.fr o.pl W g _ _ (Sat.flip3 S4)).mono ?_; rintro e w3 ⟨rfl, S5'⟩; rw [← HUE.out]; have S5 := S5'.flip3))
              go_wp2_with (fail)
              go_meet
              exact ⟨_, _, _, _, by simp, HAB.out.1, HAB.out.2, S5⟩
            · as_aux_lemma =>
              go_wp2_with (fail)
              go_region_held3 (fun w' => w'.cell? ⟨bo, 1, none⟩ = some (.int .i64 o.addr) ∧ w'.cell? ⟨bo, 2, none⟩ = some (.int .i64 o.at_) ∧ w'.cell? ⟨bo, 3, none⟩ = some (.int .i64 o.fr) ∧ w'.cell? ⟨bo, 4, none⟩ = some (.int .i64 o.pl) ∧ w'.cell? ⟨bo, 5, none⟩ = some (.int .u64 o.x) ∧ w'.cell? ⟨bo, 6, none⟩ = some (.bool o.ev) ∧ w'.cell? ⟨bo, 7, none⟩ = some (.bool o.ew) ∧ w'.cell? ⟨bo, 8, none⟩ = some (.bool o.et) ∧ w'.cell? ⟨bo, 9, none⟩ = some (.int .i64 o.ef) ∧ w'.cell? ⟨pw, 1, none⟩ = some (.pointer (some ⟨pr, 0, none⟩))) (exact hK _ _ _ _ _ _ _ _ _ (by first | assumption | exact Sat.drew (by assumption) | exact Sat.drew (Sat.drew (by assumption))))
                (first
                  | (go_at_call 19; refine (s_flush pb T o.pl g _ _ (Sat.up3 (Sat.drew S3))).mono ?_; rintro e w2 ⟨rfl, S4'⟩; have S4 := S4'.down3)
                  | (go_at_call 20; refine (s_rflush pr T o.pl g _ _ (Sat.up3 (Sat.flip3 S4))).mono ?_; rintro e w3 ⟨rfl, S5'⟩; have S5 := S5'.down3.flip3))
              go_wp2_with (fail)
              go_meet
              exact ⟨_, _, rt, as_, by simp, has, has', S5⟩
            · as_aux_lemma =>
              have hlw := fun (w0 : World) => LineAt.new w0 ⟨o.pl, wrap64 (o.addr.tdiv 16), o.fr, o.x % 2 == 1⟩ 41
              obtain ⟨ln, hln⟩ : ∃ ln : Ln, ln = ⟨o.pl, wrap64 (o.addr.tdiv 16), o.fr, o.x % 2 == 1⟩ := ⟨_, rfl⟩
              have hF1 : ∀ (w0 : World) (R : HP), Sat g w0 (tlbP pb T * R) → Calls Try.prog 21 #[.pointer (some ⟨pb, 0, none⟩), .agg #[.int .i64 o.pl, .int .i64 (wrap64 (o.addr.tdiv 16)), .int .i64 o.fr, .bool (o.x % 2 == 1)], .int .i64 o.at_] w0 fun e w' => e = .returned (.int .i64 (if lpOk ln o.at_ then 0 else 1)) ∧ Sat g w' (tlbP pb (lpL T ln o.at_) * R) := fun w0 R hh => by
                have := s_lput pb T ln o.at_ g w0 R hh
                rw [show lnV (some ln) = .agg #[.int .i64 o.pl, .int .i64 (wrap64 (o.addr.tdiv 16)), .int .i64 o.fr, .bool (o.x % 2 == 1)] by rw [hln]; rfl] at this
                exact this
              have hF2 : ∀ (w0 : World) (R : HP), Sat g w0 (r09P pr T * R) → Calls Try.prog 22 #[.pointer (some ⟨pr, 0, none⟩), .agg #[.int .i64 o.pl, .int .i64 (wrap64 (o.addr.tdiv 16)), .int .i64 o.fr, .bool (o.x % 2 == 1)], .int .i64 o.at_] w0 fun e w' => e = .returned (.int .i64 (if lpOk ln o.at_ then 0 else 1)) ∧ Sat g w' (r09P pr (lpL T ln o.at_) * R) := fun w0 R hh => by
                have := s_rlput pr T ln o.at_ g w0 R hh
                rw [show lnV (some ln) = .agg #[.int .i64 o.pl, .int .i64 (wrap64 (o.addr.tdiv 16)), .int .i64 o.fr, .bool (o.x % 2 == 1)] by rw [hln]; rfl] at this
                exact this
              obtain ⟨ue, hue⟩ : ∃ ue : Int, ue = if lpOk ln o.at_ = true then 0 else 1 := ⟨_, rfl⟩
              have HUE := Lib.hid hue
              have HF1 := Lib.hid hF1
              have HF2 := Lib.hid hF2
              have HLW := Lib.hid hlw
              clear hue hln hF1 hF2 hlw
              go_wp2_with (fail)
              obtain ⟨bl, hbl⟩ : ∃ bl, bl = wb.heap.size := ⟨_, rfl⟩
              have hla := HLW.out wb
              have S4 := Sat.new (g := g) (h := S3) (w' := wb.alloc (.cells #[.int .i64 o.pl, .int .i64 (wrap64 (o.addr.tdiv 16)), .int .i64 o.fr, .bool (o.x % 2 == 1)] 41)) (S' := fun k => k = wb.heap.size) (I' := fun w => LineAt w wb.heap.size ⟨o.pl, wrap64 (o.addr.tdiv 16), o.fr, o.x % 2 == 1⟩) (by repeat (first | with_reducible exact Below.refl _ _ | with_reducible assumption | with_reducible refine below_drewN ?_ _ | with_reducible refine Below.alloc ?_ (by simp <;> omega) _)) hla (fun _ _ h e => h.heap (e _ rfl)) (fun k hk => by rw [hk]; exact Nat.le_refl _) (fun k hk => by rw [hk]; simp)
              obtain ⟨wd, hwd⟩ : ∃ wd, wd = wb.alloc (.cells #[.int .i64 o.pl, .int .i64 (wrap64 (o.addr.tdiv 16)), .int .i64 o.fr, .bool (o.x % 2 == 1)] 41) := ⟨_, rfl⟩
              rw [← hwd, ← hbl] at S4 ⊢
              clear hla hwd hbl S3 o1 o2 o3 o4 o5 o6 o7 o8 o9 ou HLW
              have S5 : Sat g wd (unitP pu pm pb rt as_ * (memP pm 8 W * (tlbP pb T * (unitP pw prm pr rt as_ * (refP prm 8 W * (r09P pr T * (opP bo o * (ownP (fun k => k = bl) (fun w => LineAt w bl ⟨o.pl, wrap64 (o.addr.tdiv 16), o.fr, o.x % 2 == 1⟩) * whole g)))))))) := S4.perm (by ac_rfl)
              clear S4
              have hK2 : ∀ w' W T rt as_ W' T' rt' as', Sat g w' (unitP pu pm pb rt as_ * (memP pm 8 W * (tlbP pb T * (unitP pw prm pr rt' as' * (refP prm 8 W' * (r09P pr T' * (opP bo o * (ownP (fun k => k = bl) (fun w => LineAt w bl ⟨o.pl, wrap64 (o.addr.tdiv 16), o.fr, o.x % 2 == 1⟩) * whole g)))))))) → w'.cell? ⟨bo, 2, none⟩ = some (.int .i64 o.at_) ∧ w'.cell? ⟨pw, 1, none⟩ = some (.pointer (some ⟨pr, 0, none⟩)) ∧ w'.cell? ⟨bl, 0, none⟩ = some (.int .i64 o.pl) ∧ w'.cell? ⟨bl, 1, none⟩ = some (.int .i64 (wrap64 (o.addr.tdiv 16))) ∧ w'.cell? ⟨bl, 2, none⟩ = some (.int .i64 o.fr) ∧ w'.cell? ⟨bl, 3, none⟩ = some (.bool (o.x % 2 == 1)) :=
                fun w' _ _ _ _ _ _ _ _ h => by
                  have ho : OpAt w' bo 0 o := h.right.right.right.right.right.right.inv
                  have hl := h.right.right.right.right.right.right.right.inv
                  have hu := (h.right.right.right).unit.c1
                  exact ⟨ho.c2, hu, hl.c0, hl.c1, hl.c2, hl.c3⟩
              obtain ⟨o2, ou, l0, l1, l2, l3⟩ := hK2 _ _ _ _ _ _ _ _ _ S5
              go_region_held3 (fun w' => w'.cell? ⟨bo, 2, none⟩ = some (.int .i64 o.at_) ∧ w'.cell? ⟨pw, 1, none⟩ = some (.pointer (some ⟨pr, 0, none⟩)) ∧ w'.cell? ⟨bl, 0, none⟩ = some (.int .i64 o.pl) ∧ w'.cell? ⟨bl, 1, none⟩ = some (.int .i64 (wrap64 (o.addr.tdiv 16))) ∧ w'.cell? ⟨bl, 2, none⟩ = some (.int .i64 o.fr) ∧ w'.cell? ⟨bl, 3, none⟩ = some (.bool (o.x % 2 == 1))) (exact hK2 _ _ _ _ _ _ _ _ _ (by first | assumption | exact Sat.drew (by assumption) | exact Sat.drew (Sat.drew (by assumption))))
                (first
                  | (go_at_call 21; refine (HF1.out _ _ (Sat.up3 (Sat.drew S5))).mono ?_; rintro e w2 ⟨rfl, S6'⟩; rw [← HUE.out]; have S6 := S6'.down3)
                  | (go_at_call 22; refine (HF2.out _ _ (Sat.up3 (Sat.flip3 S6))).mono ?_; rintro e w3 ⟨rfl, S7'⟩; rw [← HUE.out]; have S7 := S7'.down3.flip3))
              go_wp2_with (fail)
              go_meet
              have S8 : Sat g _ (ownP (fun k => k = bl) (fun w => LineAt w bl ⟨o.pl, wrap64 (o.addr.tdiv 16), o.fr, o.x % 2 == 1⟩) * allP pu pm pb pw prm pr (opP bo o * whole g) W (lpL T ln o.at_) rt as_) := S7.perm (by unfold allP; ac_rfl)
              exact ⟨W, lpL T ln o.at_, rt, as_, by simp, has, has', S8.right⟩
          case rest => as_aux_lemma =>
            clear S3 o1 o2 o3 o4 o5 o6 o7 o8 o9 ou has has'
            obtain ⟨W, T, rt, as_, rfl, has, has', S4⟩ := hcut
            have S5 : Sat g wc (unitP pu pm pb rt as_ * (memP pm 8 W * (tlbP pb T * (unitP pw prm pr rt as_ * (refP prm 8 W * (r09P pr T * (opP bo o * whole g))))))) := S4
            clear S4
            obtain ⟨o1, o2, o3, o4, o5, o6, o7, o8, o9, ou⟩ := hK _ _ _ _ _ _ _ _ _ S5
            go_wp2_with (fail)
            refine (s_find pu pm pb 8 rt as_ W T o.addr _ o.at_ g _ _ S5 has has' _ rfl).mono ?_
            rintro e w2 ⟨rfl, S6⟩
            clear o1 o2 o3 o4 o5 o6 o7 o8 o9 ou
            obtain ⟨o1, o2, o3, o4, o5, o6, o7, o8, o9, ou⟩ := hK _ _ _ _ _ _ _ _ _ S6
            go_wp2_with (fail)
            refine (s_rfind pw prm pr 8 rt as_ W T o.addr _ o.at_ g _ _ S6.flip3 has has' _ rfl).mono ?_
            rintro e w3 ⟨rfl, S7'⟩
            have S7 := S7'.flip3
            obtain ⟨T2, hT2⟩ : ∃ T2, fTlb 8 W T rt as_ o.addr o.at_ = T2 := ⟨_, rfl⟩
            rw [hT2] at S7
            clear o1 o2 o3 o4 o5 o6 o7 o8 o9 ou S5 S6 S7' hT2
            obtain ⟨F, hF⟩ : ∃ F, fRes 8 W T rt as_ o.addr (o.x % 2 == 1) o.at_ = F := ⟨_, rfl⟩
            rw [hF]
            clear hF
            have ou := S7.right.right.right.unit.c1
            have hwl : pw < w3.heap.size := S7.right.right.right.unit.lt
            go_wp2_with (fail)
            go_region_held3 (fun w' => w'.cell? ⟨pw, 1, none⟩ = some (.pointer (some ⟨pr, 0, none⟩))) (first | assumption | go_keep)
              (first
                | (go_at_call 26; refine (s_lines pb T2 g _ _ (Sat.up3 (Sat.drew S7))).mono ?_; rintro e w4 ⟨v4, rfl, hown4, hb4⟩; have S8 := (Sat.drew S7).below hb4; have ou4 := keep hb4 hwl ou; obtain ⟨a4, c4, rfl, hl4⟩ := own_lns hown4 rfl)
                | (go_at_call 27; refine (s_rlines pr T2 g _ _ (Sat.up3 (Sat.flip3 S8))).mono ?_; rintro e w5 ⟨v5, rfl, hown5, hb5⟩; have S9 := S8.below hb5; have hl45 := hl4.below hb5; have ou5 := keep hb5 (cell_lt ou4) ou4; obtain ⟨a5, c5, rfl, hl5⟩ := own_lns hown5 rfl)
                | (go_at_call 25; refine (r09_same (linesK T2 8) a4 a5 c4 c5 _ hl45 hl5 (linesK_le _ _)).mono ?_; rintro e w6 ⟨rfl, q6, rfl⟩))
            go_wp2_with (fail)
            go_loopw [29] (fun j wx => ∃ q : Nat, q ≤ 128 ∧ j = .int .i64 q ∧ wx = w5.drewN q6) (fun j _ => 128 - (intOf j).toNat)
            case atStart => exact ⟨0, by omega, rfl, rfl⟩
            case round =>
              obtain ⟨q, hq, rfl, rfl⟩ := hrel
              have S10 := Sat.drewN S9 q6
              obtain ⟨br, hbr, _, _⟩ := (S10.flip3.swap).ref
              have hbp := hbr.ptr
              by_cases hq8 : q < 128
              · have hbc := hbr.cell q (by omega)
                go_wp2_with (fail)
                refine (s_read pm 8 W q g _ _ S10.swap (by omega) (by omega)).mono ?_
                rintro e w7 ⟨rfl, rfl⟩
                rw [show ((q : Int)).toNat = q by omega]
                go_wp2_with (fail)
                go_roundw
                case rel => exact ⟨q + 1, by omega, by go_num, by first | trivial | rfl⟩
                case measure => simp [intOf]; omega
              · go_wp2_with (fail)
                go_roundw
                case rel =>
                  have S11 : Sat g (w5.drewN q6) (opP bo o * allP pu pm pb pw prm pr (whole g) W T2 rt as_) := S10.perm (by unfold allP; ac_rfl)
                  first | exact ⟨k + 1, W, T2, rt, as_, by omega, by omega, by go_num, has, has', S11.right⟩ | ((repeat apply Exists.intro); exact ⟨⟨k + 1, W, T2, rt, as_, by omega, by omega, by go_num, has, has', S11.right⟩, rfl⟩)
                case measure => simp [intOf]; omega
        · have hfin : Below g.heap.size g wr := (show Sat g wr (whole g * emp) from ((show Sat g wr (whole g) from S1.right.right.right.right.right.right).emp.perm (star_comm _ _))).ends
          have hh : len ≤ k ∨ (¬ len ≤ k ∧ 60 ≤ k) := by omega
          clear S1 hok
          rcases hh with h1 | ⟨h1, h2⟩
          · have h3 : ¬ (k : Int) < len := by omega
            go_wp2_with (fail)
            go_ret
            exact ⟨rfl, hfin⟩
          · have h3 : (k : Int) < len := by omega
            have h4 : ¬ (k : Int) < 60 := by omega
            go_wp2_with (fail)
            go_ret
            exact ⟨rfl, hfin⟩

end Go.Proofs.Yteehghjdifbjbaa
