/- What begins, turn, New, Used of package major return and write, by walks over their text. -/
import Derived.Test.YtjacbcephokbbaaTab
import Derived.Test.YtjacbcephokbbaaSep2
import Derived.Test.YtjacbcephokbbaaAnyS
namespace Go.Proofs.Ytjacbcephokbbaa
set_option linter.unusedSimpArgs false
set_option linter.unusedVariables false
set_option maxRecDepth 100000
open Go.RowKit
set_option maxHeartbeats 4000000

/-- A clock at pc: its table's place, what is staged, its number, its place, how many ticks each had. -/
structure ClockIn (w : World) (pc pt : Nat) (fv : Value) (n place : Int) (U : Nat → Int) : Prop where
  c0 : w.cell? ⟨pc, 0, none⟩ = some (.pointer (some ⟨pt, 0, none⟩))
  c1 : w.cell? ⟨pc, 1, none⟩ = some fv
  c2 : w.cell? ⟨pc, 2, none⟩ = some (.int .i64 n)
  c3 : w.cell? ⟨pc, 3, none⟩ = some (.int .i64 place)
  u : ∀ i, i < 8 → w.cell? ⟨pc, 4 + i, none⟩ = some (.int .i64 (U i))
  free : ∀ j, j < 12 → w.frozen? ⟨pc, j, none⟩ = false
  lt : pc < w.heap.size
theorem ClockIn.heap {w w' : World} {pc pt : Nat} {fv : Value} {n place : Int} {U : Nat → Int} (h : ClockIn w pc pt fv n place U) (e : w'.heap[pc]? = w.heap[pc]?) : ClockIn w' pc pt fv n place U :=
  ⟨(cell_of_heap e _).trans h.c0, (cell_of_heap e _).trans h.c1, (cell_of_heap e _).trans h.c2, (cell_of_heap e _).trans h.c3, fun i hi => (cell_of_heap e _).trans (h.u i hi), fun j hj => (frozen_of_heap e _).trans (h.free j hj), heap_lt' e h.lt⟩
def clkP (pc pt : Nat) (fv : Value) (n place : Int) (U : Nat → Int) : HP := ownP (fun k => k = pc) (fun w => ClockIn w pc pt fv n place U)
theorem loc_clk (pc pt : Nat) (fv : Value) (n place : Int) (U : Nat → Int) : Loc (fun k => k = pc) (fun w => ClockIn w pc pt fv n place U) := fun _ _ h e => h.heap (e pc rfl)
theorem Sat.clk_set {g w w' : World} {pc pt pt' : Nat} {fv fv' : Value} {n place n' place' : Int} {U U' : Nat → Int} {R : HP} (h : Sat g w (clkP pc pt fv n place U * R)) (t : Touch (· = pc) w w') (c : ClockIn w' pc pt' fv' n' place' U') : Sat g w' (clkP pc pt' fv' n' place' U' * R) :=
  h.touch t c (loc_clk _ _ _ _ _ _) (fun k hk => Or.inl hk) (fun k hk => by rw [hk]; exact c.lt)

theorem begins1_any (x : Win) (pb : Nat) (place : Int) (w : World) (hpb : pb < w.heap.size) (c0 : w.cell? ⟨pb, 0, none⟩ = some (.int .i64 place)) :
    Calls Try.prog 42 #[.agg #[.int .i64 x.p, .int .i64 x.f, .int .i64 x.l], .pointer (some ⟨pb, 0, none⟩)] w fun e w' => e = .returned (.bool (x.f == place)) ∧ Below w.heap.size w w' := by
  have hne : ¬ pb = w.heap.size := by omega
  by_cases he : x.f = place
  · subst he
    go_enter Try.func42, Try.ntmps42
    go_wp2_with (fail)
    go_ret
    exact ⟨by simp, by repeat (first | with_reducible exact Below.refl _ _ | with_reducible assumption | with_reducible refine below_drewN ?_ _ | with_reducible refine Below.alloc ?_ (by simp <;> omega) _)⟩
  · have hf : (x.f == place) = false := by simp [he]
    go_enter Try.func42, Try.ntmps42
    go_wp2_with (fail)
    go_ret
    exact ⟨by rw [hf]; simp, by repeat (first | with_reducible exact Below.refl _ _ | with_reducible assumption | with_reducible refine below_drewN ?_ _ | with_reducible refine Below.alloc ?_ (by simp <;> omega) _)⟩

theorem indexF_nil (fv : Value) (w : World) : Calls Try.prog 48 #[.slice none 0 0, fv] w fun e w' => e = .returned (.int .i64 (-1)) ∧ w = w' := by
  go_enter Try.func48, Try.ntmps48
  go_wp2_with (fail)
  refine wp_loop_rounds 1 ?_
  rw [rounds_succ]
  go_wp2_with (fail)
  go_ret
  exact ⟨rfl, rfl⟩
theorem contains_nil (fv : Value) (w : World) : Calls Try.prog 41 #[.slice none 0 0, fv] w fun e w' => e = .returned (.bool false) ∧ w = w' := by
  go_enter Try.func41, Try.ntmps41
  go_wp2_with (go_at_call 48; refine (indexF_nil _ _).mono ?_; rintro e w' ⟨rfl, rfl⟩)
  go_ret
  exact ⟨rfl, rfl⟩

theorem s_begins (pc pt : Nat) (fv : Value) (n place : Int) (U : Nat → Int) (m : Int) (L : List Win) (at_ : Int) (g w : World) (R : HP) (h : Sat g w (clkP pc pt fv n place U * (tabP pt m L * R))) :
    Calls Try.prog 26 #[.pointer (some ⟨pc, 0, none⟩), .int .i64 at_] w fun e w' => e = .returned (.bool (L.any fun x => x.f == at_)) ∧ Below w.heap.size w w' := by
  have c0 := h.inv.c0
  have hlt := h.inv.lt
  have hne : ¬ pc = w.heap.size := by omega
  obtain ⟨S, ok⟩ := h.swap.tabOk
  have hlen := ok.len
  have h1 := h.alloc (.cells #[.int .i64 at_] 3)
  go_enter Try.func26, Try.ntmps26
  go_wp2_with (fail)
  refine (s_slots pt m L g _ _ h1.swap).mono ?_
  rintro e w2 ⟨v, rfl, hown, hb2⟩
  have hb : w.heap.size < w2.heap.size := by have := hb2.size; simp at this; omega
  have kb : Below w.heap.size w w2 := (Below.alloc (Below.refl _ _) (Nat.le_refl _) _).trans (hb2.mono (by simp))
  have p0 : w2.cell? ⟨w.heap.size, 0, none⟩ = some (.int .i64 at_) := keep hb2 (by simp) (by simp [go_sem])
  have hcall : Calls Try.prog 41 #[v, .func (.func 42) #[] #[.pointer (some ⟨w.heap.size, 0, none⟩)]] w2 fun e w' => e = .returned (.bool (L.any fun x => x.f == at_)) ∧ Below w2.heap.size w2 w' := by
    have eg : ∀ args w, (callFunc 42 args).run Try.prog w = .ok (.enter 42 args) w := enters_of Try.func42 (by kernel_rfl) rfl
    have hp : PredBelow Try.prog 42 #[.pointer (some ⟨w.heap.size, 0, none⟩)] (fun x : Win => .agg (encW x).toArray) (fun x => x.f == at_) w2 := fun W x hbW =>
      (begins1_any x w.heap.size at_ W (Nat.lt_of_lt_of_le hb hbW.size) (keep hbW hb p0)).mono fun e w' ⟨h1, h2⟩ => ⟨h1, hbW.trans (h2.mono hbW.size)⟩
    rcases hown.2 with ⟨rfl, h0⟩ | ⟨gg, cap, cur, rfl, _, hh, _⟩
    · have hL : L = [] := List.length_eq_zero_iff.1 h0
      subst hL
      exact (contains_nil _ w2).mono fun e w' ⟨h1, h2⟩ => ⟨h1, h2 ▸ Below.refl _ _⟩
    · have hcon := AnyQ.slices_ContainsFunc Try.anySlot 3 Try.isAgg37 Try.sizeOf37 encW (fun _ => rfl) (fun x : Win => x.f == at_) 42 #[.pointer (some ⟨w.heap.size, 0, none⟩)] eg gg 0 L.length cap L w2 hp (Nat.le_refl _) (by omega) (heap_lt hh)
        (fun j hj i u hu => by
          have hi : i < 3 := by have := (List.getElem?_eq_some_iff.1 hu).1; simpa [encW] using this
          obtain ⟨a, b, c⟩ := winCells_at L j hj
          have hL : L[j]! = L[j] := by simp [hj]
          rw [hL] at hu
          rw [Nat.zero_add, hown.cellAt (j * 3 + i) (by omega), ← hu]
          have h3 : i = 0 ∨ i = 1 ∨ i = 2 := by omega
          rcases h3 with rfl | rfl | rfl
          · rw [Nat.add_zero, a]; rfl
          · rw [b]; rfl
          · rw [c]; rfl)
      change Calls Try.prog 41 _ _ _ at hcon
      rw [List.take_length] at hcon
      exact hcon
  have HC := Lib.hid hcall
  clear hcall
  go_wp2_with (fail)
  refine (HC.out).mono ?_
  rintro e w3 ⟨rfl, hb3⟩
  go_wp2_with (fail)
  go_ret
  exact ⟨rfl, kb.trans (hb3.mono kb.size)⟩

theorem s_used (pc pt : Nat) (fv : Value) (n place : Int) (U : Nat → Int) (part : Int) (g w : World) (R : HP) (h : Sat g w (clkP pc pt fv n place U * R)) :
    Calls Try.prog 12 #[.pointer (some ⟨pc, 0, none⟩), .int .i64 part] w fun e w' => e = .returned (.int .i64 (if 0 ≤ part ∧ part < 8 then U part.toNat else 0)) ∧ w = w' := by
  by_cases hp : 0 ≤ part ∧ part < 8
  · rw [if_pos hp]
    obtain ⟨h0, h1⟩ := hp
    obtain ⟨k, rfl⟩ := Int.eq_ofNat_of_zero_le h0
    have hu := h.inv.u k (by omega)
    rw [Int.toNat_natCast]
    go_enter Try.func12, Try.ntmps12
    go_wp2_with (fail)
    go_ret
    exact ⟨rfl, rfl⟩
  · rw [if_neg hp]
    have hh : part < 0 ∨ (¬ part < 0 ∧ 8 ≤ part) := by omega
    clear hp
    rcases hh with h1 | ⟨h1, h2⟩
    all_goals
      go_enter Try.func12, Try.ntmps12
      go_wp2_with (fail)
      go_ret
      exact ⟨rfl, rfl⟩

theorem clk_new (w : World) (pt : Nat) (t : TypeId) : ClockIn (w.alloc (.cells #[.pointer (some ⟨pt, 0, none⟩), .nilFunc, .int .i64 0, .int .i64 0, .int .i64 0, .int .i64 0, .int .i64 0, .int .i64 0, .int .i64 0, .int .i64 0, .int .i64 0, .int .i64 0] t)) w.heap.size pt .nilFunc 0 0 (fun _ => 0) := by
  refine ⟨by simp [go_sem], by simp [go_sem], by simp [go_sem], by simp [go_sem], fun i hi => ?_, fun j hj => by simp [go_sem], by simp⟩
  have : i = 0 ∨ i = 1 ∨ i = 2 ∨ i = 3 ∨ i = 4 ∨ i = 5 ∨ i = 6 ∨ i = 7 := by omega
  rcases this with h | h | h | h | h | h | h | h <;> subst h <;> simp [go_sem]
def ClkNew (g : World) (m : Int) (L : List Win) (R : HP) (e : Ending) (w' : World) : Prop := ∃ pc pt, e = .returned (.tuple #[.pointer (some ⟨pc, 0, none⟩), .int .i64 0]) ∧ Sat g w' (clkP pc pt .nilFunc 0 0 (fun _ => 0) * (tabP pt m L * R))
theorem s_majornew (pt : Nat) (m : Int) (L : List Win) (g w : World) (R : HP) (h : Sat g w (tabP pt m L * R)) :
    Calls Try.prog 8 #[.pointer (some ⟨pt, 0, none⟩)] w (ClkNew g m L (tabP pt m L * R)) := by
  have hcn := fun (w : World) pt => clk_new w pt 63
  have HCN := Lib.hid hcn
  clear hcn
  go_enter Try.func8, Try.ntmps8
  go_wp2_with (fail)
  refine (s_copy pt m L g _ R h).mono ?_
  rintro e w2 ⟨pc, rfl, h2⟩
  go_wp2_with (fail)
  go_ret2
  exact ⟨w2.heap.size, pc, rfl, h2.new (by repeat (first | with_reducible exact Below.refl _ _ | with_reducible assumption | with_reducible refine below_drewN ?_ _ | with_reducible refine Below.alloc ?_ (by simp <;> omega) _)) (HCN.out w2 pc) (loc_clk _ _ _ _ _ _) (fun k hk => by rw [hk]; exact Nat.le_refl _) (fun k hk => by rw [hk]; simp)⟩

theorem s_turn_none (pc pt : Nat) (n place : Int) (U : Nat → Int) (g w : World) (R : HP) (h : Sat g w (clkP pc pt .nilFunc n place U * R)) :
    Calls Try.prog 28 #[.pointer (some ⟨pc, 0, none⟩)] w fun e w' => e = .returned (.tuple #[]) ∧ w = w' := by
  have c1 := h.inv.c1
  have c3 := h.inv.c3
  cases hp : (place == 0)
  · go_enter Try.func28, Try.ntmps28
    go_wp2_with (fail)
    go_end0
    exact ⟨rfl, rfl⟩
  · have hq : ∀ w, (binOp .neq 61 .nilFunc .nilFunc).run Try.prog w = .ok (.bool false) w := fun _ => by kernel_rfl
    go_enter Try.func28, Try.ntmps28
    go_wp2_with (fail)
    go_end0
    exact ⟨rfl, rfl⟩

end Go.Proofs.Ytjacbcephokbbaa
