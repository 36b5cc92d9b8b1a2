/- A Buddy of package buddy in a world; put and take of a block. -/
import Derived.Test.YtoiiblajgkdabaaSeqI2
import Derived.Test.YtoiiblajgkdabaaMapB
import Derived.Test.YtoiiblajgkdabaaClass
import Derived.Deep.CutBlock
namespace Go.Proofs.Ytoiiblajgkdabaa
set_option linter.unusedSimpArgs false
set_option linter.unusedVariables false
set_option maxRecDepth 100000
open Go.RowKit
set_option maxHeartbeats 4000000

def budS (pb hb : Nat) (V : Nat → Value) (k : Nat) : Prop := k = pb ∨ k = hb ∨ ∃ i, i < 9 ∧ (V i).ownBlock = some k
structure BudIn (w : World) (pb pm hb : Nat) (V : Nat → Value) (F : Nat → List Int) (H : List Blk) : Prop where
  c0 : w.cell? ⟨pb, 0, none⟩ = some (.pointer (some ⟨pm, 0, none⟩))
  cl : ∀ i, i < 9 → w.cell? ⟨pb, 1 + i, none⟩ = some (V i)
  cm : w.cell? ⟨pb, 10, none⟩ = some (.map (some hb))
  free : ∀ j, j < 11 → w.frozen? ⟨pb, j, none⟩ = false
  rows : ∀ i, i < 9 → RowI w 0 (V i) (F i)
  apart : ∀ i j k, i < 9 → j < 9 → (V i).ownBlock = some k → (V j).ownBlock = some k → i = j
  nepb : ∀ i, i < 9 → (V i).ownBlock ≠ some pb
  nehb : ∀ i, i < 9 → (V i).ownBlock ≠ some hb
  ne : hb ≠ pb
  held : MapB w hb H
  lt : pb < w.heap.size
theorem own_heap' {w w' : World} {base e size n : Nat} {v : Value} {xs : List Value} (h : w.ownsRow base e size v n xs) (t : ∀ g, v.ownBlock = some g → w'.heap[g]? = w.heap[g]?) : w'.ownsRow base e size v n xs := by
  obtain ⟨h1, h2⟩ := h
  refine ⟨h1, ?_⟩
  rcases h2 with h2 | ⟨g, cap, cur, hv, hg, hh, r⟩
  · exact Or.inl h2
  · exact Or.inr ⟨g, cap, cur, hv, hg, (t g (by rw [hv]; rfl)).trans hh, r⟩
theorem heap_ltO {w w' : World} {k : Nat} (e : w'.heap[k]? = w.heap[k]?) (h : k < w.heap.size) : k < w'.heap.size := by
  rcases Nat.lt_or_ge k w'.heap.size with h' | h'
  · exact h'
  · rw [Array.getElem?_eq_none h', Array.getElem?_eq_getElem h] at e; cases e
theorem BudIn.heap {w w' : World} {pb pm hb : Nat} {V : Nat → Value} {F : Nat → List Int} {H : List Blk} (h : BudIn w pb pm hb V F H) (e : ∀ k, budS pb hb V k → w'.heap[k]? = w.heap[k]?) : BudIn w' pb pm hb V F H :=
  have ep := e pb (Or.inl rfl)
  ⟨(cell_of_heap ep _).trans h.c0, fun i hi => (cell_of_heap ep _).trans (h.cl i hi), (cell_of_heap ep _).trans h.cm, fun j hj => (frozen_of_heap ep _).trans (h.free j hj), fun i hi => own_heap' (h.rows i hi) (fun g hg => e g (Or.inr (Or.inr ⟨i, hi, hg⟩))),
   h.apart, h.nepb, h.nehb, h.ne, h.held.heap (e hb (Or.inr (Or.inl rfl))), heap_ltO ep h.lt⟩
theorem BudIn.slt {w : World} {pb pm hb : Nat} {V : Nat → Value} {F : Nat → List Int} {H : List Blk} (h : BudIn w pb pm hb V F H) : ∀ k, budS pb hb V k → k < w.heap.size := fun k hk => by
  rcases hk with rfl | rfl | ⟨i, hi, hk⟩
  · exact h.lt
  · exact h.held.lt
  · exact (World.ownsRow.lt (h.rows i hi) k hk).2
theorem BudIn.below {w w' : World} {pb pm hb : Nat} {V : Nat → Value} {F : Nat → List Int} {H : List Blk} (h : BudIn w pb pm hb V F H) (t : Below w.heap.size w w') : BudIn w' pb pm hb V F H := h.heap fun k hk => t.block k (h.slt k hk)
def upd {α : Type} (V : Nat → α) (o : Nat) (v : α) : Nat → α := fun i => if i = o then v else V i
theorem upd_same {α : Type} (V : Nat → α) (o : Nat) (v : α) : upd V o v o = v := by simp [upd]
theorem upd_other {α : Type} (V : Nat → α) {o i : Nat} (v : α) (h : i ≠ o) : upd V o v i = V i := by simp [upd, h]
/-- What a step leaves behind that has turned a Buddy. -/
def BudPost (w : World) (pb pm hb : Nat) (V : Nat → Value) (F' : Nat → List Int) (H' : List Blk) (w' : World) : Prop :=
  ∃ V', BudIn w' pb pm hb V' F' H' ∧ Touch (budS pb hb V) w w' ∧ ∀ k, budS pb hb V' k → budS pb hb V k ∨ w.heap.size ≤ k
theorem set_far (w : World) (b i j : Nat) (u : Value) (h : i ≠ j) : (w.setCell ⟨b, j, none⟩ u).cell? ⟨b, i, none⟩ = w.cell? ⟨b, i, none⟩ := World.cell?_setCell_other w ⟨b, j, none⟩ ⟨b, i, none⟩ u (fun e => by simp at e <;> omega)
/-- A list is another one now: in its place stands what a function has handed back. -/
theorem BudIn.list {w0 w w1 : World} {pb pm hb : Nat} {V : Nat → Value} {F : Nat → List Int} {H : List Blk} (h0 : BudIn w0 pb pm hb V F H) (hb0 : Below w0.heap.size w0 w) {o : Nat} (ho : o < 9) {L' : List Int} {a : Option Addr} {cap : Nat}
    (hr : RowI w1 0 (.slice a L'.length cap) L') (ht : Touch (fun k => (V o).ownBlock = some k) w w1) (hn : ∀ k, Value.ownBlock (.slice a L'.length cap) = some k → (V o).ownBlock = some k ∨ w.heap.size ≤ k) :
    BudPost w0 pb pm hb V (upd F o L') H (w1.setCell ⟨pb, 1 + o, none⟩ (.slice a L'.length cap)) := by
  have h := h0.below hb0
  have hk1 : ∀ k, budS pb hb V k → (V o).ownBlock ≠ some k → w1.heap[k]? = w.heap[k]? := fun k hk hne => ht.block k (h.slt k hk) hne
  have ep := hk1 pb (Or.inl rfl) (h.nepb o ho)
  have eh := hk1 hb (Or.inr (Or.inl rfl)) (h.nehb o ho)
  obtain ⟨u, hu⟩ : ∃ u, u = Value.slice a L'.length cap := ⟨_, rfl⟩
  rw [← hu] at hr hn ⊢
  have hset : ∀ k, k ≠ pb → (w1.setCell ⟨pb, 1 + o, none⟩ u).heap[k]? = w1.heap[k]? := fun k hk => Below.heap_setCell _ _ _ _ hk
  have hupb : ∀ k, u.ownBlock = some k → k ≠ pb ∧ k ≠ hb := fun k hk => by
    rcases hn k hk with e | e
    · exact ⟨fun e' => h.nepb o ho (e' ▸ e), fun e' => h.nehb o ho (e' ▸ e)⟩
    · have h1 := h.lt; have h2 := h.held.lt; exact ⟨by omega, by omega⟩
  have hV : ∀ i k, i < 9 → (upd V o u i).ownBlock = some k → (i = o ∧ u.ownBlock = some k) ∨ (i ≠ o ∧ (V i).ownBlock = some k) := fun i k _ hk => by
    by_cases e : i = o
    · subst e; rw [upd_same] at hk; exact Or.inl ⟨rfl, hk⟩
    · rw [upd_other V u e] at hk; exact Or.inr ⟨e, hk⟩
  have hcross : ∀ i k, i < 9 → i ≠ o → u.ownBlock = some k → (V i).ownBlock ≠ some k := fun i k hi hne hk he => by
    rcases hn k hk with e | e
    · exact hne (h.apart i o k hi ho he e)
    · have := h.slt k (Or.inr (Or.inr ⟨i, hi, he⟩)); omega
  refine ⟨upd V o u, ⟨?_, fun i hi => ?_, ?_, fun j hj => ?_, fun i hi => ?_, fun i j k hi hj h1 h2 => ?_, fun i hi e => ?_, fun i hi e => ?_, h.ne, (h.held.heap eh).heap (hset hb h.ne), ?_⟩, ?_, fun k hk => ?_⟩
  · have h1 := (cell_of_heap ep 0).trans h.c0
    rw [set_far _ _ _ _ _ (by omega)]; exact h1
  · by_cases e : i = o
    · subst e
      rw [upd_same]
      have := (cell_of_heap ep (1 + i)).trans (h.cl i hi)
      exact World.cell?_setCell_same' _ _ _ (by rw [this]; rfl)
    · rw [upd_other V u e]
      rw [set_far _ _ _ _ _ (by omega)]; exact (cell_of_heap ep _).trans (h.cl i hi)
  · rw [set_far _ _ _ _ _ (by omega)]; exact (cell_of_heap ep _).trans h.cm
  · rw [World.frozen?_setCell]; exact (frozen_of_heap ep _).trans (h.free j hj)
  · by_cases e : i = o
    · subst e
      rw [upd_same, upd_same]
      exact own_heap' hr (fun g hg => hset g (hupb g hg).1)
    · rw [upd_other V u e, upd_other F L' e]
      refine own_heap' (h.rows i hi) (fun g hg => (hset g (fun e' => h.nepb i hi (e' ▸ hg))).trans (hk1 g (Or.inr (Or.inr ⟨i, hi, hg⟩)) (fun e' => e (h.apart i o g hi ho hg e'))))
  · rcases hV i k hi h1 with ⟨e1, q1⟩ | ⟨e1, q1⟩ <;> rcases hV j k hj h2 with ⟨e2, q2⟩ | ⟨e2, q2⟩
    · rw [e1, e2]
    · exact absurd q2 (hcross j k hj e2 q1)
    · exact absurd q1 (hcross i k hi e1 q2)
    · exact h.apart i j k hi hj q1 q2
  · rcases hV i pb hi e with ⟨_, q⟩ | ⟨_, q⟩
    · exact (hupb pb q).1 rfl
    · exact h.nepb i hi q
  · rcases hV i hb hi e with ⟨_, q⟩ | ⟨_, q⟩
    · exact (hupb hb q).2 rfl
    · exact h.nehb i hi q
  · have := Nat.lt_of_lt_of_le h.lt ht.size
    simpa using this
  · refine ((Touch.of_below hb0).trans ((ht.mono (fun k _ hk => ?_)).setCell ?_ _))
    · exact Or.inr (Or.inr ⟨o, ho, hk⟩)
    · exact Or.inl (Or.inl rfl)
  · have hs := hb0.size
    rcases hk with rfl | rfl | ⟨i, hi, hk⟩
    · exact Or.inl (Or.inl rfl)
    · exact Or.inl (Or.inr (Or.inl rfl))
    · rcases hV i k hi hk with ⟨_, q⟩ | ⟨_, q⟩
      · rcases hn k q with e | e
        · exact Or.inl (Or.inr (Or.inr ⟨o, ho, e⟩))
        · exact Or.inr (by omega)
      · exact Or.inl (Or.inr (Or.inr ⟨i, hi, q⟩))

theorem bput_any (pb pm hb : Nat) (V : Nat → Value) (F : Nat → List Int) (H : List Blk) (f : Int) (o : Nat) (w : World) (h : BudIn w pb pm hb V F H) (ho : o < 9) (hs : (F o).Pairwise (· < ·)) (hl : (F o).length ≤ 1000000) :
    Calls Try.prog 49 #[.pointer (some ⟨pb, 0, none⟩), .agg #[.int .i64 f, .int .i64 o]] w fun e w' => e = .returned (.tuple #[]) ∧ BudPost w pb pm hb V (upd F o (addL (F o) f)) H w' := by
  obtain ⟨w1, hw1⟩ : ∃ w1, w1 = w.alloc (.cells #[.int .i64 f, .int .i64 o] 39) := ⟨_, rfl⟩
  have hb1 : Below w.heap.size w w1 := by rw [hw1]; repeat (first | with_reducible exact Below.refl _ _ | with_reducible assumption | with_reducible refine below_drewN ?_ _ | with_reducible refine Below.alloc ?_ (by simp <;> omega) _)
  have h1 := h.below hb1
  have d0 : w1.cell? ⟨w.heap.size, 0, none⟩ = some (.int .i64 f) := by rw [hw1]; simp [go_sem]
  have d1 : w1.cell? ⟨w.heap.size, 1, none⟩ = some (.int .i64 o) := by rw [hw1]; simp [go_sem]
  have hsz : w.heap.size < w1.heap.size := by rw [hw1]; simp
  obtain ⟨a, cap, hv⟩ := own_slice (h1.rows o ho)
  have gl := h1.cl o ho
  rw [hv] at gl
  have o0 : (0 : Int) ≤ (o : Int) := by omega
  have o9 : (o : Int) < 9 := by omega
  have hrow := h1.rows o ho
  rw [hv] at hrow
  have HV := Lib.hid hv
  have hown : ∀ k, (V o).ownBlock = some k → k < w.heap.size := fun k hk => h.slt k (Or.inr (Or.inr ⟨o, ho, hk⟩))
  have HO := Lib.hid hown
  have hnpb : w.heap.size ≠ pb := by have := h.lt; omega
  have hfz := h1.free (1 + o) (by omega)
  have hsr : (F o).Pairwise (· ≤ ·) := hs.imp (fun h => Int.le_of_lt h)
  obtain ⟨i, hi⟩ : ∃ i, (F o).countP (· < f) = i := ⟨_, rfl⟩
  have hil : i ≤ (F o).length := by rw [← hi]; exact List.countP_le_length
  have hadd : addL (F o) f = insL (F o) i f := by unfold addL; rw [hi]
  have hsea : ∀ w', w'.heap = w1.heap → Calls Try.prog 75 #[.slice a (F o).length cap, .int .i64 f] w' fun e w'' => e = .returned (.tuple #[.int .i64 i, .bool ((F o).contains f)]) ∧ ∃ q, w'' = w'.drewN q := fun w' hw => by
    have := search_any (.slice a (F o).length cap) (F o) f w' (own_heap' hrow (fun g _ => by rw [hw])) hsr hl
    rwa [hi] at this
  generalize (F o).contains f = is at hsea
  have HSEA := Lib.hid hsea
  have HADD := Lib.hid hadd
  have HROW := Lib.hid hrow
  clear hs hsr hi hadd hsea hrow hv hown
  have c1 : ∀ p : Wc (fun w' => w1.drew = w'), p.w.cell? ⟨w.heap.size, 1, none⟩ = some (.int .i64 o) := fun p => by rw [← p.h]; exact d1
  have c2 : ∀ p : Wc (fun w' => w1.drew = w'), p.w.cell? ⟨pb, 1 + o, none⟩ = some (.slice a (F o).length cap) := fun p => by rw [← p.h]; exact gl
  go_enter Try.func49, Try.ntmps49
  go_wp2_with (fail)
  rw [← hw1]
  clear hw1
  (refine region_class (fun w' => w1.drew = w') (by kernel_rfl) (by kernel_rfl) (rfl) ?_; intro _; (repeat (first | go_big_quiet_step (fail) | quiet_step (fail))); refine wpQuiet_nil ?_; intro wz hz)
  obtain rfl := hz
  clear c1 c2
  go_wp2_with (fail)
  refine (HSEA.out w1.drew rfl).mono ?_
  rintro e w' ⟨rfl, q, hw'⟩
  obtain ⟨w2, hw2⟩ : ∃ w2, w2 = w1.drew.drewN q := ⟨_, rfl⟩
  rw [hw', ← hw2]
  have hb2 : Below w1.heap.size w1 w2 := by rw [hw2]; repeat (first | with_reducible exact Below.refl _ _ | with_reducible assumption | with_reducible refine below_drewN ?_ _ | with_reducible refine Below.drew ?_ | with_reducible refine Below.setCell ?_ (by first | omega | (simp <;> omega)) _ | with_reducible refine Below.alloc ?_ (by first | omega | (simp <;> omega)) _)
  clear hw2 hw'
  have hbw2 : Below w.heap.size w w2 := hb1.trans (hb2.mono hb1.size)
  have hz2 := hb2.size
  have HSB : Hid (∀ w', Below w1.heap.size w1 w' → w'.cell? ⟨w.heap.size, 0, none⟩ = some (.int .i64 f) ∧ w'.cell? ⟨w.heap.size, 1, none⟩ = some (.int .i64 o)) := Lib.hid fun w' hb => ⟨keep hb hsz d0, keep hb hsz d1⟩
  have hfar : ∀ (w' : World) (u : Value) (j : Nat), (w'.setCell ⟨pb, 1 + o, none⟩ u).cell? ⟨w.heap.size, j, none⟩ = w'.cell? ⟨w.heap.size, j, none⟩ := fun w' u j => World.cell?_setCell_other w' ⟨pb, 1 + o, none⟩ ⟨w.heap.size, j, none⟩ u (fun e => by simp at e <;> first | exact hnpb e.1 | exact hnpb e.1.symm)
  have HFAR := Lib.hid hfar
  clear hfar d0 d1
  have fin : ∀ (w3 w4 : World) (a4 : Option Addr) (cap4 : Nat), Below w1.heap.size w1 w3 → RowI w4 0 (.slice a4 (insL (F o) i f).length cap4) (insL (F o) i f) → Touch (fun k => Value.ownBlock (.slice a (F o).length cap) = some k) w3 w4 →
      (∀ k, Value.ownBlock (.slice a4 (insL (F o) i f).length cap4) = some k → Value.ownBlock (.slice a (F o).length cap) = some k ∨ w3.heap.size ≤ k) → BudPost w pb pm hb V (upd F o (addL (F o) f)) H (w4.setCell ⟨pb, 1 + o, none⟩ (.slice a4 (insL (F o) i f).length cap4)) := fun w3 w4 a4 cap4 hb3 hr ht hn => by
    rw [HADD.out]
    rw [← HV.out] at ht hn
    exact h.list (hb1.trans (hb3.mono hb1.size)) ho hr ht hn
  have FIN := Lib.hid fin
  clear fin
  go_wp2_with (fail)
  go_region_held3 (fun w' => w'.cell? ⟨w.heap.size, 0, none⟩ = some (.int .i64 f) ∧ w'.cell? ⟨w.heap.size, 1, none⟩ = some (.int .i64 o)) (first | (refine HSB.out _ ?_; (repeat (first | with_reducible exact Below.refl _ _ | with_reducible assumption | with_reducible refine below_drewN ?_ _ | with_reducible refine Below.drew ?_ | with_reducible refine Below.setCell ?_ (by first | omega | (simp <;> omega)) _ | with_reducible refine Below.alloc ?_ (by first | omega | (simp <;> omega)) _)); done) | exact ⟨d40, d41⟩ | exact ⟨(HFAR.out _ _ _).trans d40, (HFAR.out _ _ _).trans d41⟩)
    ((go_at_call 77
      refine (ins_any (.slice a (F o).length cap) (F o) i f _ _ (by exact own_heap' HROW.out (fun g hg => Below.block (B := w1.heap.size) (by repeat (first | with_reducible exact Below.refl _ _ | with_reducible assumption | with_reducible refine below_drewN ?_ _ | with_reducible refine Below.drew ?_ | with_reducible refine Below.setCell ?_ (by first | omega | (simp <;> omega)) _ | with_reducible refine Below.alloc ?_ (by first | omega | (simp <;> omega)) _)) g (World.ownsRow.lt HROW.out g hg).2)) hil hl (by exact heap_alloc_new _ _) (fun e => by have h5 : w2.heap.size < w.heap.size := HO.out _ (by rw [HV.out]; exact e); have := hb1.size; omega)).mono ?_
      rintro e w4 ⟨a4, cap4, rfl, hr4, ht4, hn4⟩
      have hz4 := ht4.size
      have hnb : ∀ k, k < w1.heap.size → Value.ownBlock (.slice a (F o).length cap) ≠ some k → w4.heap[k]? = w1.heap[k]? := fun k hk hne => (ht4.block k (by simp; omega) hne).trans ((Below.block (B := w1.heap.size) (by repeat (first | with_reducible exact Below.refl _ _ | with_reducible assumption | with_reducible refine below_drewN ?_ _ | with_reducible refine Below.drew ?_ | with_reducible refine Below.setCell ?_ (by first | omega | (simp <;> omega)) _ | with_reducible refine Below.alloc ?_ (by first | omega | (simp <;> omega)) _)) k hk))
      have hno : Value.ownBlock (.slice a (F o).length cap) ≠ some w.heap.size := fun e => by have := HO.out _ (by rw [HV.out]; exact e); omega
      have d40 := (cell_of_heap (hnb _ hsz hno) 0).trans (HSB.out _ (Below.refl _ _)).1
      have d41 := (cell_of_heap (hnb _ hsz hno) 1).trans (HSB.out _ (Below.refl _ _)).2
      have hnp : Value.ownBlock (.slice a (F o).length cap) ≠ some pb := by rw [← HV.out]; exact h1.nepb o ho
      have e4 := (cell_of_heap (hnb _ h1.lt hnp) (1 + o)).trans gl
      have f4 := (frozen_of_heap (hnb _ h1.lt hnp) (1 + o)).trans hfz))
  all_goals
    go_wp2_with (fail)
    go_end0
    exact ⟨rfl, FIN.out _ _ _ _ (by repeat (first | with_reducible exact Below.refl _ _ | with_reducible assumption | with_reducible refine below_drewN ?_ _ | with_reducible refine Below.drew ?_ | with_reducible refine Below.setCell ?_ (by first | omega | (simp <;> omega)) _ | with_reducible refine Below.alloc ?_ (by first | omega | (simp <;> omega)) _)) hr4 ht4 hn4⟩

end Go.Proofs.Ytoiiblajgkdabaa
