/- Part 13 of the proofs: Awake04, BudMany, Sp, Tree, LawB. -/
import Derived.Test.YteehghjdifbjbaaQ12
import Derived.Test.YteehghjdifbjbaaQ8
import Derived.Laws.BitsLemmas
namespace Go.Proofs.Yteehghjdifbjbaa
set_option linter.unusedSimpArgs false
set_option linter.unusedVariables false
set_option maxRecDepth 100000
open Go.RowKit
set_option maxHeartbeats 4000000

theorem Sat.small {g w : World} {pb pm : Nat} {T : Nat → Prop} {H : List Blk} {R : HP} (h : Sat g w (midP pb pm T H * R)) : Small T := by
  obtain ⟨_, _, _, _, _, hs, _⟩ := h.mid
  exact hs
theorem awake_one {g : World} {pb pm : Nat} {R : HP} {e : Ending} {w' : World} (h : AllocPost g pb pm (rangeT 1 8) [] 1 R e w') :
    e = .returned (.tuple #[.int .i64 2, .int .i64 0]) ∧ Sat g w' (midP pb pm (minusQ (rangeT 1 8) 1 1) [(2, 1)] * R) := by
  have c1 : QCan (rangeT 1 8) 1 1 := (awake_can 1 1 (by omega)).2 ⟨rfl, by omega⟩
  cases h with
  | no he hn hs => exact absurd c1 (hn 1 (by omega) (by omega) 1)
  | yes a k f hk hk8 hc hl hf hff he hs =>
    obtain ⟨rfl, h2⟩ := (awake_can a k hk8).1 hc
    have hk1 : k = 1 := by
      rcases Nat.lt_or_ge 1 k with h | h
      · exact absurd c1 (hl 1 (by omega) h 1)
      · omega
    subst hk1
    subst hff
    exact ⟨he, hs⟩
theorem awake_two {g : World} {pb pm : Nat} {R : HP} {e : Ending} {w' : World} (h : AllocPost g pb pm (minusQ (rangeT 1 8) 1 1) [(2, 1)] 1 R e w') :
    e = .returned (.tuple #[.int .i64 4, .int .i64 0]) ∧ Sat g w' (midP pb pm (minusQ (minusQ (rangeT 1 8) 1 1) 2 1) [(2, 1), (4, 1)] * R) := by
  have c1 : QCan (rangeT 1 8) 1 1 := (awake_can 1 1 (by omega)).2 ⟨rfl, by omega⟩
  have hcm := fun b j hj => can_minus (T := rangeT 1 8) (a := 1) (o := 1) (by omega) c1 b j hj
  have c2 : QCan (minusQ (rangeT 1 8) 1 1) 1 2 := (hcm 1 2 (by omega)).2 ⟨(awake_can 1 2 (by omega)).2 ⟨rfl, by omega⟩, by omega⟩
  cases h with
  | no he hn hs => exact absurd c2 (hn 2 (by omega) (by omega) 1)
  | yes a k f hk hk8 hc hl hf hff he hs =>
    obtain ⟨h1, h3⟩ := (hcm a k hk8).1 hc
    obtain ⟨rfl, h2⟩ := (awake_can a k hk8).1 h1
    have hk1 : k = 2 := by omega
    subst hk1
    subst hff
    exact ⟨he, hs⟩
theorem awake_left : cnt (minusQ (minusQ (rangeT 1 8) 1 1) 2 1) 256 = 3 := by
  have c1 : QCan (rangeT 1 8) 1 1 := (awake_can 1 1 (by omega)).2 ⟨rfl, by omega⟩
  have c2 : QCan (minusQ (rangeT 1 8) 1 1) 1 2 := (can_minus (by omega) c1 1 2 (by omega)).2 ⟨(awake_can 1 2 (by omega)).2 ⟨rfl, by omega⟩, by omega⟩
  have h0 : cnt (rangeT 1 8) 256 = 7 := cnt_int 1 7 256 (by omega)
  have h1 := cnt_minus (k := 256) c1.1 (by omega)
  have h2 := cnt_minus (T := minusQ (rangeT 1 8) 1 1) (a := 2) (o := 1) (k := 256) (full_up (d := 1) (b := 1) c2.1 rfl) (by omega)
  omega

end Go.Proofs.Yteehghjdifbjbaa

namespace Go.Proofs.Yteehghjdifbjbaa
set_option linter.unusedSimpArgs false
set_option linter.unusedVariables false
set_option maxRecDepth 100000
open Go.RowKit
set_option maxHeartbeats 4000000

/-- What Alloc does, told by the block's place among those of its order. -/
inductive AllocAt (g : World) (pb pm : Nat) (T : Nat → Prop) (H : List Blk) (order : Nat) (R : HP) (e : Ending) (w' : World) : Prop
  | no (he : e = .returned (.tuple #[.int .i64 0, .int .i64 6])) (hn : ∀ c, ¬ QFull T c order) (hs : Sat g w' (midP pb pm T H * R))
  | yes (c : Nat) (hc : QFull T c order) (he : e = .returned (.tuple #[.int .i64 ((c * 2 ^ order : Nat) : Int), .int .i64 0])) (hs : Sat g w' (midP pb pm (minusQ T c order) (H ++ [(((c * 2 ^ order : Nat) : Int), (order : Int))]) * R))
theorem alloc_at {g : World} {pb pm : Nat} {T : Nat → Prop} {H : List Blk} {order : Nat} {R : HP} {e : Ending} {w' : World} (ho : order ≤ 8) (h : AllocPost g pb pm T H order R e w') : AllocAt g pb pm T H order R e w' := by
  cases h with
  | no he hn hs =>
    refine .no he (fun c hc => ?_) hs
    obtain ⟨b, k, h1, h2, h3, _⟩ := full_can (8 - order) c order (by omega) hc
    exact hn k h1 h2 b h3
  | yes a k f hk hk8 hc hl hf hff he hs =>
    obtain ⟨d, rfl⟩ : ∃ d, k = order + d := ⟨k - order, by omega⟩
    have hfe : f = (a * 2 ^ d) * 2 ^ order := by rw [hff, Nat.pow_add, Nat.mul_assoc, Nat.mul_comm (2 ^ d)]
    have hd : f / 2 ^ order = a * 2 ^ d := by rw [hfe]; exact in_block _ _
    rw [hd] at hs
    rw [hfe] at he hs
    exact .yes (a * 2 ^ d) (full_up (d := d) (b := a) hc.1 (in_block a d)) he hs
theorem s_alloc_at (pb pm : Nat) (T : Nat → Prop) (H : List Blk) (order r n : Nat) (g w : World) (R : HP) (h : Sat g w (midP pb pm T H * R)) (ho : order ≤ 8) (hi : InvB r n T H) :
    Calls Try.prog 64 #[.pointer (some ⟨pb, 0, none⟩), .int .i64 order] w (AllocAt g pb pm T H order R) := by
  refine (s_alloc pb pm T H order g w R h ho (fun x hx o hm => ?_)).mono fun e w' hp => alloc_at ho hp
  obtain ⟨a, k, _, hk⟩ := hi.blk _ hm
  refine hi.apart _ hm x ?_ hx
  rw [hk]
  refine (inB_of a k x).2 ?_
  have : (x : Int) = ((a * 2 ^ k : Nat) : Int) := congrArg Prod.fst hk
  have hx' : x = a * 2 ^ k := by omega
  rw [hx']; exact in_block a k

/-- How many blocks of an order are free as a whole. -/
noncomputable def numF (T : Nat → Prop) (o : Nat) : Nat := cnt (fun a => QFull T a o) 256
theorem full_minus {T : Nat → Prop} {c o : Nat} (a : Nat) : QFull (minusQ T c o) a o ↔ QFull T a o ∧ a ≠ c := by
  constructor
  · intro h
    refine ⟨fun x hx => (h x hx).1, fun e => ?_⟩
    exact (h _ (in_block a o)).2 (by rw [in_block]; exact e)
  · rintro ⟨h, hne⟩ x hx
    exact ⟨h x hx, fun e => hne (by rw [← hx, e])⟩
theorem lt_of_full {T : Nat → Prop} {c o : Nat} (hs : Small T) (h : QFull T c o) : c < 256 := by
  have h1 := full_small' hs h
  have h0 := Nat.two_pow_pos o
  have : (c + 1) * 1 ≤ (c + 1) * 2 ^ o := Nat.mul_le_mul_left _ h0
  omega
theorem numF_minus {T : Nat → Prop} {c o : Nat} (hs : Small T) (h : QFull T c o) : numF T o = numF (minusQ T c o) o + 1 := by
  unfold numF
  have h1 := cnt_add (T := fun a => QFull T a o) (A := fun a => QFull (minusQ T c o) a o) (B := fun a => c ≤ a ∧ a < c + 1) (fun a => by
    rw [full_minus]
    constructor
    · intro hf
      by_cases e : a = c
      · exact Or.inr (by omega)
      · exact Or.inl ⟨hf, e⟩
    · rintro (hf | hf)
      · exact hf.1
      · have : a = c := by omega
        rw [this]; exact h) (fun a h1 h2 => ((full_minus a).1 h1).2 (by omega)) 256
  rw [h1, cnt_int c 1 256 (by have := lt_of_full hs h; omega)]
theorem numF_none {T : Nat → Prop} {o : Nat} (h : ∀ c, ¬ QFull T c o) : numF T o = 0 := cnt_zero 256 fun x _ => h x
theorem numF_start (n o : Nat) (hn : n ≤ 256) : numF (rangeT 0 n) o = n / 2 ^ o := by
  have h0 := Nat.two_pow_pos o
  unfold numF
  rw [cnt_congr (U := fun a => 0 ≤ a ∧ a < 0 + n / 2 ^ o) 256 (fun a _ => by
    rw [full_range]
    have := Nat.le_div_iff_mul_le (k := 2 ^ o) (x := a + 1) (y := n) h0
    omega)]
  exact cnt_int 0 _ 256 (by have := Nat.div_le_self n (2 ^ o); omega)

end Go.Proofs.Yteehghjdifbjbaa

namespace Go.Proofs.Yteehghjdifbjbaa
set_option linter.unusedSimpArgs false
set_option linter.unusedVariables false
set_option maxRecDepth 100000
open Go.RowKit
set_option maxHeartbeats 4000000

theorem un_drew {B : Nat} {w w' : World} (h : Below B w.drew w') : Below B w w' := ⟨h.os, h.tape, h.output, h.size, h.block⟩
/-- An entry that stands in a variable. -/
structure EnAt (w : World) (b : Nat) (v wr tb : Bool) (fr : Int) : Prop where
  c0 : w.cell? ⟨b, 0, none⟩ = some (.bool v)
  c1 : w.cell? ⟨b, 1, none⟩ = some (.bool wr)
  c2 : w.cell? ⟨b, 2, none⟩ = some (.bool tb)
  c3 : w.cell? ⟨b, 3, none⟩ = some (.int .i64 fr)
  f0 : w.frozen? ⟨b, 0, none⟩ = false
  f1 : w.frozen? ⟨b, 1, none⟩ = false
  f2 : w.frozen? ⟨b, 2, none⟩ = false
  f3 : w.frozen? ⟨b, 3, none⟩ = false
  lt : b < w.heap.size
theorem EnAt.heap {w w' : World} {b : Nat} {v wr tb : Bool} {fr : Int} (h : EnAt w b v wr tb fr) (e : w'.heap[b]? = w.heap[b]?) : EnAt w' b v wr tb fr :=
  ⟨(cell_of_heap e _).trans h.c0, (cell_of_heap e _).trans h.c1, (cell_of_heap e _).trans h.c2, (cell_of_heap e _).trans h.c3, (frozen_of_heap e _).trans h.f0, (frozen_of_heap e _).trans h.f1, (frozen_of_heap e _).trans h.f2, (frozen_of_heap e _).trans h.f3, heap_ltO e h.lt⟩
theorem EnAt.below {w w' : World} {b : Nat} {v wr tb : Bool} {fr : Int} {B : Nat} (h : EnAt w b v wr tb fr) (t : Below B w w') (hB : b < B) : EnAt w' b v wr tb fr := h.heap (t.block b hB)
theorem EnAt.put {w : World} {b : Nat} {v wr tb : Bool} {fr : Int} (h : EnAt w b v wr tb fr) (v' wr' tb' : Bool) (fr' : Int) : EnAt ((((w.setCell ⟨b, 0, none⟩ (.bool v')).setCell ⟨b, 1, none⟩ (.bool wr')).setCell ⟨b, 2, none⟩ (.bool tb')).setCell ⟨b, 3, none⟩ (.int .i64 fr')) b v' wr' tb' fr' := by
  have c0 := h.c0; have c1 := h.c1; have c2 := h.c2; have c3 := h.c3; have f0 := h.f0; have f1 := h.f1; have f2 := h.f2; have f3 := h.f3; have lt := h.lt
  exact ⟨by simp [go_sem, c0], by simp [go_sem, c1], by simp [go_sem, c2], by simp [go_sem, c3], by simp [go_sem, f0], by simp [go_sem, f1], by simp [go_sem, f2], by simp [go_sem, f3], by simpa using lt⟩
theorem EnAt.new (w : World) (v wr tb : Bool) (fr : Int) (t : TypeId) : EnAt (w.alloc (.cells #[.bool v, .bool wr, .bool tb, .int .i64 fr] t)) w.heap.size v wr tb fr :=
  ⟨by simp [go_sem], by simp [go_sem], by simp [go_sem], by simp [go_sem], by simp [go_sem], by simp [go_sem], by simp [go_sem], by simp [go_sem], by simp⟩

/-- An address space. -/
structure SpIn (w : World) (ps pm pb r : Nat) : Prop where
  c0 : w.cell? ⟨ps, 0, none⟩ = some (.pointer (some ⟨pm, 0, none⟩))
  c1 : w.cell? ⟨ps, 1, none⟩ = some (.pointer (some ⟨pb, 0, none⟩))
  c2 : w.cell? ⟨ps, 2, none⟩ = some (.int .i64 r)
  lt : ps < w.heap.size
theorem SpIn.heap {w w' : World} {ps pm pb r : Nat} (h : SpIn w ps pm pb r) (e : w'.heap[ps]? = w.heap[ps]?) : SpIn w' ps pm pb r :=
  ⟨(cell_of_heap e _).trans h.c0, (cell_of_heap e _).trans h.c1, (cell_of_heap e _).trans h.c2, heap_ltO e h.lt⟩
theorem SpIn.below {w w' : World} {ps pm pb r : Nat} (h : SpIn w ps pm pb r) (b : Below w.heap.size w w') : SpIn w' ps pm pb r := h.heap (b.block ps h.lt)
def spP (ps pm pb r : Nat) : HP := ownP (fun k => k = ps) (fun w => SpIn w ps pm pb r)
theorem loc_sp (ps pm pb r : Nat) : Loc (fun k => k = ps) (fun w => SpIn w ps pm pb r) := fun _ _ h e => h.heap (e ps rfl)
theorem has_sp (ps pm pb r : Nat) : Has (spP ps pm pb r) ps := has_own rfl
theorem Sat.sp {g w : World} {ps pm pb r : Nat} {R : HP} (h : Sat g w (spP ps pm pb r * R)) : SpIn w ps pm pb r := Sat.inv h
theorem s_wput (pm n : Nat) (W : Nat → Int) (f p : Int) (v wr tb : Bool) (fr : Int) (g w : World) (R : HP) (h : Sat g w (memP pm n W * R)) :
    Calls Try.prog 17 #[.pointer (some ⟨pm, 0, none⟩), .int .i64 f, .int .i64 p, .agg #[.bool v, .bool wr, .bool tb, .int .i64 fr]] w fun e w' => e = .returned (.int .i64 (putE n f p v wr tb fr)) ∧ Sat g w' (memP pm n (putW W n f p v wr tb fr) * R) := by
  obtain ⟨bk, hm, _, hc⟩ := h.mem
  exact (put_any pm bk n W f p v wr tb fr w hm).mono fun e w' ⟨h1, h2, h3⟩ => ⟨h1, hc w' _ h3 h2⟩

theorem s_root (ps pm pb r : Nat) (g w : World) (R : HP) (h : Sat g w (spP ps pm pb r * R)) :
    Calls Try.prog 35 #[.pointer (some ⟨ps, 0, none⟩)] w fun e w' => e = .returned (.int .i64 r) ∧ w = w' := by
  have c2 := h.sp.c2
  go_enter Try.func35, Try.ntmps35
  go_wp2_with (fail)
  go_ret
  exact ⟨rfl, rfl⟩
theorem is_any (p : Int) (w : World) : Calls Try.prog 65 #[.int .i64 p] w fun e w' => e = .returned (.bool (decide (0 ≤ p) && decide (p < 4096))) ∧ w = w' := by
  by_cases h0 : 0 ≤ p
  · have g : decide (0 ≤ p) = true := decide_eq_true h0
    rw [g]
    go_enter Try.func65, Try.ntmps65
    go_wp2_with (fail)
    go_ret
    exact ⟨by simp, rfl⟩
  · have g : decide (0 ≤ p) = false := decide_eq_false h0
    rw [g]
    go_enter Try.func65, Try.ntmps65
    go_wp2_with (fail)
    go_ret
    exact ⟨by simp, rfl⟩

/-- What stands in the variables behind a Walk. -/
def WalkCut (w : World) (R : WRes) (s v e : Value) (wx : World) : Prop := ∃ be, s = .pointer (some ⟨be, 0, none⟩) ∧ e = .int .i64 R.e ∧ w.heap.size ≤ be ∧ EnAt wx be R.v R.wr R.tb R.fr ∧ wx.ownsRow w.heap.size 140 2 v R.st.length (wCells R.st) ∧ Below w.heap.size w wx ∧ v.ownBlock ≠ some be
theorem walkCut_new {w w3 : World} {B : Nat} {Q : WRes} {v : Value} (hB : w.heap.size ≤ B) (ho : w3.ownsRow B 140 2 v Q.st.length (wCells Q.st)) (hb : Below w.heap.size w w3) :
    WalkCut w Q (.pointer (some ⟨w3.heap.size, 0, none⟩)) v (.int .i64 Q.e) (w3.alloc (.cells #[.bool Q.v, .bool Q.wr, .bool Q.tb, .int .i64 Q.fr] 34)) :=
  ⟨_, rfl, rfl, hb.size, EnAt.new w3 _ _ _ _ _, own_low (ho.alloc _) hB, hb.alloc hb.size _, fun e => by have := (World.ownsRow.lt ho _ e).2; omega⟩
theorem walkCut_put {w w3 : World} {B : Nat} {Q : WRes} {v : Value} {v0 wr0 tb0 : Bool} {fr0 : Int} (hB : w.heap.size < B) (ho : w3.ownsRow B 140 2 v Q.st.length (wCells Q.st)) (he : EnAt w3 w.heap.size v0 wr0 tb0 fr0) (hb : Below w.heap.size w w3) :
    WalkCut w Q (.pointer (some ⟨w.heap.size, 0, none⟩)) v (.int .i64 Q.e) ((((w3.setCell ⟨w.heap.size, 0, none⟩ (.bool Q.v)).setCell ⟨w.heap.size, 1, none⟩ (.bool Q.wr)).setCell ⟨w.heap.size, 2, none⟩ (.bool Q.tb)).setCell ⟨w.heap.size, 3, none⟩ (.int .i64 Q.fr)) := by
  have ht : Touch (· = w.heap.size) w3 ((((w3.setCell ⟨w.heap.size, 0, none⟩ (.bool Q.v)).setCell ⟨w.heap.size, 1, none⟩ (.bool Q.wr)).setCell ⟨w.heap.size, 2, none⟩ (.bool Q.tb)).setCell ⟨w.heap.size, 3, none⟩ (.int .i64 Q.fr)) :=
    Touch.setCell (S := (· = w.heap.size)) (Touch.setCell (S := (· = w.heap.size)) (Touch.setCell (S := (· = w.heap.size)) (Touch.setCell (S := (· = w.heap.size)) (Touch.refl _ _) (Or.inl rfl) _) (Or.inl rfl) _) (Or.inl rfl) _) (Or.inl rfl) _
  exact ⟨_, rfl, rfl, Nat.le_refl _, he.put _ _ _ _, own_low (own_touch ho ht (fun g hg e => by omega)) (by omega), (((hb.setCell (Nat.le_refl _) _).setCell (Nat.le_refl _) _).setCell (Nat.le_refl _) _).setCell (Nat.le_refl _) _, fun e => by have := (World.ownsRow.lt ho _ e).1; omega⟩
theorem s_walk (pm n : Nat) (M : Nat → Int) (r : Nat) (p : Int) (g w : World) (R : HP) (h : Sat g w (memP pm n M * R)) (Q : WRes) (hQ : walkM M n r p = Q) :
    Calls Try.prog 66 #[.pointer (some ⟨pm, 0, none⟩), .int .i64 r, .int .i64 p] w fun e w' => ∃ v, e = .returned (.tuple #[.agg #[.bool Q.v, .bool Q.wr, .bool Q.tb, .int .i64 Q.fr], v, .int .i64 Q.e]) ∧ w'.ownsRow w.heap.size 140 2 v Q.st.length (wCells Q.st) ∧ Below w.heap.size w w' := by
  obtain ⟨bk, hm, _⟩ := h.mem
  exact (walk_any pm bk n M r p w hm Q hQ).mono fun e w' ⟨v, he, ho, hb⟩ => ⟨v, he, own_low ho (by omega), hb⟩

theorem s_find8 (ps pm pb r n : Nat) (M : Nat → Int) (p : Int) (g w : World) (R : HP) (h : Sat g w (spP ps pm pb r * (memP pm n M * R))) (Q : WRes) (hQ : walkM M n r p = Q) :
    Calls Try.prog 41 #[.pointer (some ⟨ps, 0, none⟩), .int .i64 p] w fun e w' => e = .returned (.tuple #[.agg #[.bool Q.v, .bool Q.wr, .bool Q.tb, .int .i64 Q.fr], .int .i64 Q.e]) ∧ Below w.heap.size w w' := by
  have HW : Hid (∀ w', Below w.heap.size w w' → Calls Try.prog 66 #[.pointer (some ⟨pm, 0, none⟩), .int .i64 r, .int .i64 p] w' fun e w2 => ∃ v, e = .returned (.tuple #[.agg #[.bool Q.v, .bool Q.wr, .bool Q.tb, .int .i64 Q.fr], v, .int .i64 Q.e]) ∧ w2.ownsRow w'.heap.size 140 2 v Q.st.length (wCells Q.st) ∧ Below w'.heap.size w' w2) := Lib.hid fun w' hb => s_walk pm n M r p g w' _ (h.below hb).swap Q hQ
  have hs := h.sp
  have c0 := hs.c0
  have c2 := hs.c2
  have hlt := hs.lt
  clear hQ
  have hne : ¬ ps = w.heap.size := by omega
  go_enter Try.func41, Try.ntmps41
  go_upto_region 1 with (fail)
  obtain ⟨w1, hw1⟩ : ∃ w1, w1 = w.alloc (.cells #[.bool false, .bool false, .bool false, .int .i64 0] 34) := ⟨_, rfl⟩
  have hb1 : Below w.heap.size w w1 := by rw [hw1]; repeat (first | with_reducible exact Below.refl _ _ | with_reducible assumption | with_reducible refine below_drewN ?_ _ | with_reducible refine Below.alloc ?_ (by simp <;> omega) _)
  have he1 := EnAt.new w false false false 0 34
  have hsz : w.heap.size < w1.heap.size := by rw [hw1]; simp
  rw [← hw1] at he1 ⊢
  clear hw1
  have hS : ∀ w', Below w1.heap.size w1 w' → w'.cell? ⟨ps, 0, none⟩ = some (.pointer (some ⟨pm, 0, none⟩)) ∧ w'.cell? ⟨ps, 2, none⟩ = some (.int .i64 r) := fun w' hb => ⟨keep (hb1.trans (hb.mono hb1.size)) hlt c0, keep (hb1.trans (hb.mono hb1.size)) hlt c2⟩
  go_cut [6, 7, 8] (fun s6 s7 s8 wx => WalkCut w1 Q s6 s7 s8 wx)
  case first =>
    go_region_held3 (fun w' => w'.cell? ⟨ps, 0, none⟩ = some (.pointer (some ⟨pm, 0, none⟩)) ∧ w'.cell? ⟨ps, 2, none⟩ = some (.int .i64 r)) (exact hS _ (by repeat (first | with_reducible exact Below.refl _ _ | with_reducible assumption | with_reducible refine below_drewN ?_ _ | with_reducible refine Below.drew ?_ | with_reducible refine Below.setCell ?_ (by first | omega | (simp <;> omega)) _ | with_reducible refine Below.alloc ?_ (by first | omega | (simp <;> omega)) _)))
      ((go_at_call 66
        refine (HW.out _ (hb1.trans (Below.mono (by repeat (first | with_reducible exact Below.refl _ _ | with_reducible assumption | with_reducible refine below_drewN ?_ _ | with_reducible refine Below.drew ?_ | with_reducible refine Below.setCell ?_ (by first | omega | (simp <;> omega)) _ | with_reducible refine Below.alloc ?_ (by first | omega | (simp <;> omega)) _)) hb1.size))).mono ?_
        rintro e w3 ⟨v, rfl, hown3, hb3'⟩
        first
          | (have hb4 := un_drew hb3'; have he := (EnAt.new w1 false false false 0 34).below hb4 (by simp); have hb3 : Below w1.heap.size w1 w3 := (Below.alloc (Below.refl _ _) (Nat.le_refl _) _).trans (hb4.mono (by simp)); have hs3 := hb3.size; have g0 := he.c0; have g1 := he.c1; have g2 := he.c2; have g3 := he.c3; have g4 := he.f0; have g5 := he.f1; have g6 := he.f2; have g7 := he.f3)
          | (have hb3 : Below w1.heap.size w1 w3 := un_drew hb3'; have hs3 := hb3.size)))
    · go_wp2_with (fail)
      go_meet
      exact walkCut_new (by simp) hown3 hb3
    · go_wp2_with (fail)
      go_meet
      exact walkCut_put (by simp) hown3 he hb3
  case rest =>
    obtain ⟨be, rfl, rfl, hbe, he, _, hb, _⟩ := hcut
    have x0 := he.c0; have x1 := he.c1; have x2 := he.c2; have x3 := he.c3
    have he2 := he1.below hb hsz
    have y0 := he2.c0; have y1 := he2.c1; have y2 := he2.c2; have y3 := he2.c3; have z0 := he2.f0; have z1 := he2.f1; have z2 := he2.f2; have z3 := he2.f3
    have hl2 := he2.lt
    clear hS HW
    go_wp2_with (fail)
    refine bodyPost_ret (v := .tuple #[.agg #[.bool Q.v, .bool Q.wr, .bool Q.tb, .int .i64 Q.fr], .int .i64 Q.e]) (by simp [results, Try.results41, go_sem, *]) rfl ⟨rfl, ?_⟩
    have hb2 := hb1.trans (hb.mono hb1.size)
    repeat (first | with_reducible exact Below.refl _ _ | with_reducible assumption | with_reducible refine below_drewN ?_ _ | with_reducible refine Below.drew ?_ | with_reducible refine Below.setCell ?_ (by first | omega | (simp <;> omega)) _ | with_reducible refine Below.alloc ?_ (by first | omega | (simp <;> omega)) _)

end Go.Proofs.Yteehghjdifbjbaa

namespace Go.Proofs.Yteehghjdifbjbaa
set_option linter.unusedSimpArgs false
set_option linter.unusedVariables false
set_option maxRecDepth 100000
open Go.RowKit

/-- Tables of three levels, and pages. -/
structure Tree where
  root : Nat
  t1 : Nat → Option Nat
  t2 : Nat → Option Nat
  pg : Nat → Option (Nat × Bool)
/-- The word of a table; of a page. -/
def tWd : Option Nat → Int
  | none => 0
  | some f => wordI true false true f
def pWd : Option (Nat × Bool) → Int
  | none => 0
  | some x => wordI true x.2 false x.1
structure TreeW (n : Nat) (M : Nat → Int) (t : Tree) : Prop where
  lr : t.root < n
  lt1 : ∀ i f, t.t1 i = some f → i < 16 ∧ f < n
  lt2 : ∀ q f, t.t2 q = some f → q < 256 ∧ f < n
  ltp : ∀ p x, t.pg p = some x → p < 4096 ∧ x.1 < n
  up2 : ∀ q f, t.t2 q = some f → ∃ f1, t.t1 (q / 16) = some f1
  upp : ∀ p x, t.pg p = some x → ∃ f2, t.t2 (p / 16) = some f2
  a01 : ∀ i f, t.t1 i = some f → f ≠ t.root
  a02 : ∀ q f, t.t2 q = some f → f ≠ t.root
  a11 : ∀ i i' f, t.t1 i = some f → t.t1 i' = some f → i = i'
  a22 : ∀ q q' f, t.t2 q = some f → t.t2 q' = some f → q = q'
  a12 : ∀ i q f, t.t1 i = some f → t.t2 q = some f → False
  w0 : ∀ i, i < 16 → M (16 * t.root + i) = tWd (t.t1 i)
  w1 : ∀ i f, t.t1 i = some f → ∀ j, j < 16 → M (16 * f + j) = tWd (t.t2 (16 * i + j))
  w2 : ∀ q f, t.t2 q = some f → ∀ k, k < 16 → M (16 * f + k) = pWd (t.pg (16 * q + k))
/-- Is a frame a table's? -/
def isTab (t : Tree) (f : Nat) : Prop := f = t.root ∨ (∃ i, t.t1 i = some f) ∨ ∃ q, t.t2 q = some f

theorem word_parts {v wr tb : Bool} {fr : Int} (h : rightB v wr tb fr = true) : oE (wordI v wr tb fr) = 0 ∧ oV (wordI v wr tb fr) = v ∧ oW (wordI v wr tb fr) = wr ∧ oT (wordI v wr tb fr) = tb ∧ oF (wordI v wr tb fr) = fr := by
  obtain ⟨a, b, c, d⟩ := parts_of_word v wr tb fr h
  have e := word_ofB v wr tb fr h
  simp [oE, oV, oW, oT, oF, a, b, c, d, e]
theorem right_tab {f : Nat} (h : f < 256) : rightB true false true f = true := by
  unfold rightB; simp; omega
theorem right_pg {f : Nat} (w : Bool) (h : f < 256) : rightB true w false f = true := by
  unfold rightB; simp; omega
theorem zero_parts : oE 0 = 0 ∧ oV 0 = false := by decide
theorem inT_nat {n f k : Nat} (hf : f < n) (hk : k < 16) : inT n f k := ⟨⟨by omega, by omega⟩, ⟨by omega, by omega⟩⟩
theorem at_nat (f k : Nat) : (16 * (f : Int) + (k : Int)).toNat = 16 * f + k := by omega
theorem get_nat {M : Nat → Int} {n f k : Nat} (hf : f < n) (hk : k < 16) : gE M n f k = (if oE (M (16 * f + k)) = 0 then 0 else 11) ∧ gV M n f k = oV (M (16 * f + k)) ∧ gW M n f k = oW (M (16 * f + k)) ∧ gT M n f k = oT (M (16 * f + k)) ∧ gF M n f k = oF (M (16 * f + k)) := by
  have h := inT_nat hf hk
  unfold gE gV gW gT gF
  simp only [h, if_true, decide_true, Bool.true_and, at_nat, and_self]

/-- What a walk finds. -/
def walkT (t : Tree) (p : Nat) : WRes := match t.t1 (p / 256) with
  | none => ⟨false, false, false, 0, [((t.root : Int), ((p / 256 : Nat) : Int))], 10⟩
  | some f1 => match t.t2 (p / 16) with
    | none => ⟨false, false, false, 0, [((t.root : Int), ((p / 256 : Nat) : Int)), ((f1 : Int), ((p / 16 % 16 : Nat) : Int))], 10⟩
    | some f2 => match t.pg p with
      | none => ⟨false, false, false, 0, [((t.root : Int), ((p / 256 : Nat) : Int)), ((f1 : Int), ((p / 16 % 16 : Nat) : Int)), ((f2 : Int), ((p % 16 : Nat) : Int))], 10⟩
      | some x => ⟨true, x.2, false, x.1, [((t.root : Int), ((p / 256 : Nat) : Int)), ((f1 : Int), ((p / 16 % 16 : Nat) : Int)), ((f2 : Int), ((p % 16 : Nat) : Int))], 0⟩
theorem idx0 (p : Nat) : idxI p 0 = ((p / 256 : Nat) : Int) := by unfold idxI; rw [if_pos rfl]; push_cast; rfl
theorem idx1 (p : Nat) : idxI p 1 = ((p / 16 % 16 : Nat) : Int) := by unfold idxI; rw [if_neg (by decide), if_pos rfl]; push_cast; rfl
theorem idx2 (p : Nat) : idxI p 2 = ((p % 16 : Nat) : Int) := by unfold idxI; rw [if_neg (by decide), if_neg (by decide)]; push_cast; rfl
theorem walk_tree {n : Nat} {M : Nat → Int} {t : Tree} (h : TreeW n M t) (hn : n ≤ 256) (p : Nat) (hp : p < 4096) : walkM M n t.root p = walkT t p := by
  have hr := h.lr
  unfold walkM
  rw [if_pos ⟨⟨by omega, by omega⟩, ⟨by omega, by omega⟩⟩]
  have k0 : p / 256 < 16 := by omega
  obtain ⟨e0, v0, _, t0, f0⟩ := get_nat (M := M) hr k0
  have x0 := h.w0 (p / 256) k0
  unfold walkL
  simp only [show (2 : Int) - ((2 : Nat) : Int) = 0 by rfl, idx0, e0, v0, t0, f0, x0]
  unfold walkT
  cases h1 : t.t1 (p / 256) with
  | none => simp [tWd, zero_parts]
  | some f1 =>
    have l1 := (h.lt1 _ _ h1).2
    obtain ⟨a, b, _, d, e⟩ := word_parts (right_tab (f := f1) (by omega))
    simp only [tWd, a, b, d, e]
    have k1 : p / 16 % 16 < 16 := by omega
    obtain ⟨e1, v1, _, t1', f1'⟩ := get_nat (M := M) l1 k1
    have x1 := h.w1 _ _ h1 _ k1
    rw [show 16 * (p / 256) + p / 16 % 16 = p / 16 by omega] at x1
    unfold walkL
    simp only [show (2 : Int) - ((1 : Nat) : Int) = 1 by rfl, idx1, e1, v1, t1', f1', x1]
    cases h2 : t.t2 (p / 16) with
    | none => simp [tWd, zero_parts]
    | some f2 =>
      have l2 := (h.lt2 _ _ h2).2
      obtain ⟨a, b, _, d, e⟩ := word_parts (right_tab (f := f2) (by omega))
      simp only [tWd, a, b, d, e]
      have k2 : p % 16 < 16 := by omega
      obtain ⟨e2, v2, g2, t2', f2'⟩ := get_nat (M := M) l2 k2
      have x2 := h.w2 _ _ h2 _ k2
      rw [show 16 * (p / 16) + p % 16 = p by omega] at x2
      unfold walkL
      simp only [show (2 : Int) - ((0 : Nat) : Int) = 2 by rfl, idx2, e2, v2, g2, t2', f2', x2]
      cases h3 : t.pg p with
      | none => simp [pWd, zero_parts]
      | some x =>
        have l3 := (h.ltp _ _ h3).2
        obtain ⟨a, b, c, d, e⟩ := word_parts (right_pg (f := x.1) x.2 (by omega))
        simp [pWd, a, b, c, d, e]
theorem walk_bad {n : Nat} {M : Nat → Int} {r : Nat} {p : Int} (h : ¬ (0 ≤ p ∧ p < 4096)) : walkM M n r p = ⟨false, false, false, 0, [], 1⟩ := by
  unfold walkM
  rw [if_neg (fun h' => h h'.2)]

/-! ### Entries laid and taken away -/
def updF {α : Type} (F : Nat → α) (k : Nat) (v : α) : Nat → α := fun i => if i = k then v else F i
theorem updF_same {α : Type} (F : Nat → α) (k : Nat) (v : α) : updF F k v k = v := by simp [updF]
theorem updF_ne {α : Type} (F : Nat → α) {k i : Nat} (v : α) (h : i ≠ k) : updF F k v i = F i := by simp [updF, h]
/-- The words elsewhere are as they were. -/
def SameBut (f : Nat) (M M' : Nat → Int) : Prop := ∀ a, a / 16 ≠ f → M' a = M a
theorem setW_same (M : Nat → Int) (a : Nat) (x : Int) : setW M a x a = x := by simp [setW]
theorem setW_ne (M : Nat → Int) {a b : Nat} (x : Int) (h : b ≠ a) : setW M a x b = M b := by simp [setW, h]
/-- A page's entry is laid, or taken away. -/
theorem TreeW.setPg {n : Nat} {M : Nat → Int} {t : Tree} (h : TreeW n M t) {p f2 : Nat} (h2 : t.t2 (p / 16) = some f2) (x : Option (Nat × Bool)) (hx : ∀ y, x = some y → y.1 < n) : TreeW n (setW M (16 * f2 + p % 16) (pWd x)) { t with pg := updF t.pg p x } := by
  obtain ⟨l2, l2'⟩ := h.lt2 _ _ h2
  have hne : ∀ f k, k < 16 → f ≠ f2 → setW M (16 * f2 + p % 16) (pWd x) (16 * f + k) = M (16 * f + k) := fun f k hk hf => setW_ne _ _ (by omega)
  refine ⟨h.lr, h.lt1, h.lt2, fun q y hy => ?_, h.up2, fun q y hy => ?_, h.a01, h.a02, h.a11, h.a22, h.a12, fun i hi => ?_, fun i f hf j hj => ?_, fun q f hf k hk => ?_⟩
  · replace hy : updF t.pg p x q = some y := hy
    by_cases e : q = p
    · subst e
      rw [updF_same] at hy
      exact ⟨by omega, hx y hy⟩
    · rw [updF_ne _ _ e] at hy; exact h.ltp q y hy
  · replace hy : updF t.pg p x q = some y := hy
    by_cases e : q = p
    · subst e; exact ⟨f2, h2⟩
    · rw [updF_ne _ _ e] at hy; exact h.upp q y hy
  · rw [hne _ _ hi (fun e => h.a02 _ _ h2 e.symm)]; exact h.w0 i hi
  · rw [hne _ _ hj (fun e => h.a12 _ _ _ hf (e ▸ h2))]; exact h.w1 i f hf j hj
  · by_cases e : f = f2
    · subst e
      obtain rfl := h.a22 _ _ _ hf h2
      by_cases e2 : k = p % 16
      · rw [e2, setW_same, show 16 * (p / 16) + p % 16 = p by omega]
        show _ = pWd (updF t.pg p x p)
        rw [updF_same]
      · rw [setW_ne _ _ (by omega)]
        show _ = pWd (updF t.pg p x _)
        rw [updF_ne _ _ (by omega)]
        exact h.w2 _ _ hf k hk
    · rw [hne _ _ hk e]
      show _ = pWd (updF t.pg p x _)
      rw [updF_ne _ _ (fun e2 => e (by
        have : q = p / 16 := by omega
        rw [this] at hf
        rw [hf] at h2
        exact Option.some.inj h2))]
      exact h.w2 _ _ hf k hk
/-- A table of the last level is laid. -/
theorem TreeW.setT2 {n : Nat} {M : Nat → Int} {t : Tree} (h : TreeW n M t) {q f1 c : Nat} (h1 : t.t1 (q / 16) = some f1) (h2 : t.t2 q = none) (hc : c < n) (hnt : ¬ isTab t c) (hz : ∀ k, k < 16 → M (16 * c + k) = 0) : TreeW n (setW M (16 * f1 + q % 16) (tWd (some c))) { t with t2 := updF t.t2 q (some c) } := by
  obtain ⟨l1, l1'⟩ := h.lt1 _ _ h1
  have c0 : c ≠ t.root := fun e => hnt (Or.inl e)
  have c1 : ∀ i, t.t1 i ≠ some c := fun i e => hnt (Or.inr (Or.inl ⟨i, e⟩))
  have c2 : ∀ i, t.t2 i ≠ some c := fun i e => hnt (Or.inr (Or.inr ⟨i, e⟩))
  have hne : ∀ f k, k < 16 → f ≠ f1 → setW M (16 * f1 + q % 16) (tWd (some c)) (16 * f + k) = M (16 * f + k) := fun f k hk hf => setW_ne _ _ (by omega)
  have hpn : ∀ k, k < 16 → t.pg (16 * q + k) = none := fun k hk => by
    cases e : t.pg (16 * q + k) with
    | none => rfl
    | some y =>
      obtain ⟨f, hf⟩ := h.upp _ _ e
      rw [show (16 * q + k) / 16 = q by omega, h2] at hf; cases hf
  have hu : ∀ i f, updF t.t2 q (some c) i = some f → (i = q ∧ f = c) ∨ (i ≠ q ∧ t.t2 i = some f) := fun i f hf => by
    by_cases e : i = q
    · subst e; rw [updF_same] at hf; exact Or.inl ⟨rfl, (Option.some.inj hf).symm⟩
    · rw [updF_ne _ _ e] at hf; exact Or.inr ⟨e, hf⟩
  refine ⟨h.lr, h.lt1, fun i f hf => ?_, h.ltp, fun i f hf => ?_, fun p y hy => ?_, h.a01, fun i f hf => ?_, h.a11, fun i i' f hf hf' => ?_, fun i j f hf hf' => ?_, fun i hi => ?_, fun i f hf j hj => ?_, fun i f hf k hk => ?_⟩
  · rcases hu i f hf with ⟨rfl, rfl⟩ | ⟨_, hf⟩
    · exact ⟨by omega, hc⟩
    · exact h.lt2 i f hf
  · rcases hu i f hf with ⟨rfl, rfl⟩ | ⟨_, hf⟩
    · exact ⟨f1, h1⟩
    · exact h.up2 i f hf
  · obtain ⟨f, hf⟩ := h.upp p y hy
    have : p / 16 ≠ q := fun e => by rw [e, h2] at hf; cases hf
    exact ⟨f, by show updF t.t2 q (some c) (p / 16) = _; rw [updF_ne _ _ this]; exact hf⟩
  · rcases hu i f hf with ⟨rfl, rfl⟩ | ⟨_, hf⟩
    · exact c0
    · exact h.a02 i f hf
  · rcases hu i f hf with ⟨e1, e2⟩ | ⟨_, g1⟩ <;> rcases hu i' f hf' with ⟨e3, e4⟩ | ⟨_, g2⟩
    · rw [e1, e3]
    · exact absurd (e2 ▸ g2) (c2 _)
    · exact absurd (e4 ▸ g1) (c2 _)
    · exact h.a22 _ _ _ g1 g2
  · rcases hu j f hf' with ⟨rfl, rfl⟩ | ⟨_, hf'⟩
    · exact c1 _ hf
    · exact h.a12 _ _ _ hf hf'
  · rw [hne _ _ hi (fun e => h.a01 _ _ h1 e.symm)]; exact h.w0 i hi
  · show _ = tWd (updF t.t2 q (some c) _)
    by_cases e : f = f1
    · subst e
      obtain rfl := h.a11 _ _ _ hf h1
      by_cases e2 : j = q % 16
      · rw [e2, setW_same, show 16 * (q / 16) + q % 16 = q by omega, updF_same]
      · rw [setW_ne _ _ (by omega), updF_ne _ _ (by omega)]
        exact h.w1 _ _ hf j hj
    · rw [hne _ _ hj e, updF_ne _ _ (fun e2 => e (by
        have : i = q / 16 := by omega
        rw [this, h1] at hf
        exact (Option.some.inj hf).symm))]
      exact h.w1 _ _ hf j hj
  · rcases hu i f hf with ⟨rfl, rfl⟩ | ⟨_, hf⟩
    · rw [hne _ _ hk (fun e => c1 _ (e ▸ h1)), hz k hk]
      show _ = pWd (t.pg _)
      rw [hpn k hk]; rfl
    · rw [hne _ _ hk (fun e => h.a12 _ _ _ h1 (e ▸ hf))]
      exact h.w2 _ _ hf k hk
/-- A table of the second level is laid. -/
theorem TreeW.setT1 {n : Nat} {M : Nat → Int} {t : Tree} (h : TreeW n M t) {i c : Nat} (hi : i < 16) (h1 : t.t1 i = none) (hc : c < n) (hnt : ¬ isTab t c) (hz : ∀ k, k < 16 → M (16 * c + k) = 0) : TreeW n (setW M (16 * t.root + i) (tWd (some c))) { t with t1 := updF t.t1 i (some c) } := by
  have c0 : c ≠ t.root := fun e => hnt (Or.inl e)
  have c1 : ∀ i, t.t1 i ≠ some c := fun i e => hnt (Or.inr (Or.inl ⟨i, e⟩))
  have c2 : ∀ i, t.t2 i ≠ some c := fun i e => hnt (Or.inr (Or.inr ⟨i, e⟩))
  have hne : ∀ f k, k < 16 → f ≠ t.root → setW M (16 * t.root + i) (tWd (some c)) (16 * f + k) = M (16 * f + k) := fun f k hk hf => setW_ne _ _ (by omega)
  have hpn : ∀ k, k < 16 → t.t2 (16 * i + k) = none := fun k hk => by
    cases e : t.t2 (16 * i + k) with
    | none => rfl
    | some y =>
      obtain ⟨f, hf⟩ := h.up2 _ _ e
      rw [show (16 * i + k) / 16 = i by omega, h1] at hf; cases hf
  have hu : ∀ j f, updF t.t1 i (some c) j = some f → (j = i ∧ f = c) ∨ (j ≠ i ∧ t.t1 j = some f) := fun j f hf => by
    by_cases e : j = i
    · subst e; rw [updF_same] at hf; exact Or.inl ⟨rfl, (Option.some.inj hf).symm⟩
    · rw [updF_ne _ _ e] at hf; exact Or.inr ⟨e, hf⟩
  refine ⟨h.lr, fun j f hf => ?_, h.lt2, h.ltp, fun q f hf => ?_, h.upp, fun j f hf => ?_, h.a02, fun j j' f hf hf' => ?_, h.a22, fun j q f hf hf' => ?_, fun j hj => ?_, fun j f hf k hk => ?_, fun q f hf k hk => ?_⟩
  · rcases hu j f hf with ⟨rfl, rfl⟩ | ⟨_, hf⟩
    · exact ⟨hi, hc⟩
    · exact h.lt1 j f hf
  · obtain ⟨f1, hf1⟩ := h.up2 q f hf
    have : q / 16 ≠ i := fun e => by rw [e, h1] at hf1; cases hf1
    exact ⟨f1, by show updF t.t1 i (some c) (q / 16) = _; rw [updF_ne _ _ this]; exact hf1⟩
  · rcases hu j f hf with ⟨rfl, rfl⟩ | ⟨_, hf⟩
    · exact c0
    · exact h.a01 j f hf
  · rcases hu j f hf with ⟨e1, e2⟩ | ⟨_, g1⟩ <;> rcases hu j' f hf' with ⟨e3, e4⟩ | ⟨_, g2⟩
    · rw [e1, e3]
    · exact absurd (e2 ▸ g2) (c1 _)
    · exact absurd (e4 ▸ g1) (c1 _)
    · exact h.a11 _ _ _ g1 g2
  · rcases hu j f hf with ⟨rfl, rfl⟩ | ⟨_, hf⟩
    · exact c2 _ hf'
    · exact h.a12 _ _ _ hf hf'
  · show _ = tWd (updF t.t1 i (some c) j)
    by_cases e : j = i
    · subst e; rw [setW_same, updF_same]
    · rw [setW_ne _ _ (by omega), updF_ne _ _ e]; exact h.w0 j hj
  · rcases hu j f hf with ⟨rfl, rfl⟩ | ⟨_, hf⟩
    · rw [hne _ _ hk c0, hz k hk]
      show _ = tWd (t.t2 _)
      rw [hpn k hk]; rfl
    · rw [hne _ _ hk (h.a01 _ _ hf)]; exact h.w1 _ _ hf k hk
  · rw [hne _ _ hk (h.a02 _ _ hf)]; exact h.w2 _ _ hf k hk
/-- A table of the last level that has nothing is taken away. -/
theorem TreeW.delT2 {n : Nat} {M M' : Nat → Int} {t : Tree} (h : TreeW n M t) {q f1 f2 : Nat} (h1 : t.t1 (q / 16) = some f1) (h2 : t.t2 q = some f2) (hp : ∀ k, k < 16 → t.pg (16 * q + k) = none) (hs : SameBut f2 M M') : TreeW n (setW M' (16 * f1 + q % 16) 0) { t with t2 := updF t.t2 q none } := by
  obtain ⟨l2, _⟩ := h.lt2 _ _ h2
  have hne : ∀ f k, k < 16 → f ≠ f1 → f ≠ f2 → setW M' (16 * f1 + q % 16) 0 (16 * f + k) = M (16 * f + k) := fun f k hk hf hf' => by
    rw [setW_ne _ _ (by omega)]; exact hs _ (by omega)
  have hu : ∀ i f, updF t.t2 q none i = some f → i ≠ q ∧ t.t2 i = some f := fun i f hf => by
    by_cases e : i = q
    · subst e; rw [updF_same] at hf; cases hf
    · rw [updF_ne _ _ e] at hf; exact ⟨e, hf⟩
  refine ⟨h.lr, h.lt1, fun i f hf => h.lt2 i f (hu i f hf).2, h.ltp, fun i f hf => h.up2 i f (hu i f hf).2, fun p y hy => ?_, h.a01, fun i f hf => h.a02 i f (hu i f hf).2, h.a11, fun i i' f hf hf' => h.a22 _ _ _ (hu _ _ hf).2 (hu _ _ hf').2, fun i j f hf hf' => h.a12 _ _ _ hf (hu _ _ hf').2, fun i hi => ?_, fun i f hf j hj => ?_, fun i f hf k hk => ?_⟩
  · obtain ⟨f, hf⟩ := h.upp p y hy
    have : p / 16 ≠ q := fun e => by
      have := hp (p % 16) (by omega)
      rw [show 16 * q + p % 16 = p by omega, hy] at this; cases this
    exact ⟨f, by show updF t.t2 q none (p / 16) = _; rw [updF_ne _ _ this]; exact hf⟩
  · rw [hne _ _ hi (fun e => h.a01 _ _ h1 e.symm) (fun e => h.a02 _ _ h2 e.symm)]; exact h.w0 i hi
  · show _ = tWd (updF t.t2 q none _)
    have nf2 : f ≠ f2 := fun e => h.a12 _ _ _ hf (e ▸ h2)
    by_cases e : f = f1
    · subst e
      obtain rfl := h.a11 _ _ _ hf h1
      by_cases e2 : j = q % 16
      · rw [e2, setW_same, show 16 * (q / 16) + q % 16 = q by omega, updF_same]; rfl
      · rw [setW_ne _ _ (by omega), updF_ne _ _ (by omega), hs _ (by omega)]
        exact h.w1 _ _ hf j hj
    · rw [hne _ _ hj e nf2, updF_ne _ _ (fun e2 => e (by
        have : i = q / 16 := by omega
        rw [this, h1] at hf
        exact (Option.some.inj hf).symm))]
      exact h.w1 _ _ hf j hj
  · obtain ⟨e, hf⟩ := hu i f hf
    rw [hne f k hk (fun e => h.a12 _ _ _ h1 (e ▸ hf)) (fun e3 => e (h.a22 _ _ _ hf (e3 ▸ h2)))]
    exact h.w2 _ _ hf k hk
/-- A table of the second level that has nothing is taken away. -/
theorem TreeW.delT1 {n : Nat} {M M' : Nat → Int} {t : Tree} (h : TreeW n M t) {i f1 : Nat} (h1 : t.t1 i = some f1) (hp : ∀ k, k < 16 → t.t2 (16 * i + k) = none) (hs : SameBut f1 M M') : TreeW n (setW M' (16 * t.root + i) 0) { t with t1 := updF t.t1 i none } := by
  obtain ⟨l1, _⟩ := h.lt1 _ _ h1
  have hne : ∀ f k, k < 16 → f ≠ t.root → f ≠ f1 → setW M' (16 * t.root + i) 0 (16 * f + k) = M (16 * f + k) := fun f k hk hf hf' => by
    rw [setW_ne _ _ (by omega)]; exact hs _ (by omega)
  have hu : ∀ j f, updF t.t1 i none j = some f → j ≠ i ∧ t.t1 j = some f := fun j f hf => by
    by_cases e : j = i
    · subst e; rw [updF_same] at hf; cases hf
    · rw [updF_ne _ _ e] at hf; exact ⟨e, hf⟩
  refine ⟨h.lr, fun j f hf => h.lt1 j f (hu j f hf).2, h.lt2, h.ltp, fun q f hf => ?_, h.upp, fun j f hf => h.a01 j f (hu j f hf).2, h.a02, fun j j' f hf hf' => h.a11 _ _ _ (hu _ _ hf).2 (hu _ _ hf').2, h.a22, fun j q f hf hf' => h.a12 _ _ _ (hu _ _ hf).2 hf', fun j hj => ?_, fun j f hf k hk => ?_, fun q f hf k hk => ?_⟩
  · obtain ⟨f1', hf1⟩ := h.up2 q f hf
    have : q / 16 ≠ i := fun e => by
      have := hp (q % 16) (by omega)
      rw [show 16 * i + q % 16 = q by omega, hf] at this; cases this
    exact ⟨f1', by show updF t.t1 i none (q / 16) = _; rw [updF_ne _ _ this]; exact hf1⟩
  · show _ = tWd (updF t.t1 i none j)
    by_cases e : j = i
    · subst e; rw [setW_same, updF_same]; rfl
    · have := h.a01 _ _ h1
      rw [setW_ne _ _ (by omega), updF_ne _ _ e, hs (16 * t.root + j) (by omega)]; exact h.w0 j hj
  · obtain ⟨e, hf⟩ := hu j f hf
    rw [hne f k hk (h.a01 _ _ hf) (fun e3 => e (h.a11 _ _ _ hf (e3 ▸ h1)))]; exact h.w1 _ _ hf k hk
  · rw [hne _ _ hk (h.a02 _ _ hf) (fun e => h.a12 _ _ _ h1 (e ▸ hf))]; exact h.w2 _ _ hf k hk
/-- A tree hangs on the words of its tables alone. -/
theorem TreeW.congr {n : Nat} {M M' : Nat → Int} {t : Tree} (h : TreeW n M t) (e : ∀ f, isTab t f → ∀ k, k < 16 → M' (16 * f + k) = M (16 * f + k)) : TreeW n M' t :=
  { h with
    w0 := fun i hi => (e _ (Or.inl rfl) i hi).trans (h.w0 i hi)
    w1 := fun i f hf j hj => (e _ (Or.inr (Or.inl ⟨i, hf⟩)) j hj).trans (h.w1 i f hf j hj)
    w2 := fun q f hf k hk => (e _ (Or.inr (Or.inr ⟨q, hf⟩)) k hk).trans (h.w2 q f hf k hk) }
/-- Tables are blank just if they have nothing. -/
theorem word_tab_ne {f : Nat} : tWd (some f) ≠ 0 := by unfold tWd wordI flagI; simp; omega
theorem word_pg_ne {x : Nat × Bool} : pWd (some x) ≠ 0 := by unfold pWd wordI flagI; simp; cases x.2 <;> simp <;> omega
theorem blank_nat {M : Nat → Int} {n f : Nat} (hf : f < n) : blankB M n f = true ↔ ∀ k, k < 16 → M (16 * f + k) = 0 := by
  unfold blankB
  have e : (16 * (f : Int)).toNat = 16 * f := by omega
  have d1 : decide (0 ≤ (f : Int)) = true := by simp
  have d2 : decide ((f : Int) < (n : Int)) = true := by simp; omega
  rw [e, d1, d2, Bool.true_and, Bool.true_and, zerosB_iff]
theorem TreeW.blank2 {n : Nat} {M : Nat → Int} {t : Tree} (h : TreeW n M t) {q f2 : Nat} (h2 : t.t2 q = some f2) : blankB M n f2 = true ↔ ∀ k, k < 16 → t.pg (16 * q + k) = none := by
  rw [blank_nat (h.lt2 _ _ h2).2]
  constructor
  · intro hz k hk
    have := hz k hk
    rw [h.w2 _ _ h2 k hk] at this
    cases e : t.pg (16 * q + k) with
    | none => rfl
    | some y => rw [e] at this; exact absurd this word_pg_ne
  · intro hn k hk
    rw [h.w2 _ _ h2 k hk, hn k hk]; rfl
theorem TreeW.blank1 {n : Nat} {M : Nat → Int} {t : Tree} (h : TreeW n M t) {i f1 : Nat} (h1 : t.t1 i = some f1) : blankB M n f1 = true ↔ ∀ k, k < 16 → t.t2 (16 * i + k) = none := by
  rw [blank_nat (h.lt1 _ _ h1).2]
  constructor
  · intro hz k hk
    have := hz k hk
    rw [h.w1 _ _ h1 k hk] at this
    cases e : t.t2 (16 * i + k) with
    | none => rfl
    | some y => rw [e] at this; exact absurd this word_tab_ne
  · intro hn k hk
    rw [h.w1 _ _ h1 k hk, hn k hk]; rfl

end Go.Proofs.Yteehghjdifbjbaa

namespace Go.Proofs.Yteehghjdifbjbaa
set_option linter.unusedSimpArgs false
set_option linter.unusedVariables false
set_option maxRecDepth 100000
open Go.RowKit
set_option maxHeartbeats 4000000

/-- A call that came in. -/
structure OpB where
  d : Int
  n : Int
  o : Int
  w : Int
structure OpBAt (w : World) (b off : Nat) (x : OpB) : Prop where
  c0 : w.cell? ⟨b, off, none⟩ = some (.int .i64 x.d)
  c1 : w.cell? ⟨b, off + 1, none⟩ = some (.int .i64 x.n)
  c2 : w.cell? ⟨b, off + 2, none⟩ = some (.int .i64 x.o)
  c3 : w.cell? ⟨b, off + 3, none⟩ = some (.int .u64 x.w)
/-- A list of calls that was handed in lies in a world. -/
def OpsB (w : World) (a : Option Addr) (len : Nat) (L : Nat → OpB) : Prop := len = 0 ∨ ∃ b off, a = some ⟨b, off, none⟩ ∧ ∀ i, i < len → OpBAt w b (off + i * 4) (L i)
theorem OpsB.keep {g w : World} {a : Option Addr} {len : Nat} {L : Nat → OpB} (h : OpsB g a len L) (hb : Below g.heap.size g w) : OpsB w a len L := by
  rcases h with h | ⟨b, off, rfl, h⟩
  · exact Or.inl h
  · refine Or.inr ⟨b, off, rfl, fun i hi => ?_⟩
    obtain ⟨h0, h1, h2, h3⟩ := h i hi
    have hl := cell_ltB h0
    exact ⟨Go.Proofs.Yteehghjdifbjbaa.keep hb hl h0, Go.Proofs.Yteehghjdifbjbaa.keep hb hl h1, Go.Proofs.Yteehghjdifbjbaa.keep hb hl h2, Go.Proofs.Yteehghjdifbjbaa.keep hb hl h3⟩
theorem OpsB.kept {g : World} {a : Option Addr} {len : Nat} {L : Nat → OpB} (h : OpsB g a len L) : ∀ w' Q, Sat g w' (Q * whole g) → OpsB w' a len L := fun w' Q h' => h.keep (Sat.ends (h'.perm (star_comm _ _)))

theorem inv_lt {r n : Nat} {T : Nat → Prop} {H : List Blk} (h : InvB r n T H) {a o : Nat} (hb : (((a * 2 ^ o : Nat) : Int), (o : Int)) ∈ H) : (a + 1) * 2 ^ o ≤ n ∧ r ≤ a * 2 ^ o := by
  have h0 := Nat.two_pow_pos o
  have h1 := (h.cov (a * 2 ^ o)).2 (Or.inr ⟨_, hb, (inB_of a o _).2 (in_block a o)⟩)
  have h2 := (h.cov (a * 2 ^ o + (2 ^ o - 1))).2 (Or.inr ⟨_, hb, (inB_of a o _).2 ((block_iff a o _).2 (by omega))⟩)
  rw [Nat.add_mul]; omega
theorem inv_T {r n : Nat} {T : Nat → Prop} {H : List Blk} (h : InvB r n T H) : ∀ x, T x → x < n := fun x hx => ((h.cov x).2 (Or.inl hx)).2
def allBlk : List Blk := (List.range 256).flatMap fun f : Nat => (List.range 9).map fun o : Nat => ((f : Int), (o : Int))
theorem allBlk_len : allBlk.length = 2304 := by decide +kernel
theorem inv_len {r n : Nat} {T : Nat → Prop} {H : List Blk} (h : InvB r n T H) (hn : n ≤ 256) : H.length ≤ 2304 := by
  rw [← allBlk_len]
  refine sub_len H allBlk h.nodup fun x hx => ?_
  obtain ⟨a, o, ho, rfl⟩ := h.blk x hx
  have h1 := (inv_lt h hx).1
  have h0 := Nat.two_pow_pos o
  rw [Nat.add_mul] at h1
  unfold allBlk
  rw [List.mem_flatMap]
  exact ⟨a * 2 ^ o, List.mem_range.2 (by omega), List.mem_map.2 ⟨o, List.mem_range.2 (by omega), rfl⟩⟩

theorem canB_len {T : Nat → Prop} {L : List Blk} (h : CanB T L) (hs : Small T) : L.length ≤ 2304 := by
  rw [← allBlk_len]
  refine sub_len L allBlk (h.1.imp fun hab e => by rw [e] at hab; omega) fun x hx => ?_
  obtain ⟨a, o, ho, rfl, hc⟩ := (h.2 x).1 hx
  have h1 := hs _ (hc.1 _ (in_block a o))
  unfold allBlk
  rw [List.mem_flatMap]
  exact ⟨a * 2 ^ o, List.mem_range.2 h1, List.mem_map.2 ⟨o, List.mem_range.2 (by omega), rfl⟩⟩

theorem inv_fresh {r n : Nat} {T : Nat → Prop} {H : List Blk} (h : InvB r n T H) : ∀ x : Nat, T x → ∀ o : Int, ((x : Int), o) ∉ H := fun x hx o hm => by
  obtain ⟨a, k, _, hk⟩ := h.blk _ hm
  refine h.apart _ hm x ?_ hx
  rw [hk]
  refine (inB_of a k x).2 ?_
  have : (x : Int) = ((a * 2 ^ k : Nat) : Int) := congrArg Prod.fst hk
  have hx' : x = a * 2 ^ k := by omega
  rw [hx']; exact in_block a k
/-- What Free does. -/
inductive FreeAt (g : World) (pb pm r n : Nat) (T : Nat → Prop) (H : List Blk) (W : Nat → Int) (f o : Int) (R : HP) (e : Ending) (w' : World) : Prop
  | no (hn : (f, o) ∉ H) (he : e = .returned (.int .i64 2)) (hs : Sat g w' (midP pb pm T H * (memP pm n W * R)))
  | yes (c k : Nat) (hf : f = ((c * 2 ^ k : Nat) : Int)) (ho : o = (k : Int)) (hk : k ≤ 8) (hin : (((c * 2 ^ k : Nat) : Int), (k : Int)) ∈ H) (hdis : ∀ x, x / 2 ^ k = c → ¬ T x) (hfit : (c + 1) * 2 ^ k ≤ n) (he : e = .returned (.int .i64 0)) (hi : InvB r n (plusQ T c k) (H.erase (((c * 2 ^ k : Nat) : Int), (k : Int))))
      (hs : Sat g w' (midP pb pm (plusQ T c k) (H.erase (((c * 2 ^ k : Nat) : Int), (k : Int))) * (memP pm n (scrubW W (c * 2 ^ k) (2 ^ k)) * R)))
theorem s_free_at (pb pm r n : Nat) (T : Nat → Prop) (H : List Blk) (W : Nat → Int) (f o : Int) (g w : World) (R : HP) (h : Sat g w (midP pb pm T H * (memP pm n W * R))) (hi : InvB r n T H) :
    Calls Try.prog 73 #[.pointer (some ⟨pb, 0, none⟩), .int .i64 f, .int .i64 o] w (FreeAt g pb pm r n T H W f o R) := by
  by_cases hin : (f, o) ∈ H
  · obtain ⟨c, k, hk, e⟩ := hi.blk _ hin
    obtain ⟨rfl, rfl⟩ := Prod.mk.injEq .. ▸ e
    obtain ⟨h1, _⟩ := inv_lt hi hin
    have hdis : ∀ x, x / 2 ^ k = c → ¬ T x := fun x hx => hi.apart _ hin x ((inB_of c k x).2 hx)
    exact (s_free pb pm n T H W c k (c * 2 ^ k) g w R h hk rfl h1 hin hdis (inv_T hi)).mono fun e w' ⟨he, hs⟩ => .yes c k rfl rfl hk hin hdis h1 he (inv_free hi hin) hs
  · exact (s_free_no pb pm T H f o g w _ h hin).mono fun e w' ⟨he, hs⟩ => .no hin he hs

/-- A Buddy and its memory, of which what stays true is true. -/
def Bst (g : World) (pb pm r n : Nat) (R : HP) (w : World) : Prop := ∃ T H W, InvB r n T H ∧ Sat g w (midP pb pm T H * (memP pm n W * R))
theorem Bst.below {g : World} {pb pm r n : Nat} {R : HP} {w w' : World} (h : Bst g pb pm r n R w) (hb : Below w.heap.size w w') : Bst g pb pm r n R w' := by
  obtain ⟨T, H, W, h1, h2⟩ := h
  exact ⟨T, H, W, h1, h2.below hb⟩
def AnyRet (g : World) (pb pm r n : Nat) (R : HP) (e : Ending) (w' : World) : Prop := (∃ f k : Int, e = .returned (.tuple #[.int .i64 f, .int .i64 k])) ∧ Bst g pb pm r n R w'
theorem s_alloc_st (pb pm r n : Nat) (order : Int) (g w : World) (R : HP) (h : Bst g pb pm r n R w) :
    Calls Try.prog 64 #[.pointer (some ⟨pb, 0, none⟩), .int .i64 order] w (AnyRet g pb pm r n R) := by
  obtain ⟨T, H, W, hi, hs⟩ := h
  by_cases ho : 0 ≤ order ∧ order ≤ 8
  · obtain ⟨o, rfl⟩ := Int.eq_ofNat_of_zero_le ho.1
    refine (s_alloc_at pb pm T H o r n g w _ hs (by omega) hi).mono fun e w' hp => ?_
    cases hp with
    | no he hn hs => exact ⟨⟨_, _, he⟩, T, H, W, hi, hs⟩
    | yes c hc he hs => exact ⟨⟨_, _, he⟩, _, _, W, inv_alloc hi (by omega) hc, hs⟩
  · exact (s_alloc_bad pb order w (by omega)).mono fun e w' ⟨he, hw⟩ => ⟨⟨_, _, he⟩, T, H, W, hi, hw ▸ hs⟩
def AnyRet1 (g : World) (pb pm r n : Nat) (R : HP) (e : Ending) (w' : World) : Prop := (∃ k : Int, e = .returned (.int .i64 k)) ∧ Bst g pb pm r n R w'
theorem s_free_st (pb pm r n : Nat) (f o : Int) (g w : World) (R : HP) (h : Bst g pb pm r n R w) :
    Calls Try.prog 73 #[.pointer (some ⟨pb, 0, none⟩), .int .i64 f, .int .i64 o] w (AnyRet1 g pb pm r n R) := by
  obtain ⟨T, H, W, hi, hs⟩ := h
  refine (s_free_at pb pm r n T H W f o g w R hs hi).mono fun e w' hp => ?_
  cases hp with
  | no hn he hs => exact ⟨⟨_, he⟩, T, H, W, hi, hs⟩
  | yes c k _ _ _ _ _ _ he hi' hs => exact ⟨⟨_, he⟩, _, _, _, hi', hs⟩
/-- The blocks of a list that a call has made, one by one. -/
theorem blk_cells {w : World} {b : Nat} {e : TypeId} {v : Value} {L : List Blk} (h : w.ownsRow b e 2 v L.length (blkCells L)) : L = [] ∨ ∃ gb cap, v = .slice (some ⟨gb, 0, none⟩) L.length cap ∧ gb < w.heap.size ∧ b ≤ gb ∧ ∀ i (_ : i < L.length), w.cell? ⟨gb, i * 2, none⟩ = some (.int .i64 L[i].1) ∧ w.cell? ⟨gb, i * 2 + 1, none⟩ = some (.int .i64 L[i].2) := by
  have hl := h
  rcases h.2 with ⟨h1, h2⟩ | ⟨gb, cap, cur, h1, hg, hh, _⟩
  · exact Or.inl (List.length_eq_zero_iff.1 h2)
  · refine Or.inr ⟨gb, cap, h1, heap_lt hh, hg, fun i hi => ?_⟩
    rw [h1] at hl
    obtain ⟨c0, c1⟩ := blkCells_at L i hi
    exact ⟨by rw [World.ownsRow.cellAt hl (i * 2) (by omega), c0], by rw [World.ownsRow.cellAt hl (i * 2 + 1) (by omega), c1]⟩

/-- A list of blocks that a call has made, as a part of its own. -/
theorem blks_part {g w w' : World} {L : List Blk} {e : TypeId} {v : Value} {P : HP} (h : Sat g w P) (hb : Below w.heap.size w w') (hown : w'.ownsRow w.heap.size e 2 v L.length (blkCells L)) :
    ∃ (Q : HP) (a : Option Addr) (cap : Nat), v = .slice a L.length cap ∧ Sat g w' (Q * P) ∧ (L = [] ∨ ∃ gb, a = some ⟨gb, 0, none⟩ ∧ Has Q gb ∧ ∀ w2 P', Sat g w2 (Q * P') → ∀ i (_ : i < L.length), w2.cell? ⟨gb, i * 2, none⟩ = some (.int .i64 L[i].1) ∧ w2.cell? ⟨gb, i * 2 + 1, none⟩ = some (.int .i64 L[i].2)) := by
  rcases blk_cells hown with h0 | ⟨gb, cap, rfl, hgl, hge, hc⟩
  · obtain ⟨a, c, rfl⟩ := own_slice hown
    exact ⟨emp, a, c, rfl, (h.below hb).emp, Or.inl h0⟩
  · have hg : w'.heap[gb]? = some (w'.heap[gb]'hgl) := Array.getElem?_eq_getElem hgl
    refine ⟨pt gb (w'.heap[gb]'hgl), _, cap, rfl, h.new hb hg (loc_pt _ _) (fun k e => by rw [e]; exact hge) (fun k e => by rw [e]; exact hgl), Or.inr ⟨gb, rfl, has_own rfl, fun w2 P' h2 i hi => ?_⟩⟩
    have e2 := h2.pt_heap.trans hg.symm
    exact ⟨(cell_of_heap e2 _).trans (hc i hi).1, (cell_of_heap e2 _).trans (hc i hi).2⟩

theorem s_mwrite (pm n : Nat) (W : Nat → Int) (a x : Int) (g w : World) (R : HP) (h : Sat g w (memP pm n W * R)) (h0 : 0 ≤ a) (h1 : a < 16 * n) (hx : U64 x) :
    Calls Try.prog 47 #[.pointer (some ⟨pm, 0, none⟩), .int .i64 a, .int .u64 x] w fun e w' => e = .returned (.int .i64 0) ∧ Sat g w' (memP pm n (setW W a.toNat x) * R) := by
  obtain ⟨bk, hm, _, back⟩ := h.mem
  obtain ⟨x0, x1⟩ := hx
  exact (write_yes pm bk n W a x w hm h0 h1 x0 (by omega)).mono fun e w' ⟨he, h1, h2⟩ => ⟨he, back _ _ h2 h1⟩
theorem s_mzero (pm n : Nat) (W : Nat → Int) (f : Nat) (g w : World) (R : HP) (h : Sat g w (memP pm n W * R)) (hf : f < n) (h0 : ∀ i, 16 * f ≤ i → i < 16 * (f + 1) → W i = 0) :
    Calls Try.prog 37 #[.pointer (some ⟨pm, 0, none⟩), .int .i64 f] w fun e w' => e = .returned (.bool true) ∧ w = w' := by
  obtain ⟨bk, hm, _, _⟩ := h.mem
  exact zero_yes pm bk n W f w hm hf h0
theorem and15 (o : Int) : 0 ≤ bits .and .i64 o 15 ∧ bits .and .i64 o 15 ≤ 15 := by
  have h7 : (BitVec.ofInt 64 15).toNat = 2 ^ 4 - 1 := by decide
  have key : (BitVec.ofInt 64 o &&& BitVec.ofInt 64 15).toNat = (o % ((2 ^ 64 : Nat) : Int)).toNat % 2 ^ 4 := by
    rw [BitVec.toNat_and, BitVec.toNat_ofInt, h7, Nat.and_two_pow_sub_one_eq_mod]
  have e : bits .and .i64 o 15 = o % 16 := by
    show IntKind.i64.wrap ((BitVec.ofInt 64 o &&& BitVec.ofInt 64 15).toNat : Nat) = o % 16
    rw [key, IntKind.wrap_i64]
    omega
  rw [e]; omega

/-- All words of the free frames are noughts. -/
def ZeroF (T : Nat → Prop) (M : Nat → Int) : Prop := ∀ x, T x → ∀ i, 16 * x ≤ i → i < 16 * (x + 1) → M i = 0
theorem zero_minus {T : Nat → Prop} {M : Nat → Int} (h : ZeroF T M) (c o : Nat) : ZeroF (minusQ T c o) M := fun x hx => h x hx.1
theorem zero_free {T : Nat → Prop} {M : Nat → Int} (h : ZeroF T M) (c o : Nat) : ZeroF (plusQ T c o) (scrubW M (c * 2 ^ o) (2 ^ o)) := fun x hx i h1 h2 => by
  unfold scrubW
  split
  · rfl
  · rename_i hn
    rcases hx with hx | hx
    · exact h x hx i h1 h2
    · have := (block_iff c o x).1 hx
      omega
theorem zero_set {T : Nat → Prop} {M : Nat → Int} (h : ZeroF T M) {f y : Nat} (hf : ¬ T f) (hy : y < 16) (v : Int) : ZeroF T (setW M (16 * f + y) v) := fun x hx i h1 h2 => by
  unfold setW
  split
  · rename_i e
    have : x = f := by omega
    exact absurd (this ▸ hx) hf
  · exact h x hx i h1 h2
theorem all_free {r n : Nat} {T : Nat → Prop} (h : InvB r n T []) : T = rangeT r n := by
  funext x
  have := h.cov x
  unfold rangeT
  exact propext ⟨fun hx => this.2 (Or.inl hx), fun hx => (this.1 hx).elim id fun ⟨b, hb, _⟩ => by simp at hb⟩
theorem can_eq {T : Nat → Prop} {L M : List Blk} (h1 : CanB T L) (h2 : CanB T M) : L = M := riseB_eq (fun x => (h1.2 x).trans (h2.2 x).symm) h1.1 h2.1

end Go.Proofs.Yteehghjdifbjbaa
