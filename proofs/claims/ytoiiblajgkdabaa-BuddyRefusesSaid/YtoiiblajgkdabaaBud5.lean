/- A block in a variable; a Buddy's lists read; what was given minded and forgotten. -/
import Derived.Test.YtoiiblajgkdabaaBud4
namespace Go.Proofs.Ytoiiblajgkdabaa
set_option linter.unusedSimpArgs false
set_option linter.unusedVariables false
set_option maxRecDepth 100000
open Go.RowKit
set_option maxHeartbeats 4000000

/-- A block that stands in a variable of its own. -/
structure XIn (w : World) (xb : Nat) (f o : Int) : Prop where
  c0 : w.cell? ⟨xb, 0, none⟩ = some (.int .i64 f)
  c1 : w.cell? ⟨xb, 1, none⟩ = some (.int .i64 o)
  f0 : w.frozen? ⟨xb, 0, none⟩ = false
  f1 : w.frozen? ⟨xb, 1, none⟩ = false
  lt : xb < w.heap.size
theorem XIn.heap {w w' : World} {xb : Nat} {f o : Int} (h : XIn w xb f o) (e : w'.heap[xb]? = w.heap[xb]?) : XIn w' xb f o :=
  ⟨(cell_of_heap e _).trans h.c0, (cell_of_heap e _).trans h.c1, (frozen_of_heap e _).trans h.f0, (frozen_of_heap e _).trans h.f1, heap_ltO e h.lt⟩
def xP (xb : Nat) (f o : Int) : HP := ownP (fun k => k = xb) (fun w => XIn w xb f o)
theorem loc_x (xb : Nat) (f o : Int) : Loc (fun k => k = xb) (fun w => XIn w xb f o) := fun _ _ h e => h.heap (e xb rfl)
theorem x_new (w : World) (f o : Int) (t : TypeId) : XIn (w.alloc (.cells #[.int .i64 f, .int .i64 o] t)) w.heap.size f o :=
  ⟨by simp [go_sem], by simp [go_sem], by simp [go_sem], by simp [go_sem], by simp⟩
theorem Sat.x_new {g w : World} {R : HP} (h : Sat g w R) (f o : Int) (t : TypeId) : Sat g (w.alloc (.cells #[.int .i64 f, .int .i64 o] t)) (xP w.heap.size f o * R) :=
  h.new ((Below.refl _ _).alloc (Nat.le_refl _) _) (Go.Proofs.Ytoiiblajgkdabaa.x_new w f o t) (loc_x _ _ _) (fun k e => by rw [e]; exact Nat.le_refl _) (fun k e => by rw [e]; simp)
theorem Sat.x_set {g w w' : World} {xb : Nat} {f o f' o' : Int} {R : HP} (h : Sat g w (xP xb f o * R)) (t : Touch (· = xb) w w') (i : XIn w' xb f' o') : Sat g w' (xP xb f' o' * R) :=
  h.touch t i (loc_x _ _ _) (fun k hk => Or.inl hk) (fun k hk => by rw [hk]; exact i.lt)
theorem XIn.set1 {w : World} {xb : Nat} {f o : Int} (h : XIn w xb f o) (o' : Int) : XIn (w.setCell ⟨xb, 1, none⟩ (.int .i64 o')) xb f o' :=
  ⟨by rw [set_far _ _ _ _ _ (by omega)]; exact h.c0, World.cell?_setCell_same' _ _ _ (by rw [h.c1]; rfl), by rw [World.frozen?_setCell]; exact h.f0, by rw [World.frozen?_setCell]; exact h.f1, by simpa using h.lt⟩
theorem XIn.set0 {w : World} {xb : Nat} {f o : Int} (h : XIn w xb f o) (f' : Int) : XIn (w.setCell ⟨xb, 0, none⟩ (.int .i64 f')) xb f' o :=
  ⟨World.cell?_setCell_same' _ _ _ (by rw [h.c0]; rfl), by rw [set_far _ _ _ _ _ (by omega)]; exact h.c1, by rw [World.frozen?_setCell]; exact h.f0, by rw [World.frozen?_setCell]; exact h.f1, by simpa using h.lt⟩
theorem x_touch {w : World} (xb j : Nat) (u : Value) : Touch (· = xb) w (w.setCell ⟨xb, j, none⟩ u) := Touch.setCell (S := (· = xb)) (Touch.refl _ w) (p := ⟨xb, j, none⟩) (Or.inl rfl) u

/-- What a list's cells hold, as the free frames tell. -/
theorem Sat.mid_read {g w : World} {pb pm : Nat} {T : Nat → Prop} {H : List Blk} {R : HP} (h : Sat g w (midP pb pm T H * R)) :
    ∃ (hb : Nat) (A : Nat → Option Addr) (C : Nat → Nat) (F : Nat → List Int), CanF T F ∧ (∀ o, o < 9 → (F o).length ≤ 256) ∧ w.cell? ⟨pb, 0, none⟩ = some (.pointer (some ⟨pm, 0, none⟩)) ∧ w.cell? ⟨pb, 10, none⟩ = some (.map (some hb)) ∧ MapB w hb H ∧
      ∀ o, o < 9 → w.cell? ⟨pb, 1 + o, none⟩ = some (.slice (A o) (F o).length (C o)) ∧ (F o = [] ∨ ∃ gb, A o = some ⟨gb, 0, none⟩ ∧ ∀ j (_ : j < (F o).length), w.cell? ⟨gb, j, none⟩ = some (.int .i64 (F o)[j])) := by
  obtain ⟨hb, V, F, hi, hc, hs, _⟩ := h.mid
  have hall : ∀ o, ∃ (a : Option Addr) (c : Nat), o < 9 → (V o = .slice a (F o).length c ∧ (F o = [] ∨ ∃ gb, a = some ⟨gb, 0, none⟩ ∧ ∀ j (_ : j < (F o).length), w.cell? ⟨gb, j, none⟩ = some (.int .i64 (F o)[j]))) := fun o => by
    by_cases ho : o < 9
    · have hr := hi.rows o ho
      rcases hr.2 with ⟨h1, h2⟩ | ⟨gb, cap, cur, h1, _, hh, _⟩
      · exact ⟨none, 0, fun _ => ⟨by rw [h1, h2], Or.inl (List.length_eq_zero_iff.1 h2)⟩⟩
      · refine ⟨some ⟨gb, 0, none⟩, cap, fun _ => ⟨h1, Or.inr ⟨gb, rfl, fun j hj => ?_⟩⟩⟩
        unfold RowI at hr
        rw [h1] at hr
        rw [World.ownsRow.cellAt hr j (by omega), iCells_get _ j hj]
        simp [hj]
    · exact ⟨none, 0, fun h => absurd h ho⟩
  obtain ⟨A, hA⟩ := Classical.skolem.1 hall
  obtain ⟨C, hC⟩ := Classical.skolem.1 hA
  refine ⟨hb, A, C, F, hc, fun o ho => hc.len hs ho, hi.c0, hi.cm, hi.held, fun o ho => ?_⟩
  obtain ⟨h1, h2⟩ := hC o ho
  exact ⟨by rw [hi.cl o ho, h1], h2⟩
theorem BudIn.lay {w : World} {pb pm hb : Nat} {V : Nat → Value} {F : Nat → List Int} {H H' : List Blk} {w' : World} (h : BudIn w pb pm hb V F H) (t : Touch (· = hb) w w') (m : MapB w' hb H') : BudPost w pb pm hb V F H' w' := by
  have hk : ∀ k, k < w.heap.size → k ≠ hb → w'.heap[k]? = w.heap[k]? := fun k h1 h2 => t.block k h1 h2
  have ep := hk pb h.lt (fun e => h.ne e.symm)
  exact ⟨V, ⟨(cell_of_heap ep _).trans h.c0, fun i hi => (cell_of_heap ep _).trans (h.cl i hi), (cell_of_heap ep _).trans h.cm, fun j hj => (frozen_of_heap ep _).trans (h.free j hj), fun i hi => own_heap' (h.rows i hi) (fun g hg => hk g (h.slt g (Or.inr (Or.inr ⟨i, hi, hg⟩))) (fun e => h.nehb i hi (e ▸ hg))),
    h.apart, h.nepb, h.nehb, h.ne, m, heap_ltO ep h.lt⟩, t.mono (fun k _ e => Or.inr (Or.inl e)), fun k hk => Or.inl hk⟩

/-- A block is minded. -/
theorem list_lay {ops : Array Oper} {rest : List Oper} {o : Oper} {a : Act} {Q : Exit → Act → World → Prop} {pb pm : Nat} {T : Nat → Prop} {H : List Blk} {g w : World} {R : HP} (h : Sat g w (midP pb pm T H * R)) (hgd : o.guard = none) (m k v : Operand)
    (ho : o.op = .mapUpdate 90 m k v) (hb : Nat) (hcm : w.cell? ⟨pb, 10, none⟩ = some (.map (some hb))) (hm : a.eval m = .map (some hb)) (x : Blk) (hk : a.eval k = encB x) (hv : a.eval v = .bool true) (hx : x ∉ H)
    (hK : ∀ w', Sat g w' (midP pb pm T (H ++ [x]) * R) → Touch (· = hb) w w' → wpList Try.prog ops Q rest (a.put o.dst undef) w') : wpList Try.prog ops Q (o :: rest) a w := by
  obtain ⟨hb', V, F, hi, hc, hs, back⟩ := h.mid
  have e := hi.cm
  rw [hcm] at e
  simp only [Option.some.injEq, Value.map.injEq] at e
  subst e
  obtain ⟨w', hr, hm', ht⟩ := run_layB hi.held x hx
  refine wpList_plain hgd fun K hK' => ?_
  unfold Oper.wp
  simp only [execOp, ho, hm, hk, hv]
  simp [hr, Result.andThen]
  exact hK' _ _ (hK w' (back _ _ _ _ (hi.lay ht hm') hc hs) ht)

end Go.Proofs.Ytoiiblajgkdabaa
