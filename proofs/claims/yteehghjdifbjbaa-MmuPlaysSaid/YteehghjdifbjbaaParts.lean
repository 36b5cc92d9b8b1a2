/- The memory, the buffer, the unit, and the references' ones, as parts of a world. -/
import Derived.Test.YteehghjdifbjbaaSep
import Derived.Test.YteehghjdifbjbaaRef11
import Derived.Test.YteehghjdifbjbaaLaw07
namespace Go.Proofs.Yteehghjdifbjbaa
set_option linter.unusedSimpArgs false
set_option linter.unusedVariables false
set_option maxRecDepth 100000
open Go.RowKit
set_option maxHeartbeats 1000000

/-- A part always has a block. -/
def Has (P : HP) (b : Nat) : Prop := ∀ h : PH, P h → h b ≠ none
theorem has_own {S : Nat → Prop} {I : World → Prop} {b : Nat} (h : S b) : Has (ownP S I) b := fun _ p => (p.1 b).1 h
theorem has_ex {α : Sort _} {P : α → HP} {b : Nat} (h : ∀ x, Has (P x) b) : Has (exP P) b := fun _ ⟨x, p⟩ => h x _ p
theorem has_left {P Q : HP} {b : Nat} (h : Has P b) : Has (P * Q) b := fun _ ⟨x, y, _, e, p, _⟩ => by
  rw [e]; intro hn; exact h x p (PH.both_none.1 hn).1
theorem has_right {P Q : HP} {b : Nat} (h : Has Q b) : Has (P * Q) b := by rw [star_comm]; exact has_left h
theorem Sat.free {g w : World} {S : Nat → Prop} {I : World → Prop} {R : HP} (h : Sat g w (ownP S I * R)) {b : Nat} (hb : Has R b) : ¬ S b := by
  obtain ⟨_, _, _, x, hx, p, q, hpq, rfl, ⟨hp, _⟩, hq⟩ := h
  intro hs
  rcases hpq b with e | e
  · exact (hp b).1 hs e
  · exact hb q hq e
theorem Sat.has_lt {g w : World} {P : HP} (h : Sat g w P) {b : Nat} (hb : Has P b) : b < w.heap.size := by
  obtain ⟨_, _, _, x, hx, p⟩ := h
  cases e : x b with
  | none => exact absurd e (hb x p)
  | some o => exact heap_lt (hx b o e)
theorem Sat.ne {g w : World} {P Q : HP} (h : Sat g w (P * Q)) {a b : Nat} (ha : Has P a) (hb : Has Q b) : a ≠ b := by
  obtain ⟨_, _, _, x, hx, p, q, hpq, rfl, hp, hq⟩ := h
  rintro rfl
  rcases hpq a with e | e
  · exact ha p hp e
  · exact hb q hq e
theorem Sat.swap {g w : World} {A B R : HP} (h : Sat g w (A * (B * R))) : Sat g w (B * (A * R)) := h.perm (by ac_rfl)
theorem Sat.up3 {g w : World} {A B C R : HP} (h : Sat g w (A * (B * (C * R)))) : Sat g w (C * (A * (B * R))) := h.perm (by ac_rfl)
theorem Sat.down3 {g w : World} {A B C R : HP} (h : Sat g w (C * (A * (B * R)))) : Sat g w (A * (B * (C * R))) := h.perm (by ac_rfl)
theorem Sat.up4 {g w : World} {A B C D R : HP} (h : Sat g w (A * (B * (C * (D * R))))) : Sat g w (D * (A * (B * (C * R)))) := h.perm (by ac_rfl)
theorem Sat.down4 {g w : World} {A B C D R : HP} (h : Sat g w (D * (A * (B * (C * R))))) : Sat g w (A * (B * (C * (D * R)))) := h.perm (by ac_rfl)

/-! ### The memory -/
def memP (pm n : Nat) (W : Nat → Int) : HP := exP fun bk : Nat => ownP (fun k => k = pm ∨ k = bk) (fun w => MemIn w pm bk n W)
theorem loc_mem (pm bk n : Nat) (W : Nat → Int) : Loc (fun k => k = pm ∨ k = bk) (fun w => MemIn w pm bk n W) := fun w w' h e =>
  ⟨(cell_of_heap (e pm (Or.inl rfl)) _).trans h.ptr, fun i hi => (cell_of_heap (e bk (Or.inr rfl)) _).trans (h.cell i hi), fun i hi => (frozen_of_heap (e bk (Or.inr rfl)) _).trans (h.free i hi), h.lo, h.hi, heap_size (e pm (Or.inl rfl)) h.pm_lt, heap_size (e bk (Or.inr rfl)) h.bk_lt, h.ne, h.n1, h.n2⟩
theorem has_mem (pm n : Nat) (W : Nat → Int) : Has (memP pm n W) pm := has_ex fun _ => has_own (Or.inl rfl)
theorem Sat.mem {g w : World} {pm n : Nat} {W : Nat → Int} {R : HP} (h : Sat g w (memP pm n W * R)) :
    ∃ bk, MemIn w pm bk n W ∧ (∀ b, Has R b → pm ≠ b ∧ bk ≠ b) ∧ ∀ w' W', Touch (· = bk) w w' → MemIn w' pm bk n W' → Sat g w' (memP pm n W' * R) := by
  obtain ⟨bk, h⟩ := h.ex
  have hi : MemIn w pm bk n W := h.inv
  refine ⟨bk, hi, fun b hb => ⟨fun e => h.free hb (Or.inl e.symm), fun e => h.free hb (Or.inr e.symm)⟩, fun w' W' t m => Sat.ex' bk (h.touch (t.mono fun k _ hk => Or.inr hk) m (loc_mem _ _ _ _) (fun k hk => Or.inl hk) (fun k hk => ?_))⟩
  rcases hk with rfl | rfl
  · exact m.pm_lt
  · exact m.bk_lt
theorem Sat.mem_new {g w w' : World} {pm bk n : Nat} {W : Nat → Int} {R : HP} (h : Sat g w R) (b : Below w.heap.size w w') (m : MemIn w' pm bk n W) (h1 : w.heap.size ≤ pm) (h2 : w.heap.size ≤ bk) : Sat g w' (memP pm n W * R) :=
  Sat.ex' bk (h.new b m (loc_mem _ _ _ _) (fun k hk => by rcases hk with rfl | rfl; exact h1; exact h2) (fun k hk => by rcases hk with rfl | rfl; exact m.pm_lt; exact m.bk_lt))

/-! ### The reference's memory -/
def refP (pm n : Nat) (W : Nat → Int) : HP := exP fun bk : Nat => ownP (fun k => k = pm ∨ k = bk) (fun w => RefIn w pm bk n W)
theorem loc_ref (pm bk n : Nat) (W : Nat → Int) : Loc (fun k => k = pm ∨ k = bk) (fun w => RefIn w pm bk n W) := fun w w' h e =>
  ⟨(cell_of_heap (e pm (Or.inl rfl)) _).trans h.ptr, fun i hi => (cell_of_heap (e bk (Or.inr rfl)) _).trans (h.cell i hi), fun i hi => (frozen_of_heap (e bk (Or.inr rfl)) _).trans (h.free i hi), h.lo, h.hi, heap_size (e pm (Or.inl rfl)) h.pr_lt, heap_size (e bk (Or.inr rfl)) h.br_lt, h.ne, h.n1, h.n2⟩
theorem has_ref (pm n : Nat) (W : Nat → Int) : Has (refP pm n W) pm := has_ex fun _ => has_own (Or.inl rfl)
theorem Sat.ref {g w : World} {pm n : Nat} {W : Nat → Int} {R : HP} (h : Sat g w (refP pm n W * R)) :
    ∃ bk, RefIn w pm bk n W ∧ (∀ b, Has R b → pm ≠ b ∧ bk ≠ b) ∧ ∀ w' W', Touch (· = bk) w w' → RefIn w' pm bk n W' → Sat g w' (refP pm n W' * R) := by
  obtain ⟨bk, h⟩ := h.ex
  have hi : RefIn w pm bk n W := h.inv
  refine ⟨bk, hi, fun b hb => ⟨fun e => h.free hb (Or.inl e.symm), fun e => h.free hb (Or.inr e.symm)⟩, fun w' W' t m => Sat.ex' bk (h.touch (t.mono fun k _ hk => Or.inr hk) m (loc_ref _ _ _ _) (fun k hk => Or.inl hk) (fun k hk => ?_))⟩
  rcases hk with rfl | rfl
  · exact m.pr_lt
  · exact m.br_lt
theorem Sat.ref_new {g w w' : World} {pm bk n : Nat} {W : Nat → Int} {R : HP} (h : Sat g w R) (b : Below w.heap.size w w') (m : RefIn w' pm bk n W) (h1 : w.heap.size ≤ pm) (h2 : w.heap.size ≤ bk) : Sat g w' (refP pm n W * R) :=
  Sat.ex' bk (h.new b m (loc_ref _ _ _ _) (fun k hk => by rcases hk with rfl | rfl; exact h1; exact h2) (fun k hk => by rcases hk with rfl | rfl; exact m.pr_lt; exact m.br_lt))

/-! ### The buffer -/
def tlbS (pb : Nat) (lb : Nat → Nat) (L : Nat → Option Ln) (k : Nat) : Prop := k = pb ∨ ∃ i l, i < 8 ∧ L i = some l ∧ k = lb i
def tlbP (pb : Nat) (L : Nat → Option Ln) : HP := exP fun lb : Nat → Nat => ownP (tlbS pb lb L) (fun w => TlbIn w pb lb L)
theorem loc_tlb (pb : Nat) (lb : Nat → Nat) (L : Nat → Option Ln) : Loc (tlbS pb lb L) (fun w => TlbIn w pb lb L) := fun w w' h e =>
  ⟨fun i hi hn => (cell_of_heap (e pb (Or.inl rfl)) _).trans (h.none_ i hi hn), fun i l hi hl => by
    obtain ⟨a, b, c, d1, d2, d3, d4⟩ := h.some_ i l hi hl
    have el := e (lb i) (Or.inr ⟨i, l, hi, hl, rfl⟩)
    exact ⟨(cell_of_heap (e pb (Or.inl rfl)) _).trans a, heap_size el b, c, (cell_of_heap el _).trans d1, (cell_of_heap el _).trans d2, (cell_of_heap el _).trans d3, (cell_of_heap el _).trans d4⟩,
   fun i hi => (frozen_of_heap (e pb (Or.inl rfl)) _).trans (h.free i hi), heap_size (e pb (Or.inl rfl)) h.lt⟩
theorem has_tlb (pb : Nat) (L : Nat → Option Ln) : Has (tlbP pb L) pb := has_ex fun _ => has_own (Or.inl rfl)
theorem TlbIn.slt {w : World} {pb : Nat} {lb : Nat → Nat} {L : Nat → Option Ln} (h : TlbIn w pb lb L) : ∀ k, tlbS pb lb L k → k < w.heap.size := fun k hk => by
  rcases hk with rfl | ⟨i, l, hi, hl, rfl⟩
  · exact h.lt
  · exact (h.some_ i l hi hl).2.1
theorem Sat.tlb {g w : World} {pb : Nat} {L : Nat → Option Ln} {R : HP} (h : Sat g w (tlbP pb L * R)) :
    ∃ lb, TlbIn w pb lb L ∧ ∀ w' L', TlbPost w pb lb L L' w' → Sat g w' (tlbP pb L' * R) := by
  obtain ⟨lb, h⟩ := h.ex
  have hi : TlbIn w pb lb L := h.inv
  refine ⟨lb, hi, fun w' L' ⟨lb', h1, h2, h3⟩ => Sat.ex' lb' (h.touch (h3.mono fun k _ hk => Or.inl hk) h1 (loc_tlb _ _ _) (fun k hk => ?_) h1.slt)⟩
  rcases hk with rfl | ⟨i, l, hi, hl, rfl⟩
  · exact Or.inl (Or.inl rfl)
  · rcases h2 i l hi hl with ⟨h4, h5⟩ | h4
    · left; right
      cases hL : L i with
      | none => exact absurd hL h4
      | some m => exact ⟨i, m, hi, hL, h5⟩
    · exact Or.inr h4
theorem Sat.tlb_new {g w w' : World} {pb : Nat} {R : HP} (h : Sat g w R) (b : Below w.heap.size w w') (m : TlbIn w' pb (fun _ => 0) (fun _ => none)) (h1 : w.heap.size ≤ pb) : Sat g w' (tlbP pb (fun _ => none) * R) :=
  Sat.ex' (fun _ => 0) (h.new b m (loc_tlb _ _ _) (fun k hk => by rcases hk with rfl | ⟨i, l, hi, hl, rfl⟩; exact h1; cases hl) m.slt)

/-! ### The reference's buffer -/
def r09P (pr : Nat) (L : Nat → Option Ln) : HP := exP fun x : (Nat → Ln) × (Nat → Bool) => ownP (fun k => k = pr) (fun w => R9In w pr x.1 x.2 ∧ L9 x.1 x.2 = L)
theorem loc_r09 (pr : Nat) (M : Nat → Ln) (I : Nat → Bool) (L : Nat → Option Ln) : Loc (fun k => k = pr) (fun w => R9In w pr M I ∧ L9 M I = L) := fun w w' h e => ⟨h.1.heap (e pr rfl), h.2⟩
theorem has_r09 (pr : Nat) (L : Nat → Option Ln) : Has (r09P pr L) pr := has_ex fun _ => has_own rfl
theorem Sat.r09 {g w : World} {pr : Nat} {L : Nat → Option Ln} {R : HP} (h : Sat g w (r09P pr L * R)) :
    ∃ M I, R9In w pr M I ∧ L9 M I = L ∧ ∀ w' L', R9Post w pr L' w' → Sat g w' (r09P pr L' * R) := by
  obtain ⟨⟨M, I⟩, h⟩ := h.ex
  have hi : R9In w pr M I ∧ L9 M I = L := h.inv
  exact ⟨M, I, hi.1, hi.2, fun w' L' ⟨M', I', h1, h2, h3⟩ => Sat.ex' (M', I') (h.touch h3 ⟨h1, h2⟩ (loc_r09 _ _ _ _) (fun k hk => Or.inl hk) (fun k hk => by rw [hk]; exact h1.lt))⟩
theorem Sat.r09_new {g w w' : World} {pr : Nat} {M : Nat → Ln} {I : Nat → Bool} {R : HP} (h : Sat g w R) (b : Below w.heap.size w w') (m : R9In w' pr M I) (h1 : w.heap.size ≤ pr) : Sat g w' (r09P pr (L9 M I) * R) :=
  Sat.ex' (M, I) (h.new b ⟨m, rfl⟩ (loc_r09 _ _ _ _) (fun k hk => by rw [hk]; exact h1) (fun k hk => by rw [hk]; exact m.lt))

/-! ### A unit -/
def unitP (pu pm pb : Nat) (root asid : Int) : HP := ownP (fun k => k = pu) (fun w => UnitIn w pu pm pb root asid)
theorem loc_unit (pu pm pb : Nat) (root asid : Int) : Loc (fun k => k = pu) (fun w => UnitIn w pu pm pb root asid) := fun w w' h e => h.heap (e pu rfl)
theorem has_unit (pu pm pb : Nat) (root asid : Int) : Has (unitP pu pm pb root asid) pu := has_own rfl
theorem Sat.unit {g w : World} {pu pm pb : Nat} {root asid : Int} {R : HP} (h : Sat g w (unitP pu pm pb root asid * R)) : UnitIn w pu pm pb root asid := h.inv
theorem Sat.unit_set {g w w' : World} {pu pm pb : Nat} {root asid r a : Int} {R : HP} (h : Sat g w (unitP pu pm pb root asid * R)) (t : Touch (· = pu) w w') (u : UnitIn w' pu pm pb r a) : Sat g w' (unitP pu pm pb r a * R) :=
  h.touch t u (loc_unit _ _ _ _ _) (fun k hk => Or.inl hk) (fun k hk => by rw [hk]; exact u.lt)
theorem Sat.unit_new {g w w' : World} {pu pm pb : Nat} {root asid : Int} {R : HP} (h : Sat g w R) (b : Below w.heap.size w w') (u : UnitIn w' pu pm pb root asid) (h1 : w.heap.size ≤ pu) : Sat g w' (unitP pu pm pb root asid * R) :=
  h.new b u (loc_unit _ _ _ _ _) (fun k hk => by rw [hk]; exact h1) (fun k hk => by rw [hk]; exact u.lt)

/-! ### Calls upon the parts -/
theorem s_read (pm n : Nat) (W : Nat → Int) (a : Int) (g w : World) (R : HP) (h : Sat g w (memP pm n W * R)) (h0 : 0 ≤ a) (h1 : a < 16 * n) :
    Calls Try.prog 28 #[.pointer (some ⟨pm, 0, none⟩), .int .i64 a] w fun e w' => e = .returned (.tuple #[.int .u64 (W a.toNat), .int .i64 0]) ∧ w = w' := by
  obtain ⟨bk, hm, _, _⟩ := h.mem
  exact read_yes pm bk n W a w hm h0 h1
theorem s_put (pm n : Nat) (W : Nat → Int) (f p : Int) (v wr tb : Bool) (fr : Int) (g w : World) (R : HP) (h : Sat g w (memP pm n W * R)) :
    Calls Try.prog 17 #[.pointer (some ⟨pm, 0, none⟩), .int .i64 f, .int .i64 p, .agg #[.bool v, .bool wr, .bool tb, .int .i64 fr]] w fun e w' => e = .returned (.int .i64 (putE n f p v wr tb fr)) ∧ Sat g w' (memP pm n (putW W n f p v wr tb fr) * R) := by
  obtain ⟨bk, hm, _, hc⟩ := h.mem
  exact (put_any pm bk n W f p v wr tb fr w hm).mono fun e w' ⟨h1, h2, h3⟩ => ⟨h1, hc w' _ h3 h2⟩
theorem r07_put' (pm bk n : Nat) (W : Nat → Int) (f p : Int) (v wr tb : Bool) (fr : Int) (w : World) (hm : RefIn w pm bk n W) :
    Calls Try.prog 11 #[.pointer (some ⟨pm, 0, none⟩), .int .i64 f, .int .i64 p, .agg #[.bool v, .bool wr, .bool tb, .int .i64 fr]] w fun e w' => e = .returned (.int .i64 (putE n f p v wr tb fr)) ∧ RefIn w' pm bk n (putW W n f p v wr tb fr) ∧ Touch (· = bk) w w' := by
  unfold putW putE
  by_cases h : inT n f p ∧ rightB v wr tb fr = true
  · simp only [h, and_self, if_true]
    exact r07_put_in pm bk n W f p v wr tb fr w hm h.1 h.2
  · simp only [h, if_false]
    exact (r07_put_out pm bk n W f p v wr tb fr w hm h).mono fun e w' ⟨he, hb⟩ => ⟨he, hm.below hb, Touch.of_below hb⟩
theorem s_rput (pm n : Nat) (W : Nat → Int) (f p : Int) (v wr tb : Bool) (fr : Int) (g w : World) (R : HP) (h : Sat g w (refP pm n W * R)) :
    Calls Try.prog 11 #[.pointer (some ⟨pm, 0, none⟩), .int .i64 f, .int .i64 p, .agg #[.bool v, .bool wr, .bool tb, .int .i64 fr]] w fun e w' => e = .returned (.int .i64 (putE n f p v wr tb fr)) ∧ Sat g w' (refP pm n (putW W n f p v wr tb fr) * R) := by
  obtain ⟨bk, hm, _, hc⟩ := h.ref
  exact (r07_put' pm bk n W f p v wr tb fr w hm).mono fun e w' ⟨h1, h2, h3⟩ => ⟨h1, hc w' _ h3 h2⟩
theorem s_use (pu pm pb n : Nat) (root asid r a : Int) (W : Nat → Int) (g w : World) (R : HP) (h : Sat g w (unitP pu pm pb root asid * (memP pm n W * R))) :
    Calls Try.prog 18 #[.pointer (some ⟨pu, 0, none⟩), .int .i64 r, .int .i64 a] w fun e w' => e = .returned (.int .i64 (if useB n r a then 0 else 1)) ∧ Sat g w' (unitP pu pm pb (if useB n r a then r else root) (if useB n r a then a else asid) * (memP pm n W * R)) := by
  obtain ⟨bk, hm, _, _⟩ := h.swap.mem
  cases hb : useB n r a
  · exact (mmu_use_no pu pm pb root asid bk n W r a w h.unit hm hb).mono fun e w' ⟨h1, h2⟩ => ⟨h1, h2 ▸ h⟩
  · exact (mmu_use_yes pu pm pb root asid bk n W r a w h.unit hm hb).mono fun e w' ⟨h1, h2, h3⟩ => ⟨h1, h.unit_set h3 h2⟩
theorem s_ruse (pu pm pb n : Nat) (root asid r a : Int) (W : Nat → Int) (g w : World) (R : HP) (h : Sat g w (unitP pu pm pb root asid * (refP pm n W * R))) :
    Calls Try.prog 12 #[.pointer (some ⟨pu, 0, none⟩), .int .i64 r, .int .i64 a] w fun e w' => e = .returned (.int .i64 (if useB n r a then 0 else 1)) ∧ Sat g w' (unitP pu pm pb (if useB n r a then r else root) (if useB n r a then a else asid) * (refP pm n W * R)) := by
  obtain ⟨bk, hm, _, _⟩ := h.swap.ref
  cases hb : useB n r a
  · exact (r11_use_no pu pm pb root asid bk n W r a w h.unit hm hb).mono fun e w' ⟨h1, h2⟩ => ⟨h1, h2 ▸ h⟩
  · exact (r11_use_yes pu pm pb root asid bk n W r a w h.unit hm hb).mono fun e w' ⟨h1, h2, h3⟩ => ⟨h1, h.unit_set h3 h2⟩

theorem s_flush (pb : Nat) (L : Nat → Option Ln) (asid : Int) (g w : World) (R : HP) (h : Sat g w (tlbP pb L * R)) :
    Calls Try.prog 19 #[.pointer (some ⟨pb, 0, none⟩), .int .i64 asid] w fun e w' => e = .returned (.int .i64 (dropN (fun l => l.a == asid) L 8)) ∧ Sat g w' (tlbP pb (dropL (fun l => l.a == asid) L 8) * R) := by
  obtain ⟨lb, hi, hc⟩ := h.tlb
  refine (tlb_flush pb lb L asid w hi).mono fun e w' ⟨h1, h2, h3⟩ => ⟨h1, hc w' _ ⟨lb, h2, fun i l hi hl => Or.inl ⟨fun hn => ?_, rfl⟩, h3⟩⟩
  unfold dropL at hl
  rw [hn] at hl
  simp at hl
theorem s_rflush (pr : Nat) (L : Nat → Option Ln) (asid : Int) (g w : World) (R : HP) (h : Sat g w (r09P pr L * R)) :
    Calls Try.prog 20 #[.pointer (some ⟨pr, 0, none⟩), .int .i64 asid] w fun e w' => e = .returned (.int .i64 (dropN (fun l => l.a == asid) L 8)) ∧ Sat g w' (r09P pr (dropL (fun l => l.a == asid) L 8) * R) := by
  obtain ⟨M, I, hi, rfl, hc⟩ := h.r09
  exact (r09_flush pr M I asid w hi).mono fun e w' ⟨h1, h2, h3⟩ => ⟨h1, hc w' _ ⟨M, _, h2, L9_drop _ _ _ _, h3⟩⟩

/-- The buffer with a line put, if it may be; the error. -/
def lpOk (l : Ln) (at_ : Int) : Bool := rightL l && decide (0 ≤ at_) && decide (at_ < 8)
def lpL (L : Nat → Option Ln) (l : Ln) (at_ : Int) : Nat → Option Ln := if lpOk l at_ then tPutL L l at_ else L
theorem lpOk_iff (l : Ln) (at_ : Int) : lpOk l at_ = true ↔ (rightL l = true ∧ 0 ≤ at_ ∧ at_ < 8) := by simp [lpOk, and_assoc]
theorem s_lput (pb : Nat) (L : Nat → Option Ln) (l : Ln) (at_ : Int) (g w : World) (R : HP) (h : Sat g w (tlbP pb L * R)) :
    Calls Try.prog 21 #[.pointer (some ⟨pb, 0, none⟩), lnV (some l), .int .i64 at_] w fun e w' => e = .returned (.int .i64 (if lpOk l at_ then 0 else 1)) ∧ Sat g w' (tlbP pb (lpL L l at_) * R) := by
  obtain ⟨lb, hi, hc⟩ := h.tlb
  unfold lpL
  by_cases q : lpOk l at_ = true
  · rw [if_pos q, if_pos q]
    rw [lpOk_iff] at q
    obtain ⟨k, hk, hp⟩ := tPlace_bd L l at_ q.2.1 q.2.2
    rw [tPutL_eq L l at_ k hp]
    refine (tlb_put_go pb lb L l at_ k w hi q.1 q.2.1 q.2.2 hk hp).mono fun e w' ⟨h1, h2, h3, h4⟩ => ⟨h1, hc w' _ ⟨_, h2, fun i m hi hl => ?_, h4⟩⟩
    by_cases e : i = k
    · right; simp only [e, if_true]; exact Nat.le_refl _
    · left; simp only [e, if_false] at hl ⊢; exact ⟨by rw [hl]; simp, trivial⟩
  · rw [if_neg q, if_neg q]
    exact (tlb_put_no pb L l at_ w (fun hh => q ((lpOk_iff l at_).2 hh))).mono fun e w' ⟨h1, h2⟩ => ⟨h1, h.below h2⟩
theorem s_rlput (pr : Nat) (L : Nat → Option Ln) (l : Ln) (at_ : Int) (g w : World) (R : HP) (h : Sat g w (r09P pr L * R)) :
    Calls Try.prog 22 #[.pointer (some ⟨pr, 0, none⟩), lnV (some l), .int .i64 at_] w fun e w' => e = .returned (.int .i64 (if lpOk l at_ then 0 else 1)) ∧ Sat g w' (r09P pr (lpL L l at_) * R) := by
  obtain ⟨M, I, hi, rfl, hc⟩ := h.r09
  unfold lpL
  by_cases q : lpOk l at_ = true
  · rw [if_pos q, if_pos q]
    rw [lpOk_iff] at q
    obtain ⟨k, hk, hp⟩ := tPlace_bd (L9 M I) l at_ q.2.1 q.2.2
    rw [tPutL_eq (L9 M I) l at_ k hp]
    exact (r09_put_go pr M I l at_ k w hi q.1 q.2.1 q.2.2 hk hp).mono fun e w' ⟨h1, h2, h3⟩ => ⟨h1, hc w' _ ⟨_, _, h2, L9_put _ _ _ _, h3⟩⟩
  · rw [if_neg q, if_neg q]
    exact (r09_put_no pr l at_ w (fun hh => q ((lpOk_iff l at_).2 hh))).mono fun e w' ⟨h1, h2⟩ => ⟨h1, h.below h2⟩

theorem s_find (pu pm pb n : Nat) (root asid : Int) (W : Nat → Int) (L : Nat → Option Ln) (addr : Int) (wr : Bool) (at_ : Int) (g w : World) (R : HP) (h : Sat g w (unitP pu pm pb root asid * (memP pm n W * (tlbP pb L * R)))) (ha : 0 ≤ asid) (ha' : asid ≤ 8) (F : FRes) (hF : fRes n W L root asid addr wr at_ = F) :
    Calls Try.prog 23 #[.pointer (some ⟨pu, 0, none⟩), .int .i64 addr, .bool wr, .int .i64 at_] w fun e w' => e = .returned (.tuple #[.int .i64 F.f, .int .i64 F.p, .int .i64 F.e]) ∧ Sat g w' (unitP pu pm pb root asid * (memP pm n W * (tlbP pb (fTlb n W L root asid addr at_) * R))) := by
  unfold fTlb
  cases hb : fOk asid addr at_
  · subst hF
    unfold fRes
    rw [hb]
    exact (mmu_find_bad pu pm pb root asid addr wr at_ w h.unit hb).mono fun e w' ⟨h1, h2⟩ => ⟨h1, h2 ▸ h⟩
  · obtain ⟨bk, hm, hne, _⟩ := h.swap.mem
    have h3 := h.up3
    obtain ⟨lb, ht, hc⟩ := h3.tlb
    have n1 := hne pb (has_right (has_left (has_tlb _ _)))
    have n2 : pu ≠ pb := h.ne (has_unit _ _ _ _ _) (has_right (has_left (has_tlb _ _)))
    obtain ⟨_, b, _⟩ := fOk_yes hb
    exact (mmu_find_ok pu pm pb root asid bk n W lb L addr wr at_ F w h.unit hm ht (by omega) ha' n2 n1.1 n1.2 hb hF).mono fun e w' ⟨h1, h2⟩ => ⟨h1, (hc w' _ h2).down3⟩
theorem s_rfind (pu pm pr n : Nat) (root asid : Int) (W : Nat → Int) (L : Nat → Option Ln) (addr : Int) (wr : Bool) (at_ : Int) (g w : World) (R : HP) (h : Sat g w (unitP pu pm pr root asid * (refP pm n W * (r09P pr L * R)))) (ha : 0 ≤ asid) (ha' : asid ≤ 8) (F : FRes) (hF : fRes n W L root asid addr wr at_ = F) :
    Calls Try.prog 24 #[.pointer (some ⟨pu, 0, none⟩), .int .i64 addr, .bool wr, .int .i64 at_] w fun e w' => e = .returned (.tuple #[.int .i64 F.f, .int .i64 F.p, .int .i64 F.e]) ∧ Sat g w' (unitP pu pm pr root asid * (refP pm n W * (r09P pr (fTlb n W L root asid addr at_) * R))) := by
  unfold fTlb
  cases hb : fOk asid addr at_
  · subst hF
    unfold fRes
    rw [hb]
    exact (r11_find_bad pu pm pr root asid addr wr at_ w h.unit hb).mono fun e w' ⟨h1, h2⟩ => ⟨h1, h2 ▸ h⟩
  · obtain ⟨bk, hm, hne, _⟩ := h.swap.ref
    have h3 := h.up3
    obtain ⟨M, I, ht, rfl, hc⟩ := h3.r09
    have n1 := hne pr (has_right (has_left (has_r09 _ _)))
    have n2 : pu ≠ pr := h.ne (has_unit _ _ _ _ _) (has_right (has_left (has_r09 _ _)))
    obtain ⟨_, b, _⟩ := fOk_yes hb
    exact (r11_find_ok pu pm pr root asid bk n W M I addr wr at_ F w h.unit hm ht (by omega) ha' n2 n1.1 n1.2 hb hF).mono fun e w' ⟨h1, h2⟩ => ⟨h1, (hc w' _ h2).down3⟩

end Go.Proofs.Yteehghjdifbjbaa
