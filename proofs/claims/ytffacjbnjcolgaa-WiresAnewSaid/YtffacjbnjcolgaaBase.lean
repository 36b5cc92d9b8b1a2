/- Plain facts on worlds: what is kept. -/
import Derived.Test.YtffacjbnjcolgaaProg
import Derived.WalkKit
import Derived.WalkSpells
import Derived.WalkLawsBesides
import Derived.Handy
import Derived.Deep.QuietTactic
import Derived.BigQuiet
import Derived.Deep.RegionWith
import Derived.Deep.RegionHeld3
import Derived.StillTailTactics
import Derived.Deep.DeepCutAuto
import Derived.Deep.LoopGhost
import Derived.Deep.RegionLaw
import Derived.Deep.DeepFit
import Derived.Lib.Hide
namespace Go.Proofs.Ytffacjbnjcolgaa
set_option linter.unusedSimpArgs false
set_option linter.unusedVariables false
set_option maxRecDepth 100000
open Go.RowKit
set_option maxHeartbeats 400000

theorem keep {B : Nat} {w w' : World} (hb : Below B w w') {b o : Nat} {v : Value} (h : b < B) (hc : w.cell? ⟨b, o, none⟩ = some v) : w'.cell? ⟨b, o, none⟩ = some v := by
  rw [hb.cell (p := ⟨b, o, none⟩) h]; exact hc
theorem keepF {B : Nat} {w w' : World} (hb : Below B w w') {b o : Nat} {v : Bool} (h : b < B) (hc : w.frozen? ⟨b, o, none⟩ = v) : w'.frozen? ⟨b, o, none⟩ = v := by
  rw [hb.frozen (p := ⟨b, o, none⟩) h]; exact hc
theorem bcell {W w1 : World} (hb : Below W.heap.size W w1) : (∀ b o, b < W.heap.size → w1.cell? ⟨b, o, none⟩ = W.cell? ⟨b, o, none⟩) ∧ (∀ b o, b < W.heap.size → w1.frozen? ⟨b, o, none⟩ = W.frozen? ⟨b, o, none⟩) :=
  ⟨fun b o h => hb.cell (p := ⟨b, o, none⟩) h, fun b o h => hb.frozen (p := ⟨b, o, none⟩) h⟩

/-- The numbers of an int, of a uint64. -/
def I64 (a : Int) : Prop := -9223372036854775808 ≤ a ∧ a ≤ 9223372036854775807
def U64 (a : Int) : Prop := 0 ≤ a ∧ a ≤ 18446744073709551615

/-- What was there is as it was, but for the blocks of S; new blocks may have come. -/
structure Touch (S : Nat → Prop) (w w' : World) : Prop where
  os : w'.os = w.os
  tape : w'.tape = w.tape
  output : w'.output = w.output
  size : w.heap.size ≤ w'.heap.size
  block : ∀ k, k < w.heap.size → ¬ S k → w'.heap[k]? = w.heap[k]?

theorem Touch.refl (S : Nat → Prop) (w : World) : Touch S w w := ⟨rfl, rfl, rfl, Nat.le_refl _, fun _ _ _ => rfl⟩
theorem Touch.trans {S : Nat → Prop} {a b c : World} (h : Touch S a b) (k : Touch S b c) : Touch S a c :=
  ⟨k.os.trans h.os, k.tape.trans h.tape, k.output.trans h.output, Nat.le_trans h.size k.size, fun i hi hs => (k.block i (Nat.lt_of_lt_of_le hi h.size) hs).trans (h.block i hi hs)⟩
theorem Touch.mono {S T : Nat → Prop} {a b : World} (h : Touch S a b) (hs : ∀ k, k < a.heap.size → S k → T k) : Touch T a b :=
  ⟨h.os, h.tape, h.output, h.size, fun i hi ht => h.block i hi (fun s => ht (hs i hi s))⟩
theorem Touch.of_below {S : Nat → Prop} {a b : World} (h : Below a.heap.size a b) : Touch S a b :=
  ⟨h.os, h.tape, h.output, h.size, fun i hi _ => h.block i hi⟩
theorem Touch.below {S : Nat → Prop} {a b : World} (h : Touch S a b) {B : Nat} (hB : B ≤ a.heap.size) (hs : ∀ k, k < B → ¬ S k) : Below B a b :=
  ⟨h.os, h.tape, h.output, h.size, fun i hi => h.block i (by omega) (hs i hi)⟩
theorem Touch.drewN {S : Nat → Prop} {a b : World} (h : Touch S a b) (n : Nat) : Touch S a (b.drewN n) := ⟨h.os, h.tape, h.output, h.size, h.block⟩
theorem Touch.drew {S : Nat → Prop} {a b : World} (h : Touch S a b) : Touch S a b.drew := ⟨h.os, h.tape, h.output, h.size, h.block⟩
theorem Touch.alloc {S : Nat → Prop} {a b : World} (h : Touch S a b) (o : Obj) : Touch S a (b.alloc o) :=
  h.trans ⟨rfl, rfl, rfl, by simp, fun k hk _ => Below.heap_alloc _ _ _ hk⟩
theorem Touch.setCell {S : Nat → Prop} {a b : World} (h : Touch S a b) {p : Addr} (hp : S p.block ∨ a.heap.size ≤ p.block) (u : Value) : Touch S a (b.setCell p u) :=
  ⟨h.os, h.tape, h.output, by have := h.size; simp [World.setCell]; exact this, fun k hk hs => by
    rw [Below.heap_setCell _ _ _ _ (fun e => by subst e; rcases hp with hp | hp; exact hs hp; omega)]
    exact h.block k hk hs⟩

theorem below_drewN {B : Nat} {a b : World} (h : Below B a b) (n : Nat) : Below B a (b.drewN n) := ⟨h.os, h.tape, h.output, h.size, h.block⟩
theorem below_drew {B : Nat} {a b : World} (h : Below B a b) : Below B a b.drew := ⟨h.os, h.tape, h.output, h.size, h.block⟩
theorem cell_of_heap {w w' : World} {b : Nat} (h : w'.heap[b]? = w.heap[b]?) (o : Nat) : w'.cell? ⟨b, o, none⟩ = w.cell? ⟨b, o, none⟩ := World.cell?_of_block (w := w) (a := ⟨b, o, none⟩) h
theorem frozen_of_heap {w w' : World} {b : Nat} (h : w'.heap[b]? = w.heap[b]?) (o : Nat) : w'.frozen? ⟨b, o, none⟩ = w.frozen? ⟨b, o, none⟩ := World.frozen?_of_block (w := w) (a := ⟨b, o, none⟩) h
theorem keepT {S : Nat → Prop} {w w' : World} (ht : Touch S w w') {b o : Nat} {v : Value} (h : b < w.heap.size) (hs : ¬ S b) (hc : w.cell? ⟨b, o, none⟩ = some v) : w'.cell? ⟨b, o, none⟩ = some v := by
  rw [cell_of_heap (ht.block b h hs)]; exact hc

/-- A block of n cells that may be written, and what they hold. -/
structure RowF (w : World) (b n : Nat) (V : Nat → Value) : Prop where
  cell : ∀ j, j < n → w.cell? ⟨b, j, none⟩ = some (V j)
  free : ∀ j, j < n → w.frozen? ⟨b, j, none⟩ = false
  lt : b < w.heap.size
theorem RowF.touch {w w' : World} {b n : Nat} {V : Nat → Value} (h : RowF w b n V) {S : Nat → Prop} (t : Touch S w w') (hs : ¬ S b) : RowF w' b n V :=
  ⟨fun j hj => by rw [cell_of_heap (t.block b h.lt hs)]; exact h.cell j hj, fun j hj => by rw [frozen_of_heap (t.block b h.lt hs)]; exact h.free j hj, Nat.lt_of_lt_of_le h.lt t.size⟩
theorem RowF.below {w w' : World} {b n : Nat} {V : Nat → Value} (h : RowF w b n V) (t : Below w.heap.size w w') : RowF w' b n V :=
  h.touch (S := fun _ => False) (Touch.of_below t) id
theorem RowF.alloc {w : World} {b n : Nat} {V : Nat → Value} (h : RowF w b n V) (o : Obj) : RowF (w.alloc o) b n V := h.below ((Below.refl _ _).alloc (Nat.le_refl _) _)
theorem RowF.drew {w : World} {b n : Nat} {V : Nat → Value} (h : RowF w b n V) : RowF w.drew b n V := ⟨h.cell, h.free, h.lt⟩
theorem RowF.drewN {w : World} {b n : Nat} {V : Nat → Value} (h : RowF w b n V) (q : Nat) : RowF (w.drewN q) b n V := ⟨h.cell, h.free, h.lt⟩
theorem RowF.set {w : World} {b n : Nat} {V : Nat → Value} (h : RowF w b n V) (k : Nat) (hk : k < n) (u : Value) : RowF (w.setCell ⟨b, k, none⟩ u) b n (fun j => if j = k then u else V j) := by
  refine ⟨fun j hj => ?_, fun j hj => by simpa [go_sem] using h.free j hj, by simpa using h.lt⟩
  by_cases e : j = k
  · subst e
    have := h.cell j hj
    simp [go_sem, this]
  · have := h.cell j hj
    have hne : (⟨b, j, none⟩ : Addr) ≠ ⟨b, k, none⟩ := by simp [e]
    simp [go_sem, e, this, hne]
theorem RowF.congr {w : World} {b n : Nat} {V V' : Nat → Value} (h : RowF w b n V) (e : ∀ j, j < n → V j = V' j) : RowF w b n V' := ⟨fun j hj => by rw [← e j hj]; exact h.cell j hj, h.free, h.lt⟩
theorem RowF.set_other {w : World} {b n : Nat} {V : Nat → Value} (h : RowF w b n V) {p : Addr} (hp : p.block ≠ b) (u : Value) : RowF (w.setCell p u) b n V :=
  h.touch (S := fun k => k = p.block) (Touch.setCell (S := fun k => k = p.block) (Touch.refl _ _) (Or.inl rfl) _) (fun e => hp e.symm)
theorem RowF.new (w : World) (cs : List Value) (t : TypeId) : RowF (w.alloc (.cells cs.toArray t)) w.heap.size cs.length (fun j => cs.getD j undef) :=
  ⟨fun j hj => by simp [go_sem, hj], fun j hj => by simp [go_sem], by simp⟩

theorem own_touch {w w' : World} {base e size n : Nat} {v : Value} {xs : List Value} (h : w.ownsRow base e size v n xs) {S : Nat → Prop} (t : Touch S w w') (hs : ∀ g, base ≤ g → ¬ S g) : w'.ownsRow base e size v n xs := by
  obtain ⟨h1, h2⟩ := h
  refine ⟨h1, ?_⟩
  rcases h2 with h2 | ⟨g, cap, cur, hv, hg, hh, r⟩
  · exact Or.inl h2
  · refine Or.inr ⟨g, cap, cur, hv, hg, ?_, r⟩
    rw [t.block g (by rcases Nat.lt_or_ge g w.heap.size with h | h; exact h; rw [Array.getElem?_eq_none h] at hh; cases hh) (hs g hg)]
    exact hh
theorem own_slice {w : World} {base e size n : Nat} {v : Value} {xs : List Value} (h : w.ownsRow base e size v n xs) : ∃ a cap, v = .slice a n cap := by
  rcases h.2 with ⟨rfl, rfl⟩ | ⟨g, cap, cur, rfl, _⟩
  · exact ⟨_, _, rfl⟩
  · exact ⟨_, _, rfl⟩
theorem Touch.grown {S : Nat → Prop} {a w w' : World} {row : Option Nat} (h : Touch S a w) (hg : w.grownBy w' row) (hr : ∀ k, row = some k → S k ∨ a.heap.size ≤ k) : Touch S a w' :=
  ⟨hg.os.trans h.os, hg.tape.trans h.tape, hg.output.trans h.output, Nat.le_trans h.size hg.size, fun k hk hs => (hg.block k (Nat.lt_of_lt_of_le hk h.size) (fun e => by rcases hr k e.symm with h | h; exact hs h; omega)).trans (h.block k hk hs)⟩
theorem one_new (w : World) (v : Value) (t : TypeId) : ∀ j u, [v][j]? = some u → (w.alloc (.cells #[v] t)).cell? ((⟨w.heap.size, 0, none⟩ : Addr).add j) = some u := by
  intro j u h
  cases j with
  | zero => simp at h; subst h; simp [Addr.add, go_sem]
  | succ j => simp at h

/-- A goal that the walk is to leave alone: laid at the end of an arm of go_wp2_with, and taken off behind it. -/
structure Hold (p : Prop) : Prop where
  out : p

/-- A quiet call in a region that draws its order, behind an earlier such region. -/
theorem quiet_again {P : Program} {f : FuncId} {args : Array Value} {w : World} {a b : Nat} {v : Value}
    (h : Calls P f args (w.drewN (a + b)) fun e w' => e = .returned v ∧ w' = w.drewN (a + b)) : Calls P f args (w.drewN (a + b)) fun e w'' => e = .returned v ∧ ∃ m, w'' = w.drewN (a + m) :=
  h.mono fun _ _ ⟨he, hm⟩ => ⟨he, b, hm⟩

end Go.Proofs.Ytffacjbnjcolgaa
