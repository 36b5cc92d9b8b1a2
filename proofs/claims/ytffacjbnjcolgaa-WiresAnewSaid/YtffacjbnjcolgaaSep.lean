/- Worlds in parts: what holds of some blocks, and of others apart from them. -/
import Derived.Test.YtffacjbnjcolgaaBase
namespace Go.Proofs.Ytffacjbnjcolgaa
set_option linter.unusedSimpArgs false
set_option linter.unusedVariables false
set_option maxRecDepth 100000
open Go.RowKit

/-- Some of a memory's blocks. -/
def PH : Type := Nat → Option Obj
def PH.apart (a b : PH) : Prop := ∀ k, a k = none ∨ b k = none
def PH.both (a b : PH) : PH := fun k => match a k with | some o => some o | none => b k
/-- What is said of some blocks. -/
def HP : Type := PH → Prop
def HP.star (P Q : HP) : HP := fun h => ∃ a b : PH, a.apart b ∧ h = a.both b ∧ P a ∧ Q b
instance : Mul HP := ⟨HP.star⟩
theorem HP.mul_def (P Q : HP) (h : PH) : (P * Q) h ↔ ∃ a b : PH, a.apart b ∧ h = a.both b ∧ P a ∧ Q b := Iff.rfl
theorem HP.ext {P Q : HP} (h : ∀ x, P x ↔ Q x) : P = Q := funext fun x => propext (h x)
theorem PH.apart.symm {a b : PH} (h : a.apart b) : b.apart a := fun k => (h k).symm
theorem PH.both_comm {a b : PH} (h : a.apart b) : a.both b = b.both a := by
  funext k
  unfold PH.both
  rcases h k with e | e
  · rw [e]; cases b k <;> rfl
  · rw [e]; cases a k <;> rfl
theorem PH.both_assoc (a b c : PH) : (a.both b).both c = a.both (b.both c) := by
  funext k
  unfold PH.both
  cases a k <;> rfl
theorem PH.both_none {a b : PH} {k : Nat} : a.both b k = none ↔ a k = none ∧ b k = none := by
  unfold PH.both
  cases h : a k <;> simp
theorem star_comm (P Q : HP) : P * Q = Q * P := HP.ext fun _ => ⟨fun ⟨a, b, h, e, p, q⟩ => ⟨b, a, h.symm, e.trans (PH.both_comm h), q, p⟩, fun ⟨a, b, h, e, p, q⟩ => ⟨b, a, h.symm, e.trans (PH.both_comm h), q, p⟩⟩
theorem star_assoc (P Q R : HP) : P * Q * R = P * (Q * R) := HP.ext fun x => by
  constructor
  · rintro ⟨ab, c, h1, rfl, ⟨a, b, h2, rfl, p, q⟩, r⟩
    refine ⟨a, b.both c, fun k => ?_, PH.both_assoc _ _ _, p, b, c, fun k => ?_, rfl, q, r⟩
    · rcases h2 k with e | e
      · exact Or.inl e
      · rcases h1 k with e' | e'
        · exact Or.inl (PH.both_none.1 e').1
        · exact Or.inr (PH.both_none.2 ⟨e, e'⟩)
    · rcases h1 k with e' | e'
      · exact Or.inl (PH.both_none.1 e').2
      · exact Or.inr e'
  · rintro ⟨a, bc, h1, rfl, p, b, c, h2, rfl, q, r⟩
    refine ⟨a.both b, c, fun k => ?_, (PH.both_assoc _ _ _).symm, ⟨a, b, fun k => ?_, rfl, p, q⟩, r⟩
    · rcases h2 k with e | e
      · rcases h1 k with e' | e'
        · exact Or.inl (PH.both_none.2 ⟨e', e⟩)
        · exact Or.inr (PH.both_none.1 e').2
      · exact Or.inr e
    · rcases h1 k with e' | e'
      · exact Or.inl e'
      · exact Or.inr (PH.both_none.1 e').1
instance : Std.Commutative (α := HP) (fun P Q => P * Q) := ⟨star_comm⟩
instance : Std.Associative (α := HP) (fun P Q => P * Q) := ⟨star_assoc⟩

def exP {α : Sort _} (P : α → HP) : HP := fun h => ∃ x, P x h
/-- The blocks of S, of which I holds. -/
def ownP (S : Nat → Prop) (I : World → Prop) : HP := fun h => (∀ k, S k ↔ h k ≠ none) ∧ ∀ w : World, (∀ k o, h k = some o → w.heap[k]? = some o) → I w
def pt (b : Nat) (o : Obj) : HP := ownP (fun k => k = b) (fun w => w.heap[b]? = some o)
/-- No block. -/
def emp : HP := ownP (fun _ => False) (fun _ => True)
/-- What is said of worlds hangs on the blocks of S alone. -/
def Loc (S : Nat → Prop) (I : World → Prop) : Prop := ∀ w w' : World, I w → (∀ k, S k → w'.heap[k]? = w.heap[k]?) → I w'

/-- Of some blocks of a world P is said; beside its memory the world is as g is. -/
structure Sat (g w : World) (P : HP) : Prop where
  os : w.os = g.os
  tape : w.tape = g.tape
  output : w.output = g.output
  part : ∃ h : PH, (∀ k o, h k = some o → w.heap[k]? = some o) ∧ P h

theorem Sat.perm {g w : World} {P Q : HP} (h : Sat g w P) (e : P = Q) : Sat g w Q := e ▸ h
theorem Sat.mono {g w : World} {P Q : HP} (h : Sat g w P) (i : ∀ x, P x → Q x) : Sat g w Q :=
  ⟨h.os, h.tape, h.output, h.part.elim fun x hx => ⟨x, hx.1, i x hx.2⟩⟩
theorem star_mono {P P' Q : HP} (i : ∀ x, P x → P' x) : ∀ x, (P * Q) x → (P' * Q) x := fun _ ⟨a, b, h, e, p, q⟩ => ⟨a, b, h, e, i a p, q⟩
theorem Sat.mono_left {g w : World} {P P' R : HP} (h : Sat g w (P * R)) (i : ∀ x, P x → P' x) : Sat g w (P' * R) := h.mono (star_mono i)
theorem Sat.left {g w : World} {P Q : HP} (h : Sat g w (P * Q)) : Sat g w P := by
  obtain ⟨a, b, c, x, hx, p, q, hpq, rfl, hp, hq⟩ := h
  refine ⟨a, b, c, p, fun k o e => hx k o ?_, hp⟩
  unfold PH.both; rw [e]
theorem Sat.right {g w : World} {P Q : HP} (h : Sat g w (P * Q)) : Sat g w Q := (h.perm (star_comm _ _)).left
theorem Sat.ex {g w : World} {α : Sort _} {P : α → HP} {R : HP} (h : Sat g w (exP P * R)) : ∃ x, Sat g w (P x * R) := by
  obtain ⟨a, b, c, x, hx, p, q, hpq, rfl, ⟨y, hp⟩, hq⟩ := h
  exact ⟨y, a, b, c, _, hx, p, q, hpq, rfl, hp, hq⟩
theorem Sat.ex' {g w : World} {α : Sort _} {P : α → HP} {R : HP} (y : α) (h : Sat g w (P y * R)) : Sat g w (exP P * R) := h.mono_left fun _ hx => ⟨y, hx⟩
theorem Sat.inv {g w : World} {S : Nat → Prop} {I : World → Prop} {R : HP} (h : Sat g w (ownP S I * R)) : I w := by
  obtain ⟨_, _, _, x, hx, hs, hi⟩ := h.left
  exact hi w hx
theorem Sat.lt {g w : World} {S : Nat → Prop} {I : World → Prop} {R : HP} (h : Sat g w (ownP S I * R)) : ∀ k, S k → k < w.heap.size := by
  obtain ⟨_, _, _, x, hx, hs, hi⟩ := h.left
  intro k hk
  cases e : x k with
  | none => exact absurd e ((hs k).1 hk)
  | some o =>
    have := hx k o e
    rcases Nat.lt_or_ge k w.heap.size with h | h
    · exact h
    · rw [Array.getElem?_eq_none h] at this; cases this
/-- Blocks of one part are none of another one. -/
theorem Sat.apart {g w : World} {S T : Nat → Prop} {I J : World → Prop} {R : HP} (h : Sat g w (ownP S I * (ownP T J * R))) : ∀ k, S k → ¬ T k := by
  obtain ⟨_, _, _, x, hx, p, q, hpq, rfl, ⟨hp, _⟩, p', q', hpq', rfl, ⟨hp', _⟩, _⟩ := h
  intro k hs ht
  rcases hpq k with e | e
  · exact (hp k).1 hs e
  · exact (hp' k).1 ht (PH.both_none.1 e).1
theorem Sat.of_touch {g w w' : World} {P : HP} (h : Sat g w P) {S : Nat → Prop} (t : Touch S w w') (hs : ∀ k, k < w.heap.size → ¬ S k) : Sat g w' P := by
  obtain ⟨a, b, c, x, hx, p⟩ := h
  refine ⟨t.os.trans a, t.tape.trans b, t.output.trans c, x, fun k o e => ?_, p⟩
  have hk : k < w.heap.size := by
    rcases Nat.lt_or_ge k w.heap.size with h | h
    · exact h
    · have := hx k o e; rw [Array.getElem?_eq_none h] at this; cases this
  rw [t.block k hk (hs k hk)]; exact hx k o e
theorem Sat.below {g w w' : World} {P : HP} (h : Sat g w P) (b : Below w.heap.size w w') : Sat g w' P := h.of_touch (S := fun _ => False) (Touch.of_below b) (fun _ _ => id)
theorem Sat.alloc {g w : World} {P : HP} (h : Sat g w P) (o : Obj) : Sat g (w.alloc o) P := h.below ((Below.refl _ _).alloc (Nat.le_refl _) _)
theorem Sat.drewN {g w : World} {P : HP} (h : Sat g w P) (n : Nat) : Sat g (w.drewN n) P := ⟨h.os, h.tape, h.output, h.part⟩
theorem Sat.drew {g w : World} {P : HP} (h : Sat g w P) : Sat g w.drew P := ⟨h.os, h.tape, h.output, h.part⟩
theorem heap_lt {w : World} {k : Nat} {o : Obj} (h : w.heap[k]? = some o) : k < w.heap.size := by
  rcases Nat.lt_or_ge k w.heap.size with h' | h'
  · exact h'
  · rw [Array.getElem?_eq_none h'] at h; cases h
/-- A part is written, or new blocks come to it; all others stay. -/
theorem Sat.touch {g w w' : World} {S S' : Nat → Prop} {I I' : World → Prop} {R : HP} (h : Sat g w (ownP S I * R)) (t : Touch S w w') (i : I' w') (loc : Loc S' I') (hs : ∀ k, S' k → S k ∨ w.heap.size ≤ k) (hl : ∀ k, S' k → k < w'.heap.size) : Sat g w' (ownP S' I' * R) := by
  have hlt := h.lt
  obtain ⟨a, b, c, x, hx, p, q, hpq, rfl, hp, hq⟩ := h
  classical
  have hq' : ∀ k o, q k = some o → w.heap[k]? = some o ∧ ¬ S k := fun k o e => by
    have hn : p k = none := by rcases hpq k with h | h; exact h; rw [e] at h; cases h
    refine ⟨hx k o (by unfold PH.both; rw [hn]; exact e), fun hsk => (hp.1 k).1 hsk hn⟩
  have hw' : ∀ k o, q k = some o → w'.heap[k]? = some o ∧ ¬ S' k := fun k o e => by
    obtain ⟨h1, h2⟩ := hq' k o e
    refine ⟨by rw [t.block k (heap_lt h1) h2]; exact h1, fun hk => ?_⟩
    rcases hs k hk with h | h
    · exact h2 h
    · have := heap_lt h1; omega
  obtain ⟨r, hr⟩ : ∃ r : PH, ∀ k, r k = if S' k then w'.heap[k]? else none := ⟨fun k => if S' k then w'.heap[k]? else none, fun _ => rfl⟩
  have ry : ∀ k, S' k → r k = some (w'.heap[k]?.getD default) ∧ w'.heap[k]? = some (w'.heap[k]?.getD default) := fun k hk => by
    have hg : w'.heap[k]? = some (w'.heap[k]'(hl k hk)) := Array.getElem?_eq_getElem (hl k hk)
    have h1 := hr k
    rw [if_pos hk] at h1
    rw [h1, hg]; exact ⟨rfl, rfl⟩
  have rn : ∀ k, ¬ S' k → r k = none := fun k hk => by have h1 := hr k; rw [if_neg hk] at h1; exact h1
  refine ⟨t.os.trans a, t.tape.trans b, t.output.trans c, PH.both r q, ?_, r, q, ?_, rfl, ⟨fun k => ?_, ?_⟩, hq⟩
  · intro k o e
    unfold PH.both at e
    by_cases hk : S' k
    · rw [(ry k hk).1] at e
      rw [(ry k hk).2]; exact e
    · rw [rn k hk] at e; exact (hw' k o e).1
  · intro k
    by_cases hk : S' k
    · right
      cases e : q k with
      | none => rfl
      | some o => exact absurd hk (hw' k o e).2
    · left; exact rn k hk
  · by_cases hk : S' k
    · simp [hk, (ry k hk).1]
    · simp [hk, rn k hk]
  · intro w2 h2
    refine loc w' w2 i fun k hk => ?_
    rw [(ry k hk).2]
    exact h2 k _ (ry k hk).1
/-- A part that is not said of becomes one. -/
theorem Sat.emp {g w : World} {P : HP} (h : Sat g w P) : Sat g w (emp * P) := by
  obtain ⟨a, b, c, x, hx, p⟩ := h
  exact ⟨a, b, c, x, hx, fun _ => none, x, fun _ => Or.inl rfl, rfl, ⟨fun k => by simp, fun _ _ => trivial⟩, p⟩
theorem Sat.new {g w w' : World} {S' : Nat → Prop} {I' : World → Prop} {R : HP} (h : Sat g w R) (t : Below w.heap.size w w') (i : I' w') (loc : Loc S' I') (hs : ∀ k, S' k → w.heap.size ≤ k) (hl : ∀ k, S' k → k < w'.heap.size) : Sat g w' (ownP S' I' * R) :=
  h.emp.touch (Touch.of_below t) i loc (fun k hk => Or.inr (hs k hk)) hl
theorem loc_pt (b : Nat) (o : Obj) : Loc (fun k => k = b) (fun w => w.heap[b]? = some o) := fun _ _ h e => (e b rfl).trans h
theorem Sat.pt_new {g w : World} {P : HP} (h : Sat g w P) (o : Obj) : Sat g (w.alloc o) (pt w.heap.size o * P) :=
  h.new ((Below.refl _ _).alloc (Nat.le_refl _) _) (Array.getElem?_push_size (xs := w.heap)) (loc_pt _ _) (fun k e => by rw [e]; exact Nat.le_refl _) (fun k e => by rw [e]; simp)
theorem Sat.pt_heap {g w : World} {b : Nat} {o : Obj} {P : HP} (h : Sat g w (pt b o * P)) : w.heap[b]? = some o := Sat.inv h
theorem Sat.pt_lt {g w : World} {b : Nat} {o : Obj} {P : HP} (h : Sat g w (pt b o * P)) : b < w.heap.size := Sat.lt h b rfl

/-- All that a world had. -/
def whole (g : World) : HP := ownP (fun k => k < g.heap.size) (fun w => ∀ k, k < g.heap.size → w.heap[k]? = g.heap[k]?)
theorem Sat.start (w : World) : Sat w w (whole w) := by
  refine ⟨rfl, rfl, rfl, fun k => w.heap[k]?, fun _ _ h => h, fun k => ?_, fun w' h k hk => ?_⟩
  · by_cases hk : k < w.heap.size
    · simp [hk]
    · simp [hk, Array.getElem?_eq_none (Nat.le_of_not_lt hk)]
  · have hg : w.heap[k]? = some (w.heap[k]'hk) := Array.getElem?_eq_getElem hk
    rw [hg]; exact h k _ hg
theorem Sat.ends {g w : World} {R : HP} (h : Sat g w (whole g * R)) : Below g.heap.size g w :=
  ⟨h.os, h.tape, h.output, by
    rcases Nat.lt_or_ge w.heap.size g.heap.size with e | e
    · have := Sat.inv h w.heap.size e
      rw [Array.getElem?_eq_none (Nat.le_refl _), Array.getElem?_eq_getElem e] at this; cases this
    · exact e, fun k hk => Sat.inv h k hk⟩

end Go.Proofs.Ytffacjbnjcolgaa
