/- Part 10 of the proofs: Class, Bud, Bud2, Bud3, BudNew. -/
import Derived.Test.YteehghjdifbjbaaQ1
import Derived.StillTail
import Derived.Deep.Quiet
import Derived.BigQuiet
import Derived.Test.YteehghjdifbjbaaQ9
import Derived.Deep.CutBlock
namespace Go.Proofs.Yteehghjdifbjbaa
set_option linter.unusedSimpArgs false
set_option linter.unusedVariables false
set_option maxRecDepth 100000
open Go.RowKit

/-- A world of which I holds. -/
structure Wc (I : World → Prop) where
  w : World
  h : I w
def InC (I : World → Prop) : World → Prop := fun w' => ∃ p : Wc I, w' = p.w
theorem class_call {P : Program} {f : FuncId} {args : Array Value} {I : World → Prop} {p : Wc I} {v : Value}
    (h : Calls P f args p.w fun e w' => e = .returned v ∧ I w') : Calls P f args p.w fun e w'' => e = .returned v ∧ ∃ p' : Wc I, w'' = p'.w :=
  h.mono fun _ _ ⟨x, y⟩ => ⟨x, ⟨_, y⟩, rfl⟩
/-- .. of a callee that leaves the world alone. -/
theorem class_same {P : Program} {f : FuncId} {args : Array Value} {I : World → Prop} {p : Wc I} {v : Value}
    (h : Calls P f args p.w fun e w' => e = .returned v ∧ p.w = w') : Calls P f args p.w fun e w'' => e = .returned v ∧ ∃ p' : Wc I, w'' = p'.w :=
  h.mono fun _ _ ⟨x, y⟩ => ⟨x, p, y.symm⟩

section
variable {P : Program} {ops : Array Oper} {md : Region.Mode} {C : World → Prop}

/-- The head's operations in whatever order, each over the class; then what L says. -/
def headQ (P : Program) (md : Region.Mode) (ops : Array Oper) (C : World → Prop) (n : Nat) (L : Array Bool → Act → Prop) : Nat → Array Bool → Act → Prop
  | 0, listed, a => L listed a
  | f + 1, listed, a => Region.ready md ops listed ≠ [] ∧ ∀ i ∈ Region.ready md ops listed, i < n ∧ qOp P ops C i (headQ P md ops C n L f (listed.setIfInBounds i true)) a

theorem any_of_headQ {n g : Nat} {L : Array Bool → Act → Prop} {Q' : Exit → Act → World → Prop} (hL : ∀ listed a w, C w → L listed a → wpAny P md ops Q' g listed a w) :
    ∀ (f : Nat) (listed : Array Bool) (a : Act) (w : World), C w → headQ P md ops C n L f listed a → wpAny P md ops Q' (f + g) listed a w
  | 0, listed, a, w, hw, h => by rw [Nat.zero_add]; exact hL _ _ _ hw h
  | f + 1, listed, a, w, hw, h => by
    rw [show f + 1 + g = (f + g) + 1 by omega]
    exact ⟨fun h0 => absurd h0 h.1, fun i hi => wpOp_of_qOp hw (fun a' w' hw' => any_of_headQ hL f _ a' w' hw') (h.2 i hi).2⟩

theorem headQ_first {n i : Nat} {oi : Oper} {v : Value} {L : Array Bool → Act → Prop} (hi : ops[i]? = some oi) (hsel : ∀ (j : Nat) (o : Oper) cs b, ops[j]? = some o → o.op ≠ .select cs b)
    (hs : Region.sinkB md ops n = true) (hc : Region.chainB md ops n = true) (hn : n < ops.size) (hin : i < n) (hdone : ∀ listed a, L listed a → ∀ j ∈ Region.ready md ops listed, n ≤ j) :
    ∀ (f : Nat) (listed : Array Bool) (a : Act), HeadInv md ops n listed →
      (∀ j oj, ops[j]? = some oj → j ≠ i → listed.getD j true = false → (∀ e ∈ oj.after, Region.binds md e = true → e.on ≠ i) → oi.apart ops oj = true) →
      i ∈ Region.ready md ops listed → YieldsIn P ops C oi v a →
      headQ P md ops C n L f (listed.setIfInBounds i true) (a.put oi.dst v) → headQ P md ops C n L (f + 1) listed a := by
  intro f
  induction f with
  | zero =>
    intro listed a inv _ hr hy H
    have hun := (mem_ready.1 hr).1
    refine ⟨fun h => (by rw [h] at hr; cases hr), fun j hj => ?_⟩
    have hjn : j < n := Nat.lt_of_not_le fun h => tail_waits hs hc hn inv _ i rfl hin hun j h hj
    refine ⟨hjn, ?_⟩
    by_cases hji : j = i
    · subst hji; exact hy.qOp hi H
    · have := hdone _ _ H j (ready_mono hj hji)
      omega
  | succ f ih =>
    intro listed a inv hfree hr hy H
    have hun := (mem_ready.1 hr).1
    refine ⟨fun h => (by rw [h] at hr; cases hr), fun j hj => ?_⟩
    have hjn : j < n := Nat.lt_of_not_le fun h => tail_waits hs hc hn inv _ i rfl hin hun j h hj
    refine ⟨hjn, ?_⟩
    by_cases hji : j = i
    · subst hji; exact hy.qOp hi H
    · have h1 := (H.2 j (ready_mono hj hji)).2
      obtain ⟨hjun, oj, hoj, hall⟩ := mem_ready.1 hj
      have hnot : ∀ e ∈ oj.after, Region.binds md e = true → e.on ≠ i := fun e he hb heq => by
        have h1 := hall e he hb
        rw [heq, getD_both hun] at h1
        cases h1
      have h2 := qOp_put hoj (hfree j oj hoj hji hjun hnot) (fun cs b => hsel i oi cs b hi) (fun cs b => hsel j oj cs b hoj) hy h1
      refine qOp_mono (fun a' h3 => ih (listed.setIfInBounds j true) a' (inv.set hj hjn) (fun k ok hk hki hun hno => ?_) (ready_mono hr (Ne.symm hji)) h3.1 ?_) h2
      · refine hfree k ok hk hki ?_ hno
        by_cases hjk : j = k
        · subst hjk; exact hjun
        · rw [getD_set_ne true hjk] at hun; exact hun
      · rw [Array.setIfInBounds_comm _ _ hji]
        exact h3.2

theorem headQ_lex {n g : Nat} {Lq : Act → Prop} (hsel : Region.noSelect ops = true) (hs : Region.sinkB md ops n = true) (hc : Region.chainB md ops n = true) (hn : n < ops.size) :
    ∀ (l : List Oper) (k : Nat) (listed : Array Bool) (a : Act), (∀ j, j < l.length → l[j]? = ops[k + j]?) → k + l.length = n → HeadInv md ops n listed →
    Region.lexHead md ops g l.length k listed = true → wpQuiet P ops C Lq l a →
    headQ P md ops C n (fun listed' a' => Region.seqB md ops g n listed' = true ∧ Lq a') l.length listed a
  | [], k, listed, a, _, hk, _, hB, h => by
    have : k = n := by simpa using hk
    subst this
    exact ⟨by simpa [Region.lexHead] using hB, h⟩
  | o :: l, k, listed, a, hl, hk, inv, hB, h => by
    have h0 : ops[k]? = some o := by simpa using (hl 0 (by simp)).symm
    simp only [List.length_cons, Region.lexHead, Bool.and_eq_true] at hB
    obtain ⟨⟨hr, hf⟩, hB'⟩ := hB
    have hkn : k < n := by simp only [List.length_cons] at hk; omega
    have hr' : k ∈ Region.ready md ops listed := by simpa using hr
    have hst : qOp P ops C k (wpQuiet P ops C Lq l) a := by unfold qOp; simp only [h0]; exact h
    obtain ⟨v, hy, hK⟩ := yieldsIn_of_qOp h0 hst
    exact headQ_first h0 (Region.noSelect_spec hsel) hs hc hn hkn (fun listed' a' hL => seqB_ready hL.1) l.length listed a inv (Region.free_spec h0 hf) hr' hy
      (headQ_lex hsel hs hc hn l (k + 1) _ _ (fun j hj => by have := hl (j + 1) (by simp; omega); simpa [Nat.add_assoc, Nat.add_comm 1 j] using this) (by simp only [List.length_cons] at hk; omega) (inv.set hr' hkn) hB' hK)
end

/-- A region of reads and calls over the worlds of which I holds. -/
theorem region_class {P : Program} {id : Nat} {Q : Exit → Act → World → Prop} {a : Act} {w : World} {l : List Oper} (I : World → Prop) (hm : P.follows .mixedOrders = true) (hB : Region.lexB .any l.toArray = true) (h0 : I w.drew)
    (h : Nonempty (Wc I) → wpQuiet P l.toArray (fun w' => ∃ p : Wc I, w' = p.w) (fun a' => ∀ w', I w' → Q .normal a' w') l a) : (Code.region id l.toArray true).wp P Q a w :=
  wp_region_quiet (C := fun w' => ∃ p : Wc I, w' = p.w) hm hB ⟨⟨w.drew, h0⟩, rfl⟩ (by
    have e : (fun a' => ∀ w', (∃ p : Wc I, w' = p.w) → Q .normal a' w') = (fun a' => ∀ w', I w' → Q .normal a' w') := by
      funext a'
      exact propext ⟨fun h w' hw => h w' ⟨⟨w', hw⟩, rfl⟩, fun h w' ⟨p, hp⟩ => by rw [hp]; exact h p.w p.h⟩
    have h := h ⟨⟨w.drew, h0⟩⟩
    rw [e]; simpa using h)
/-- The same, with a last part that comes in its own order. -/
theorem region_tail {P : Program} {id : Nat} {Q : Exit → Act → World → Prop} {a : Act} {w : World} {l : List Oper} (I : World → Prop) (n : Nat) (hm : P.follows .mixedOrders = true) (hB : Region.lexTailB .any l.toArray n = true) (h0 : I w.drew)
    (h : Nonempty (Wc I) → wpQuiet P l.toArray (fun w' => ∃ p : Wc I, w' = p.w) (fun a' => ∀ w', I w' → wpList P l.toArray Q (l.drop n) a' w') (l.take n) a) : (Code.region id l.toArray true).wp P Q a w := by
  have h := h ⟨⟨w.drew, h0⟩⟩
  simp only [Region.lexTailB, Bool.and_eq_true, decide_eq_true_eq] at hB
  obtain ⟨⟨⟨⟨hsel, hn⟩, hs⟩, hc⟩, hlex⟩ := hB
  have hn' : n < l.length := by simpa using hn
  have htl : (l.take n).length = n := by simp; omega
  have hdl : (l.drop n).length = l.toArray.size - n := by simp
  have inv0 : HeadInv .any l.toArray n (Array.replicate l.toArray.size false) :=
    ⟨by simp, fun j oj _ hl => (by rw [getD_replicate_false] at hl; cases hl), fun t _ ht => getD_in (by simpa using ht) (getD_replicate_false _ _)⟩
  have H := headQ_lex (md := .any) (g := l.toArray.size - n) hsel hs hc hn (l.take n) 0 _ a (fun j hj => by
    have hj' : j < n := by rw [htl] at hj; exact hj
    simp [hj']) (by simpa using htl) inv0 (by rw [htl]; exact hlex) h
  refine wp_region_any hm ?_
  have := any_of_headQ (Q' := Q) (g := l.toArray.size - n) (fun listed a' w' ⟨p, hp⟩ hL => by
    have := wpAny_of_seq (md := .any) (Q' := Q) (l.drop n) n listed a' w' (fun j => by simp [List.getElem?_drop]) (by rw [hdl]; exact hL.1) (hL.2 w' (by rw [hp]; exact p.h))
    rwa [hdl] at this) _ _ _ w.drew ⟨⟨w.drew, h0⟩, rfl⟩ H
  rw [htl, show n + (l.toArray.size - n) = l.toArray.size by omega] at this
  exact this

end Go.Proofs.Yteehghjdifbjbaa

namespace Go.Proofs.Yteehghjdifbjbaa
set_option linter.unusedSimpArgs false
set_option linter.unusedVariables false
set_option maxRecDepth 100000
open Go.RowKit
set_option maxHeartbeats 4000000

def budS (pb hb : Nat) (V : Nat → Value) (k : Nat) : Prop := k = pb ∨ k = hb ∨ ∃ i, i < 9 ∧ (V i).ownBlock = some k
structure BudIn (w : World) (pb pm hb : Nat) (V : Nat → Value) (F : Nat → List Int) (H : List Blk) : Prop where
  c0 : w.cell? ⟨pb, 0, none⟩ = some (.pointer (some ⟨pm, 0, none⟩))
  cl : ∀ i, i < 9 → w.cell? ⟨pb, 1 + i, none⟩ = some (V i)
  cm : w.cell? ⟨pb, 10, none⟩ = some (.map (some hb))
  free : ∀ j, j < 11 → w.frozen? ⟨pb, j, none⟩ = false
  rows : ∀ i, i < 9 → RowI w 0 (V i) (F i)
  apart : ∀ i j k, i < 9 → j < 9 → (V i).ownBlock = some k → (V j).ownBlock = some k → i = j
  nepb : ∀ i, i < 9 → (V i).ownBlock ≠ some pb
  nehb : ∀ i, i < 9 → (V i).ownBlock ≠ some hb
  ne : hb ≠ pb
  held : MapB w hb H
  lt : pb < w.heap.size
theorem own_heap' {w w' : World} {base e size n : Nat} {v : Value} {xs : List Value} (h : w.ownsRow base e size v n xs) (t : ∀ g, v.ownBlock = some g → w'.heap[g]? = w.heap[g]?) : w'.ownsRow base e size v n xs := by
  obtain ⟨h1, h2⟩ := h
  refine ⟨h1, ?_⟩
  rcases h2 with h2 | ⟨g, cap, cur, hv, hg, hh, r⟩
  · exact Or.inl h2
  · exact Or.inr ⟨g, cap, cur, hv, hg, (t g (by rw [hv]; rfl)).trans hh, r⟩
theorem heap_ltO {w w' : World} {k : Nat} (e : w'.heap[k]? = w.heap[k]?) (h : k < w.heap.size) : k < w'.heap.size := by
  rcases Nat.lt_or_ge k w'.heap.size with h' | h'
  · exact h'
  · rw [Array.getElem?_eq_none h', Array.getElem?_eq_getElem h] at e; cases e
theorem BudIn.heap {w w' : World} {pb pm hb : Nat} {V : Nat → Value} {F : Nat → List Int} {H : List Blk} (h : BudIn w pb pm hb V F H) (e : ∀ k, budS pb hb V k → w'.heap[k]? = w.heap[k]?) : BudIn w' pb pm hb V F H :=
  have ep := e pb (Or.inl rfl)
  ⟨(cell_of_heap ep _).trans h.c0, fun i hi => (cell_of_heap ep _).trans (h.cl i hi), (cell_of_heap ep _).trans h.cm, fun j hj => (frozen_of_heap ep _).trans (h.free j hj), fun i hi => own_heap' (h.rows i hi) (fun g hg => e g (Or.inr (Or.inr ⟨i, hi, hg⟩))),
   h.apart, h.nepb, h.nehb, h.ne, h.held.heap (e hb (Or.inr (Or.inl rfl))), heap_ltO ep h.lt⟩
theorem BudIn.slt {w : World} {pb pm hb : Nat} {V : Nat → Value} {F : Nat → List Int} {H : List Blk} (h : BudIn w pb pm hb V F H) : ∀ k, budS pb hb V k → k < w.heap.size := fun k hk => by
  rcases hk with rfl | rfl | ⟨i, hi, hk⟩
  · exact h.lt
  · exact h.held.lt
  · exact (World.ownsRow.lt (h.rows i hi) k hk).2
theorem BudIn.below {w w' : World} {pb pm hb : Nat} {V : Nat → Value} {F : Nat → List Int} {H : List Blk} (h : BudIn w pb pm hb V F H) (t : Below w.heap.size w w') : BudIn w' pb pm hb V F H := h.heap fun k hk => t.block k (h.slt k hk)
def upd {α : Type} (V : Nat → α) (o : Nat) (v : α) : Nat → α := fun i => if i = o then v else V i
theorem upd_same {α : Type} (V : Nat → α) (o : Nat) (v : α) : upd V o v o = v := by simp [upd]
theorem upd_other {α : Type} (V : Nat → α) {o i : Nat} (v : α) (h : i ≠ o) : upd V o v i = V i := by simp [upd, h]
/-- What a step leaves behind that has turned a Buddy. -/
def BudPost (w : World) (pb pm hb : Nat) (V : Nat → Value) (F' : Nat → List Int) (H' : List Blk) (w' : World) : Prop :=
  ∃ V', BudIn w' pb pm hb V' F' H' ∧ Touch (budS pb hb V) w w' ∧ ∀ k, budS pb hb V' k → budS pb hb V k ∨ w.heap.size ≤ k
theorem set_far (w : World) (b i j : Nat) (u : Value) (h : i ≠ j) : (w.setCell ⟨b, j, none⟩ u).cell? ⟨b, i, none⟩ = w.cell? ⟨b, i, none⟩ := World.cell?_setCell_other w ⟨b, j, none⟩ ⟨b, i, none⟩ u (fun e => by simp at e <;> omega)
/-- A list is another one now: in its place stands what a function has handed back. -/
theorem BudIn.list {w0 w w1 : World} {pb pm hb : Nat} {V : Nat → Value} {F : Nat → List Int} {H : List Blk} (h0 : BudIn w0 pb pm hb V F H) (hb0 : Below w0.heap.size w0 w) {o : Nat} (ho : o < 9) {L' : List Int} {a : Option Addr} {cap : Nat}
    (hr : RowI w1 0 (.slice a L'.length cap) L') (ht : Touch (fun k => (V o).ownBlock = some k) w w1) (hn : ∀ k, Value.ownBlock (.slice a L'.length cap) = some k → (V o).ownBlock = some k ∨ w.heap.size ≤ k) :
    BudPost w0 pb pm hb V (upd F o L') H (w1.setCell ⟨pb, 1 + o, none⟩ (.slice a L'.length cap)) := by
  have h := h0.below hb0
  have hk1 : ∀ k, budS pb hb V k → (V o).ownBlock ≠ some k → w1.heap[k]? = w.heap[k]? := fun k hk hne => ht.block k (h.slt k hk) hne
  have ep := hk1 pb (Or.inl rfl) (h.nepb o ho)
  have eh := hk1 hb (Or.inr (Or.inl rfl)) (h.nehb o ho)
  obtain ⟨u, hu⟩ : ∃ u, u = Value.slice a L'.length cap := ⟨_, rfl⟩
  rw [← hu] at hr hn ⊢
  have hset : ∀ k, k ≠ pb → (w1.setCell ⟨pb, 1 + o, none⟩ u).heap[k]? = w1.heap[k]? := fun k hk => Below.heap_setCell _ _ _ _ hk
  have hupb : ∀ k, u.ownBlock = some k → k ≠ pb ∧ k ≠ hb := fun k hk => by
    rcases hn k hk with e | e
    · exact ⟨fun e' => h.nepb o ho (e' ▸ e), fun e' => h.nehb o ho (e' ▸ e)⟩
    · have h1 := h.lt; have h2 := h.held.lt; exact ⟨by omega, by omega⟩
  have hV : ∀ i k, i < 9 → (upd V o u i).ownBlock = some k → (i = o ∧ u.ownBlock = some k) ∨ (i ≠ o ∧ (V i).ownBlock = some k) := fun i k _ hk => by
    by_cases e : i = o
    · subst e; rw [upd_same] at hk; exact Or.inl ⟨rfl, hk⟩
    · rw [upd_other V u e] at hk; exact Or.inr ⟨e, hk⟩
  have hcross : ∀ i k, i < 9 → i ≠ o → u.ownBlock = some k → (V i).ownBlock ≠ some k := fun i k hi hne hk he => by
    rcases hn k hk with e | e
    · exact hne (h.apart i o k hi ho he e)
    · have := h.slt k (Or.inr (Or.inr ⟨i, hi, he⟩)); omega
  refine ⟨upd V o u, ⟨?_, fun i hi => ?_, ?_, fun j hj => ?_, fun i hi => ?_, fun i j k hi hj h1 h2 => ?_, fun i hi e => ?_, fun i hi e => ?_, h.ne, (h.held.heap eh).heap (hset hb h.ne), ?_⟩, ?_, fun k hk => ?_⟩
  · have h1 := (cell_of_heap ep 0).trans h.c0
    rw [set_far _ _ _ _ _ (by omega)]; exact h1
  · by_cases e : i = o
    · subst e
      rw [upd_same]
      have := (cell_of_heap ep (1 + i)).trans (h.cl i hi)
      exact World.cell?_setCell_same' _ _ _ (by rw [this]; rfl)
    · rw [upd_other V u e]
      rw [set_far _ _ _ _ _ (by omega)]; exact (cell_of_heap ep _).trans (h.cl i hi)
  · rw [set_far _ _ _ _ _ (by omega)]; exact (cell_of_heap ep _).trans h.cm
  · rw [World.frozen?_setCell]; exact (frozen_of_heap ep _).trans (h.free j hj)
  · by_cases e : i = o
    · subst e
      rw [upd_same, upd_same]
      exact own_heap' hr (fun g hg => hset g (hupb g hg).1)
    · rw [upd_other V u e, upd_other F L' e]
      refine own_heap' (h.rows i hi) (fun g hg => (hset g (fun e' => h.nepb i hi (e' ▸ hg))).trans (hk1 g (Or.inr (Or.inr ⟨i, hi, hg⟩)) (fun e' => e (h.apart i o g hi ho hg e'))))
  · rcases hV i k hi h1 with ⟨e1, q1⟩ | ⟨e1, q1⟩ <;> rcases hV j k hj h2 with ⟨e2, q2⟩ | ⟨e2, q2⟩
    · rw [e1, e2]
    · exact absurd q2 (hcross j k hj e2 q1)
    · exact absurd q1 (hcross i k hi e1 q2)
    · exact h.apart i j k hi hj q1 q2
  · rcases hV i pb hi e with ⟨_, q⟩ | ⟨_, q⟩
    · exact (hupb pb q).1 rfl
    · exact h.nepb i hi q
  · rcases hV i hb hi e with ⟨_, q⟩ | ⟨_, q⟩
    · exact (hupb hb q).2 rfl
    · exact h.nehb i hi q
  · have := Nat.lt_of_lt_of_le h.lt ht.size
    simpa using this
  · refine ((Touch.of_below hb0).trans ((ht.mono (fun k _ hk => ?_)).setCell ?_ _))
    · exact Or.inr (Or.inr ⟨o, ho, hk⟩)
    · exact Or.inl (Or.inl rfl)
  · have hs := hb0.size
    rcases hk with rfl | rfl | ⟨i, hi, hk⟩
    · exact Or.inl (Or.inl rfl)
    · exact Or.inl (Or.inr (Or.inl rfl))
    · rcases hV i k hi hk with ⟨_, q⟩ | ⟨_, q⟩
      · rcases hn k q with e | e
        · exact Or.inl (Or.inr (Or.inr ⟨o, ho, e⟩))
        · exact Or.inr (by omega)
      · exact Or.inl (Or.inr (Or.inr ⟨i, hi, q⟩))

theorem bput_any (pb pm hb : Nat) (V : Nat → Value) (F : Nat → List Int) (H : List Blk) (f : Int) (o : Nat) (w : World) (h : BudIn w pb pm hb V F H) (ho : o < 9) (hs : (F o).Pairwise (· < ·)) (hl : (F o).length ≤ 1000000) :
    Calls Try.prog 63 #[.pointer (some ⟨pb, 0, none⟩), .agg #[.int .i64 f, .int .i64 o]] w fun e w' => e = .returned (.tuple #[]) ∧ BudPost w pb pm hb V (upd F o (addL (F o) f)) H w' := by
  obtain ⟨w1, hw1⟩ : ∃ w1, w1 = w.alloc (.cells #[.int .i64 f, .int .i64 o] 130) := ⟨_, rfl⟩
  have hb1 : Below w.heap.size w w1 := by rw [hw1]; repeat (first | with_reducible exact Below.refl _ _ | with_reducible assumption | with_reducible refine below_drewN ?_ _ | with_reducible refine Below.alloc ?_ (by simp <;> omega) _)
  have h1 := h.below hb1
  have d0 : w1.cell? ⟨w.heap.size, 0, none⟩ = some (.int .i64 f) := by rw [hw1]; simp [go_sem]
  have d1 : w1.cell? ⟨w.heap.size, 1, none⟩ = some (.int .i64 o) := by rw [hw1]; simp [go_sem]
  have hsz : w.heap.size < w1.heap.size := by rw [hw1]; simp
  obtain ⟨a, cap, hv⟩ := own_slice (h1.rows o ho)
  have gl := h1.cl o ho
  rw [hv] at gl
  have o0 : (0 : Int) ≤ (o : Int) := by omega
  have o9 : (o : Int) < 9 := by omega
  have hrow := h1.rows o ho
  rw [hv] at hrow
  have HV := Lib.hid hv
  have hown : ∀ k, (V o).ownBlock = some k → k < w.heap.size := fun k hk => h.slt k (Or.inr (Or.inr ⟨o, ho, hk⟩))
  have HO := Lib.hid hown
  have hnpb : w.heap.size ≠ pb := by have := h.lt; omega
  have hfz := h1.free (1 + o) (by omega)
  have hsr : (F o).Pairwise (· ≤ ·) := hs.imp (fun h => Int.le_of_lt h)
  obtain ⟨i, hi⟩ : ∃ i, (F o).countP (· < f) = i := ⟨_, rfl⟩
  have hil : i ≤ (F o).length := by rw [← hi]; exact List.countP_le_length
  have hadd : addL (F o) f = insL (F o) i f := by unfold addL; rw [hi]
  have hsea : ∀ w', w'.heap = w1.heap → Calls Try.prog 85 #[.slice a (F o).length cap, .int .i64 f] w' fun e w'' => e = .returned (.tuple #[.int .i64 i, .bool ((F o).contains f)]) ∧ ∃ q, w'' = w'.drewN q := fun w' hw => by
    have := search_any (.slice a (F o).length cap) (F o) f w' (own_heap' hrow (fun g _ => by rw [hw])) hsr hl
    rwa [hi] at this
  generalize (F o).contains f = is at hsea
  have HSEA := Lib.hid hsea
  have HADD := Lib.hid hadd
  have HROW := Lib.hid hrow
  clear hs hsr hi hadd hsea hrow hv hown
  have c1 : ∀ p : Wc (fun w' => w1.drew = w'), p.w.cell? ⟨w.heap.size, 1, none⟩ = some (.int .i64 o) := fun p => by rw [← p.h]; exact d1
  have c2 : ∀ p : Wc (fun w' => w1.drew = w'), p.w.cell? ⟨pb, 1 + o, none⟩ = some (.slice a (F o).length cap) := fun p => by rw [← p.h]; exact gl
  go_enter Try.func63, Try.ntmps63
  go_wp2_with (fail)
  rw [← hw1]
  clear hw1
  (refine region_class (fun w' => w1.drew = w') (by kernel_rfl) (by kernel_rfl) (rfl) ?_; intro _; (repeat (first | go_big_quiet_step (fail) | quiet_step (fail))); refine wpQuiet_nil ?_; intro wz hz)
  obtain rfl := hz
  clear c1 c2
  go_wp2_with (fail)
  refine (HSEA.out w1.drew rfl).mono ?_
  rintro e w' ⟨rfl, q, hw'⟩
  obtain ⟨w2, hw2⟩ : ∃ w2, w2 = w1.drew.drewN q := ⟨_, rfl⟩
  rw [hw', ← hw2]
  have hb2 : Below w1.heap.size w1 w2 := by rw [hw2]; repeat (first | with_reducible exact Below.refl _ _ | with_reducible assumption | with_reducible refine below_drewN ?_ _ | with_reducible refine Below.drew ?_ | with_reducible refine Below.setCell ?_ (by first | omega | (simp <;> omega)) _ | with_reducible refine Below.alloc ?_ (by first | omega | (simp <;> omega)) _)
  clear hw2 hw'
  have hbw2 : Below w.heap.size w w2 := hb1.trans (hb2.mono hb1.size)
  have hz2 := hb2.size
  have HSB : Hid (∀ w', Below w1.heap.size w1 w' → w'.cell? ⟨w.heap.size, 0, none⟩ = some (.int .i64 f) ∧ w'.cell? ⟨w.heap.size, 1, none⟩ = some (.int .i64 o)) := Lib.hid fun w' hb => ⟨keep hb hsz d0, keep hb hsz d1⟩
  have hfar : ∀ (w' : World) (u : Value) (j : Nat), (w'.setCell ⟨pb, 1 + o, none⟩ u).cell? ⟨w.heap.size, j, none⟩ = w'.cell? ⟨w.heap.size, j, none⟩ := fun w' u j => World.cell?_setCell_other w' ⟨pb, 1 + o, none⟩ ⟨w.heap.size, j, none⟩ u (fun e => by simp at e <;> first | exact hnpb e.1 | exact hnpb e.1.symm)
  have HFAR := Lib.hid hfar
  clear hfar d0 d1
  have fin : ∀ (w3 w4 : World) (a4 : Option Addr) (cap4 : Nat), Below w1.heap.size w1 w3 → RowI w4 0 (.slice a4 (insL (F o) i f).length cap4) (insL (F o) i f) → Touch (fun k => Value.ownBlock (.slice a (F o).length cap) = some k) w3 w4 →
      (∀ k, Value.ownBlock (.slice a4 (insL (F o) i f).length cap4) = some k → Value.ownBlock (.slice a (F o).length cap) = some k ∨ w3.heap.size ≤ k) → BudPost w pb pm hb V (upd F o (addL (F o) f)) H (w4.setCell ⟨pb, 1 + o, none⟩ (.slice a4 (insL (F o) i f).length cap4)) := fun w3 w4 a4 cap4 hb3 hr ht hn => by
    rw [HADD.out]
    rw [← HV.out] at ht hn
    exact h.list (hb1.trans (hb3.mono hb1.size)) ho hr ht hn
  have FIN := Lib.hid fin
  clear fin
  go_wp2_with (fail)
  go_region_held3 (fun w' => w'.cell? ⟨w.heap.size, 0, none⟩ = some (.int .i64 f) ∧ w'.cell? ⟨w.heap.size, 1, none⟩ = some (.int .i64 o)) (first | (refine HSB.out _ ?_; (repeat (first | with_reducible exact Below.refl _ _ | with_reducible assumption | with_reducible refine below_drewN ?_ _ | with_reducible refine Below.drew ?_ | with_reducible refine Below.setCell ?_ (by first | omega | (simp <;> omega)) _ | with_reducible refine Below.alloc ?_ (by first | omega | (simp <;> omega)) _)); done) | exact ⟨d40, d41⟩ | exact ⟨(HFAR.out _ _ _).trans d40, (HFAR.out _ _ _).trans d41⟩)
    ((go_at_call 86
      refine (ins_any (.slice a (F o).length cap) (F o) i f _ _ (by exact own_heap' HROW.out (fun g hg => Below.block (B := w1.heap.size) (by repeat (first | with_reducible exact Below.refl _ _ | with_reducible assumption | with_reducible refine below_drewN ?_ _ | with_reducible refine Below.drew ?_ | with_reducible refine Below.setCell ?_ (by first | omega | (simp <;> omega)) _ | with_reducible refine Below.alloc ?_ (by first | omega | (simp <;> omega)) _)) g (World.ownsRow.lt HROW.out g hg).2)) hil hl (by exact heap_alloc_new _ _) (fun e => by have h5 : w2.heap.size < w.heap.size := HO.out _ (by rw [HV.out]; exact e); have := hb1.size; omega)).mono ?_
      rintro e w4 ⟨a4, cap4, rfl, hr4, ht4, hn4⟩
      have hz4 := ht4.size
      have hnb : ∀ k, k < w1.heap.size → Value.ownBlock (.slice a (F o).length cap) ≠ some k → w4.heap[k]? = w1.heap[k]? := fun k hk hne => (ht4.block k (by simp; omega) hne).trans ((Below.block (B := w1.heap.size) (by repeat (first | with_reducible exact Below.refl _ _ | with_reducible assumption | with_reducible refine below_drewN ?_ _ | with_reducible refine Below.drew ?_ | with_reducible refine Below.setCell ?_ (by first | omega | (simp <;> omega)) _ | with_reducible refine Below.alloc ?_ (by first | omega | (simp <;> omega)) _)) k hk))
      have hno : Value.ownBlock (.slice a (F o).length cap) ≠ some w.heap.size := fun e => by have := HO.out _ (by rw [HV.out]; exact e); omega
      have d40 := (cell_of_heap (hnb _ hsz hno) 0).trans (HSB.out _ (Below.refl _ _)).1
      have d41 := (cell_of_heap (hnb _ hsz hno) 1).trans (HSB.out _ (Below.refl _ _)).2
      have hnp : Value.ownBlock (.slice a (F o).length cap) ≠ some pb := by rw [← HV.out]; exact h1.nepb o ho
      have e4 := (cell_of_heap (hnb _ h1.lt hnp) (1 + o)).trans gl
      have f4 := (frozen_of_heap (hnb _ h1.lt hnp) (1 + o)).trans hfz))
  all_goals
    go_wp2_with (fail)
    go_end0
    exact ⟨rfl, FIN.out _ _ _ _ (by repeat (first | with_reducible exact Below.refl _ _ | with_reducible assumption | with_reducible refine below_drewN ?_ _ | with_reducible refine Below.drew ?_ | with_reducible refine Below.setCell ?_ (by first | omega | (simp <;> omega)) _ | with_reducible refine Below.alloc ?_ (by first | omega | (simp <;> omega)) _)) hr4 ht4 hn4⟩

end Go.Proofs.Yteehghjdifbjbaa

namespace Go.Proofs.Yteehghjdifbjbaa
set_option linter.unusedSimpArgs false
set_option linter.unusedVariables false
set_option maxRecDepth 100000
open Go.RowKit
set_option maxHeartbeats 4000000

theorem take_no (pb pm hb : Nat) (V : Nat → Value) (F : Nat → List Int) (H : List Blk) (f : Int) (o : Nat) (w : World) (h : BudIn w pb pm hb V F H) (ho : o < 9) (hs : (F o).Pairwise (· < ·)) (hl : (F o).length ≤ 1000000) (hf : f ∉ F o) :
    Calls Try.prog 87 #[.pointer (some ⟨pb, 0, none⟩), .agg #[.int .i64 f, .int .i64 o]] w fun e w' => e = .returned (.bool false) ∧ Below w.heap.size w w' := by
  obtain ⟨w1, hw1⟩ : ∃ w1, w1 = w.alloc (.cells #[.int .i64 f, .int .i64 o] 130) := ⟨_, rfl⟩
  have hb1 : Below w.heap.size w w1 := by rw [hw1]; repeat (first | with_reducible exact Below.refl _ _ | with_reducible assumption | with_reducible refine below_drewN ?_ _ | with_reducible refine Below.alloc ?_ (by simp <;> omega) _)
  have h1 := h.below hb1
  have d0 : w1.cell? ⟨w.heap.size, 0, none⟩ = some (.int .i64 f) := by rw [hw1]; simp [go_sem]
  have d1 : w1.cell? ⟨w.heap.size, 1, none⟩ = some (.int .i64 o) := by rw [hw1]; simp [go_sem]
  have hsz : w.heap.size < w1.heap.size := by rw [hw1]; simp
  obtain ⟨a, cap, hv⟩ := own_slice (h1.rows o ho)
  have gl := h1.cl o ho
  rw [hv] at gl
  have o0 : (0 : Int) ≤ (o : Int) := by omega
  have o9 : (o : Int) < 9 := by omega
  have hrow := h1.rows o ho
  rw [hv] at hrow
  have HV := Lib.hid hv
  have hown : ∀ k, (V o).ownBlock = some k → k < w.heap.size := fun k hk => h.slt k (Or.inr (Or.inr ⟨o, ho, hk⟩))
  have HO := Lib.hid hown
  have hnpb : w.heap.size ≠ pb := by have := h.lt; omega
  have hfz := h1.free (1 + o) (by omega)
  have hsr : (F o).Pairwise (· ≤ ·) := hs.imp (fun h => Int.le_of_lt h)
  obtain ⟨i, hi⟩ : ∃ i, (F o).countP (· < f) = i := ⟨_, rfl⟩
  have hil : i ≤ (F o).length := by rw [← hi]; exact List.countP_le_length
  have hadd : addL (F o) f = insL (F o) i f := by unfold addL; rw [hi]
  have hsea : ∀ w', w'.heap = w1.heap → Calls Try.prog 85 #[.slice a (F o).length cap, .int .i64 f] w' fun e w'' => e = .returned (.tuple #[.int .i64 i, .bool false]) ∧ ∃ q, w'' = w'.drewN q := fun w' hw => by
    have := search_any (.slice a (F o).length cap) (F o) f w' (own_heap' hrow (fun g _ => by rw [hw])) hsr hl
    rwa [hi, show (F o).contains f = false by simpa using hf] at this
  have HSEA := Lib.hid hsea
  have HADD := Lib.hid hadd
  have HROW := Lib.hid hrow
  clear hs hsr hi hadd hsea hrow hv hown hf
  have c1 : ∀ p : Wc (fun w' => w1.drew = w'), p.w.cell? ⟨w.heap.size, 1, none⟩ = some (.int .i64 o) := fun p => by rw [← p.h]; exact d1
  have c2 : ∀ p : Wc (fun w' => w1.drew = w'), p.w.cell? ⟨pb, 1 + o, none⟩ = some (.slice a (F o).length cap) := fun p => by rw [← p.h]; exact gl
  go_enter Try.func87, Try.ntmps87
  go_wp2_with (fail)
  rw [← hw1]
  clear hw1
  (refine region_class (fun w' => w1.drew = w') (by kernel_rfl) (by kernel_rfl) (rfl) ?_; intro _; (repeat (first | go_big_quiet_step (fail) | quiet_step (fail))); refine wpQuiet_nil ?_; intro wz hz)
  obtain rfl := hz
  clear c1 c2
  go_wp2_with (fail)
  refine (HSEA.out w1.drew rfl).mono ?_
  rintro e w' ⟨rfl, q, hw'⟩
  rw [hw']
  clear hw'
  go_wp2_with (fail)
  go_ret
  exact ⟨rfl, by repeat (first | with_reducible exact Below.refl _ _ | with_reducible assumption | with_reducible refine below_drewN ?_ _ | with_reducible refine Below.drew ?_ | with_reducible refine Below.setCell ?_ (by first | omega | (simp <;> omega)) _ | with_reducible refine Below.alloc ?_ (by first | omega | (simp <;> omega)) _)⟩

theorem take_yes (pb pm hb : Nat) (V : Nat → Value) (F : Nat → List Int) (H : List Blk) (f : Int) (o : Nat) (w : World) (h : BudIn w pb pm hb V F H) (ho : o < 9) (hs : (F o).Pairwise (· < ·)) (hl : (F o).length ≤ 1000000) (hf : f ∈ F o) :
    Calls Try.prog 87 #[.pointer (some ⟨pb, 0, none⟩), .agg #[.int .i64 f, .int .i64 o]] w fun e w' => e = .returned (.bool true) ∧ BudPost w pb pm hb V (upd F o (delL (F o) f)) H w' := by
  obtain ⟨w1, hw1⟩ : ∃ w1, w1 = w.alloc (.cells #[.int .i64 f, .int .i64 o] 130) := ⟨_, rfl⟩
  have hb1 : Below w.heap.size w w1 := by rw [hw1]; repeat (first | with_reducible exact Below.refl _ _ | with_reducible assumption | with_reducible refine below_drewN ?_ _ | with_reducible refine Below.alloc ?_ (by simp <;> omega) _)
  have h1 := h.below hb1
  have d0 : w1.cell? ⟨w.heap.size, 0, none⟩ = some (.int .i64 f) := by rw [hw1]; simp [go_sem]
  have d1 : w1.cell? ⟨w.heap.size, 1, none⟩ = some (.int .i64 o) := by rw [hw1]; simp [go_sem]
  have hsz : w.heap.size < w1.heap.size := by rw [hw1]; simp
  obtain ⟨a, cap, hv⟩ := own_slice (h1.rows o ho)
  have gl := h1.cl o ho
  rw [hv] at gl
  have o0 : (0 : Int) ≤ (o : Int) := by omega
  have o9 : (o : Int) < 9 := by omega
  have hrow := h1.rows o ho
  rw [hv] at hrow
  have HV := Lib.hid hv
  have hown : ∀ k, (V o).ownBlock = some k → k < w.heap.size := fun k hk => h.slt k (Or.inr (Or.inr ⟨o, ho, hk⟩))
  have HO := Lib.hid hown
  have hnpb : w.heap.size ≠ pb := by have := h.lt; omega
  have hfz := h1.free (1 + o) (by omega)
  have hsr : (F o).Pairwise (· ≤ ·) := hs.imp (fun h => Int.le_of_lt h)
  obtain ⟨i, hi⟩ : ∃ i, (F o).countP (· < f) = i := ⟨_, rfl⟩
  have hil : i < (F o).length := by rw [← hi]; exact (at_count (F o) f hs hf).1
  have hadd : delL (F o) f = (F o).eraseIdx i := by unfold delL; rw [hi]
  have hil2 : (i : Int) + 1 ≤ 1000000 := by omega
  have hsea : ∀ w', w'.heap = w1.heap → Calls Try.prog 85 #[.slice a (F o).length cap, .int .i64 f] w' fun e w'' => e = .returned (.tuple #[.int .i64 i, .bool true]) ∧ ∃ q, w'' = w'.drewN q := fun w' hw => by
    have := search_any (.slice a (F o).length cap) (F o) f w' (own_heap' hrow (fun g _ => by rw [hw])) hsr hl
    rwa [hi, List.contains_iff_mem.2 hf] at this
  have HSEA := Lib.hid hsea
  have HADD := Lib.hid hadd
  have HROW := Lib.hid hrow
  clear hs hsr hi hadd hsea hrow hv hown hf
  have c1 : ∀ p : Wc (fun w' => w1.drew = w'), p.w.cell? ⟨w.heap.size, 1, none⟩ = some (.int .i64 o) := fun p => by rw [← p.h]; exact d1
  have c2 : ∀ p : Wc (fun w' => w1.drew = w'), p.w.cell? ⟨pb, 1 + o, none⟩ = some (.slice a (F o).length cap) := fun p => by rw [← p.h]; exact gl
  go_enter Try.func87, Try.ntmps87
  go_wp2_with (fail)
  rw [← hw1]
  clear hw1
  (refine region_class (fun w' => w1.drew = w') (by kernel_rfl) (by kernel_rfl) (rfl) ?_; intro _; (repeat (first | go_big_quiet_step (fail) | quiet_step (fail))); refine wpQuiet_nil ?_; intro wz hz)
  obtain rfl := hz
  clear c1 c2
  go_wp2_with (fail)
  refine (HSEA.out w1.drew rfl).mono ?_
  rintro e w' ⟨rfl, q, hw'⟩
  obtain ⟨w2, hw2⟩ : ∃ w2, w2 = w1.drew.drewN q := ⟨_, rfl⟩
  rw [hw', ← hw2]
  have hb2 : Below w1.heap.size w1 w2 := by rw [hw2]; repeat (first | with_reducible exact Below.refl _ _ | with_reducible assumption | with_reducible refine below_drewN ?_ _ | with_reducible refine Below.drew ?_ | with_reducible refine Below.setCell ?_ (by first | omega | (simp <;> omega)) _ | with_reducible refine Below.alloc ?_ (by first | omega | (simp <;> omega)) _)
  clear hw2 hw'
  have hbw2 : Below w.heap.size w w2 := hb1.trans (hb2.mono hb1.size)
  have hz2 := hb2.size
  have HSB : Hid (∀ w', Below w1.heap.size w1 w' → w'.cell? ⟨w.heap.size, 0, none⟩ = some (.int .i64 f) ∧ w'.cell? ⟨w.heap.size, 1, none⟩ = some (.int .i64 o)) := Lib.hid fun w' hb => ⟨keep hb hsz d0, keep hb hsz d1⟩
  have hfar : ∀ (w' : World) (u : Value) (j : Nat), (w'.setCell ⟨pb, 1 + o, none⟩ u).cell? ⟨w.heap.size, j, none⟩ = w'.cell? ⟨w.heap.size, j, none⟩ := fun w' u j => World.cell?_setCell_other w' ⟨pb, 1 + o, none⟩ ⟨w.heap.size, j, none⟩ u (fun e => by simp at e <;> first | exact hnpb e.1 | exact hnpb e.1.symm)
  have HFAR := Lib.hid hfar
  clear hfar d0 d1
  have fin : ∀ (w3 w4 : World) (a4 : Option Addr) (cap4 : Nat), Below w1.heap.size w1 w3 → RowI w4 0 (.slice a4 ((F o).eraseIdx i).length cap4) ((F o).eraseIdx i) → Touch (fun k => Value.ownBlock (.slice a (F o).length cap) = some k) w3 w4 →
      (∀ k, Value.ownBlock (.slice a4 ((F o).eraseIdx i).length cap4) = some k → Value.ownBlock (.slice a (F o).length cap) = some k ∨ w3.heap.size ≤ k) → BudPost w pb pm hb V (upd F o (delL (F o) f)) H (w4.setCell ⟨pb, 1 + o, none⟩ (.slice a4 ((F o).eraseIdx i).length cap4)) := fun w3 w4 a4 cap4 hb3 hr ht hn => by
    rw [HADD.out]
    rw [← HV.out] at ht hn
    exact h.list (hb1.trans (hb3.mono hb1.size)) ho hr ht hn
  have FIN := Lib.hid fin
  clear fin
  have hwi : IntKind.i64.wrap ((i : Int) + 1) = (i : Int) + 1 := IntWalk.i64_in _ ⟨by omega, by omega⟩
  go_wp2_with (fail)
  go_region_held3 (fun w' => w'.cell? ⟨w.heap.size, 0, none⟩ = some (.int .i64 f) ∧ w'.cell? ⟨w.heap.size, 1, none⟩ = some (.int .i64 o)) (first | (refine HSB.out _ ?_; (repeat (first | with_reducible exact Below.refl _ _ | with_reducible assumption | with_reducible refine below_drewN ?_ _ | with_reducible refine Below.drew ?_ | with_reducible refine Below.setCell ?_ (by first | omega | (simp <;> omega)) _ | with_reducible refine Below.alloc ?_ (by first | omega | (simp <;> omega)) _)); done) | exact ⟨d40, d41⟩ | exact ⟨(HFAR.out _ _ _).trans d40, (HFAR.out _ _ _).trans d41⟩)
    ((go_at_call 95
      refine (del_any (.slice a (F o).length cap) (F o) i _ (by exact own_heap' HROW.out (fun g hg => Below.block (B := w1.heap.size) (by repeat (first | with_reducible exact Below.refl _ _ | with_reducible assumption | with_reducible refine below_drewN ?_ _ | with_reducible refine Below.drew ?_ | with_reducible refine Below.setCell ?_ (by first | omega | (simp <;> omega)) _ | with_reducible refine Below.alloc ?_ (by first | omega | (simp <;> omega)) _)) g (World.ownsRow.lt HROW.out g hg).2)) hil hl).mono ?_
      rintro e w4 ⟨a4, cap4, rfl, hr4, ht4, hn4⟩
      have hz4 := ht4.size
      have hnb : ∀ k, k < w1.heap.size → Value.ownBlock (.slice a (F o).length cap) ≠ some k → w4.heap[k]? = w1.heap[k]? := fun k hk hne => (ht4.block k (by simp; omega) hne).trans ((Below.block (B := w1.heap.size) (by repeat (first | with_reducible exact Below.refl _ _ | with_reducible assumption | with_reducible refine below_drewN ?_ _ | with_reducible refine Below.drew ?_ | with_reducible refine Below.setCell ?_ (by first | omega | (simp <;> omega)) _ | with_reducible refine Below.alloc ?_ (by first | omega | (simp <;> omega)) _)) k hk))
      have hno : Value.ownBlock (.slice a (F o).length cap) ≠ some w.heap.size := fun e => by have := HO.out _ (by rw [HV.out]; exact e); omega
      have d40 := (cell_of_heap (hnb _ hsz hno) 0).trans (HSB.out _ (Below.refl _ _)).1
      have d41 := (cell_of_heap (hnb _ hsz hno) 1).trans (HSB.out _ (Below.refl _ _)).2
      have hnp : Value.ownBlock (.slice a (F o).length cap) ≠ some pb := by rw [← HV.out]; exact h1.nepb o ho
      have e4 := (cell_of_heap (hnb _ h1.lt hnp) (1 + o)).trans gl
      have f4 := (frozen_of_heap (hnb _ h1.lt hnp) (1 + o)).trans hfz))
  all_goals
    go_wp2_with (fail)
    go_ret
    exact ⟨rfl, FIN.out _ _ _ _ (by repeat (first | with_reducible exact Below.refl _ _ | with_reducible assumption | with_reducible refine below_drewN ?_ _ | with_reducible refine Below.drew ?_ | with_reducible refine Below.setCell ?_ (by first | omega | (simp <;> omega)) _ | with_reducible refine Below.alloc ?_ (by first | omega | (simp <;> omega)) _)) hr4 ht4 hn4⟩


end Go.Proofs.Yteehghjdifbjbaa

namespace Go.Proofs.Yteehghjdifbjbaa
set_option linter.unusedSimpArgs false
set_option linter.unusedVariables false
set_option maxRecDepth 100000
open Go.RowKit
set_option maxHeartbeats 4000000

/-- The lists hold just the blocks that are free. -/
def CanF (T : Nat → Prop) (F : Nat → List Int) : Prop := ∀ o, o < 9 → (F o).Pairwise (· < ·) ∧ ∀ f : Int, f ∈ F o ↔ ∃ a : Nat, f = ((a * 2 ^ o : Nat) : Int) ∧ QCan T a o
def Small (T : Nat → Prop) : Prop := ∀ x, T x → x < 256
theorem mul_lt {a b o : Nat} : ((a * 2 ^ o : Nat) : Int) = ((b * 2 ^ o : Nat) : Int) ↔ a = b := by
  constructor
  · intro h
    have : a * 2 ^ o = b * 2 ^ o := by omega
    exact Nat.eq_of_mul_eq_mul_right (Nat.two_pow_pos o) this
  · rintro rfl; rfl
theorem len_of_rise : ∀ (L : List Int) (lo hi : Int), L.Pairwise (· < ·) → (∀ x ∈ L, lo ≤ x ∧ x < hi) → lo ≤ hi → (L.length : Int) ≤ hi - lo
  | [], lo, hi, _, _, h => by simp; omega
  | x :: L, lo, hi, hp, hb, h => by
    obtain ⟨h1, h2⟩ := List.pairwise_cons.1 hp
    have hx := hb x (by simp)
    have ih := len_of_rise L (x + 1) hi h2 (fun y hy => ⟨by have := h1 y hy; omega, (hb y (by simp [hy])).2⟩) (by omega)
    simp only [List.length_cons]; push_cast; omega
theorem CanF.len {T : Nat → Prop} {F : Nat → List Int} (h : CanF T F) (hs : Small T) {o : Nat} (ho : o < 9) : (F o).length ≤ 256 := by
  have := len_of_rise (F o) 0 256 (h o ho).1 (fun f hf => by
    obtain ⟨a, rfl, hc⟩ := ((h o ho).2 f).1 hf
    have := hs _ (hc.1 _ (in_block a o))
    omega) (by omega)
  omega
theorem CanF.add {T : Nat → Prop} {F : Nat → List Int} (h : CanF T F) {a o : Nat} (ho : o ≤ 8) (hdis : ∀ x, x / 2 ^ o = a → ¬ T x) (hbud : o < 8 → ¬ QFull T (budQ a) o) :
    ((a * 2 ^ o : Nat) : Int) ∉ F o ∧ CanF (plusQ T a o) (upd F o (addL (F o) ((a * 2 ^ o : Nat) : Int))) := by
  have hnin : ((a * 2 ^ o : Nat) : Int) ∉ F o := fun hm => by
    obtain ⟨b, hb, hc⟩ := ((h o (by omega)).2 _).1 hm
    obtain rfl := mul_lt.1 hb
    exact hdis _ (in_block a o) (hc.1 _ (in_block a o))
  refine ⟨hnin, fun j hj => ?_⟩
  by_cases e : j = o
  · subst e
    rw [upd_same]
    refine ⟨rise_addL _ _ (h j hj).1 hnin, fun f => ?_⟩
    rw [mem_addL, (h j hj).2]
    constructor
    · rintro (rfl | ⟨b, rfl, hc⟩)
      · exact ⟨a, rfl, (can_plus ho hdis hbud a j (by omega)).2 (Or.inr ⟨rfl, rfl⟩)⟩
      · exact ⟨b, rfl, (can_plus ho hdis hbud b j (by omega)).2 (Or.inl hc)⟩
    · rintro ⟨b, rfl, hc⟩
      rcases (can_plus ho hdis hbud b j (by omega)).1 hc with hc | ⟨rfl, _⟩
      · exact Or.inr ⟨b, rfl, hc⟩
      · exact Or.inl rfl
  · rw [upd_other F _ e]
    refine ⟨(h j hj).1, fun f => ?_⟩
    rw [(h j hj).2]
    constructor
    · rintro ⟨b, rfl, hc⟩; exact ⟨b, rfl, (can_plus ho hdis hbud b j (by omega)).2 (Or.inl hc)⟩
    · rintro ⟨b, rfl, hc⟩
      rcases (can_plus ho hdis hbud b j (by omega)).1 hc with hc | ⟨_, e'⟩
      · exact ⟨b, rfl, hc⟩
      · exact absurd e' e
theorem CanF.del {T : Nat → Prop} {F : Nat → List Int} (h : CanF T F) {a o : Nat} (ho : o ≤ 8) (hc : QCan T a o) :
    ((a * 2 ^ o : Nat) : Int) ∈ F o ∧ CanF (minusQ T a o) (upd F o (delL (F o) ((a * 2 ^ o : Nat) : Int))) := by
  have hin : ((a * 2 ^ o : Nat) : Int) ∈ F o := ((h o (by omega)).2 _).2 ⟨a, rfl, hc⟩
  refine ⟨hin, fun j hj => ?_⟩
  by_cases e : j = o
  · subst e
    rw [upd_same]
    refine ⟨rise_delL _ _ (h j hj).1, fun f => ?_⟩
    rw [mem_delL _ _ _ (h j hj).1 hin, (h j hj).2]
    constructor
    · rintro ⟨hne, b, rfl, hb⟩
      exact ⟨b, rfl, (can_minus ho hc b j (by omega)).2 ⟨hb, fun e' => hne (by rw [e'.1])⟩⟩
    · rintro ⟨b, rfl, hb⟩
      obtain ⟨h1, h2⟩ := (can_minus ho hc b j (by omega)).1 hb
      exact ⟨fun e' => h2 ⟨mul_lt.1 e', rfl⟩, b, rfl, h1⟩
  · rw [upd_other F _ e]
    refine ⟨(h j hj).1, fun f => ?_⟩
    rw [(h j hj).2]
    constructor
    · rintro ⟨b, rfl, hb⟩; exact ⟨b, rfl, (can_minus ho hc b j (by omega)).2 ⟨hb, fun e' => e e'.2⟩⟩
    · rintro ⟨b, rfl, hb⟩; exact ⟨b, rfl, ((can_minus ho hc b j (by omega)).1 hb).1⟩

/-- A Buddy, told by its free frames and by what it has given. -/
def midP (pb pm : Nat) (T : Nat → Prop) (H : List Blk) : HP := exP fun x : Nat × (Nat → Value) × (Nat → List Int) => ownP (budS pb x.1 x.2.1) (fun w => BudIn w pb pm x.1 x.2.1 x.2.2 H ∧ CanF T x.2.2 ∧ Small T)
theorem loc_mid (pb pm hb : Nat) (V : Nat → Value) (F : Nat → List Int) (T : Nat → Prop) (H : List Blk) : Loc (budS pb hb V) (fun w => BudIn w pb pm hb V F H ∧ CanF T F ∧ Small T) := fun _ _ h e => ⟨h.1.heap e, h.2⟩
theorem Sat.mid {g w : World} {pb pm : Nat} {T : Nat → Prop} {H : List Blk} {R : HP} (h : Sat g w (midP pb pm T H * R)) :
    ∃ hb V F, BudIn w pb pm hb V F H ∧ CanF T F ∧ Small T ∧ ∀ w' F' H' T', BudPost w pb pm hb V F' H' w' → CanF T' F' → Small T' → Sat g w' (midP pb pm T' H' * R) := by
  obtain ⟨⟨hb, V, F⟩, h⟩ := h.ex
  have hi : BudIn w pb pm hb V F H ∧ CanF T F ∧ Small T := h.inv
  exact ⟨hb, V, F, hi.1, hi.2.1, hi.2.2, fun w' F' H' T' ⟨V', h1, h2, h3⟩ hc hs => Sat.ex' (hb, V', F') (h.touch h2 ⟨h1, hc, hs⟩ (loc_mid _ _ _ _ _ _ _) h3 h1.slt)⟩
theorem has_mid (pb pm : Nat) (T : Nat → Prop) (H : List Blk) : Has (midP pb pm T H) pb := has_ex fun _ => has_own (Or.inl rfl)
theorem small_plus {T : Nat → Prop} (h : Small T) {a o : Nat} (ha : (a + 1) * 2 ^ o ≤ 256) : Small (plusQ T a o) := fun x hx => by
  rcases hx with hx | hx
  · exact h x hx
  · have := Nat.lt_mul_of_div_lt (show x / 2 ^ o < a + 1 by omega) (Nat.two_pow_pos o)
    have h3 := Nat.mul_comm (2 ^ o) (a + 1)
    omega
theorem small_minus {T : Nat → Prop} (h : Small T) (a o : Nat) : Small (minusQ T a o) := fun x hx => h x hx.1

theorem s_bput (pb pm : Nat) (T : Nat → Prop) (H : List Blk) (a o : Nat) (f : Int) (g w : World) (R : HP) (h : Sat g w (midP pb pm T H * R)) (hf : f = ((a * 2 ^ o : Nat) : Int)) (ho : o ≤ 8) (ha : (a + 1) * 2 ^ o ≤ 256)
    (hdis : ∀ x, x / 2 ^ o = a → ¬ T x) (hbud : o < 8 → ¬ QFull T (budQ a) o) :
    Calls Try.prog 63 #[.pointer (some ⟨pb, 0, none⟩), .agg #[.int .i64 f, .int .i64 o]] w fun e w' => e = .returned (.tuple #[]) ∧ Sat g w' (midP pb pm (plusQ T a o) H * R) := by
  obtain ⟨hb, V, F, hi, hc, hs, back⟩ := h.mid
  subst hf
  obtain ⟨_, h2⟩ := hc.add ho hdis hbud
  exact (bput_any pb pm hb V F H _ o w hi (by omega) (hc o (by omega)).1 (by have := hc.len hs (o := o) (by omega); omega)).mono fun e w' ⟨he, hp⟩ => ⟨he, back _ _ _ _ hp h2 (small_plus hs ha)⟩
theorem s_btake (pb pm : Nat) (T : Nat → Prop) (H : List Blk) (a o : Nat) (f : Int) (g w : World) (R : HP) (h : Sat g w (midP pb pm T H * R)) (hf : f = ((a * 2 ^ o : Nat) : Int)) (ho : o ≤ 8) (hc : QCan T a o) :
    Calls Try.prog 87 #[.pointer (some ⟨pb, 0, none⟩), .agg #[.int .i64 f, .int .i64 o]] w fun e w' => e = .returned (.bool true) ∧ Sat g w' (midP pb pm (minusQ T a o) H * R) := by
  obtain ⟨hb, V, F, hi, hcan, hs, back⟩ := h.mid
  subst hf
  obtain ⟨h1, h2⟩ := hcan.del ho hc
  exact (take_yes pb pm hb V F H _ o w hi (by omega) (hcan o (by omega)).1 (by have := hcan.len hs (o := o) (by omega); omega) h1).mono fun e w' ⟨he, hp⟩ => ⟨he, back _ _ _ _ hp h2 (small_minus hs a o)⟩
theorem s_btake_no (pb pm : Nat) (T : Nat → Prop) (H : List Blk) (a o : Nat) (f : Int) (g w : World) (R : HP) (h : Sat g w (midP pb pm T H * R)) (hf : f = ((a * 2 ^ o : Nat) : Int)) (ho : o ≤ 8) (hc : ¬ QCan T a o) :
    Calls Try.prog 87 #[.pointer (some ⟨pb, 0, none⟩), .agg #[.int .i64 f, .int .i64 o]] w fun e w' => e = .returned (.bool false) ∧ Below w.heap.size w w' := by
  obtain ⟨hb, V, F, hi, hcan, hs, back⟩ := h.mid
  subst hf
  exact take_no pb pm hb V F H _ o w hi (by omega) (hcan o (by omega)).1 (by have := hcan.len hs (o := o) (by omega); omega) (fun hm => by
    obtain ⟨b, hb, hq⟩ := ((hcan o (by omega)).2 _).1 hm
    obtain rfl := mul_lt.1 hb
    exact hc hq)

end Go.Proofs.Yteehghjdifbjbaa

namespace Go.Proofs.Yteehghjdifbjbaa
set_option linter.unusedSimpArgs false
set_option linter.unusedVariables false
set_option maxRecDepth 100000

def rangeT (r p : Nat) : Nat → Prop := fun x => r ≤ x ∧ x < p
/-- A block that begins behind the reserved frames and goes beyond p is not within n. -/
def NewInv (n r p : Nat) : Prop := ∀ o c, o < 8 → r ≤ c * 2 ^ (o + 1) → c * 2 ^ (o + 1) < p → p < (c + 1) * 2 ^ (o + 1) → n < (c + 1) * 2 ^ (o + 1)
theorem newInv_start (n r : Nat) : NewInv n r r := fun o c _ h1 h2 _ => by omega
theorem pow_split {i j : Nat} (h : i ≤ j) : ∃ d, 2 ^ j = 2 ^ i * 2 ^ d ∧ 1 ≤ 2 ^ d := ⟨j - i, by rw [← Nat.pow_add]; congr 1; omega, Nat.one_le_two_pow⟩
theorem between {m c a : Nat} (h1 : c * m < a * m) (h2 : a * m < (c + 1) * m) : False := by
  have h3 := Nat.lt_of_mul_lt_mul_right h1
  have h4 := Nat.lt_of_mul_lt_mul_right h2
  omega
theorem newInv_step {n r a k : Nat} (hk : k ≤ 8) (h : NewInv n r (a * 2 ^ k)) (hmax : k < 8 → (a * 2 ^ k) % (2 * 2 ^ k) = 0 → n < a * 2 ^ k + 2 * 2 ^ k) : NewInv n r ((a + 1) * 2 ^ k) := by
  intro o c ho h1 h2 h3
  have hs : (a + 1) * 2 ^ k = a * 2 ^ k + 2 ^ k := by rw [Nat.add_mul]; omega
  have hc : (c + 1) * 2 ^ (o + 1) = c * 2 ^ (o + 1) + 2 ^ (o + 1) := by rw [Nat.add_mul]; omega
  have hk0 := Nat.two_pow_pos k
  have ho0 := Nat.two_pow_pos (o + 1)
  rcases Nat.lt_trichotomy (c * 2 ^ (o + 1)) (a * 2 ^ k) with hlt | heq | hgt
  · exact h o c ho h1 hlt (by omega)
  · have hko : k ≤ o := by
      refine Nat.le_of_not_lt fun hk' => ?_
      obtain ⟨d, hd, hd1⟩ := pow_split (show o + 1 ≤ k by omega)
      have : 2 ^ (o + 1) ≤ 2 ^ k := by rw [hd]; exact Nat.le_mul_of_pos_right _ (by omega)
      omega
    obtain ⟨d, hd, hd1⟩ := pow_split (show k + 1 ≤ o + 1 by omega)
    have hp : 2 ^ (k + 1) = 2 * 2 ^ k := by rw [Nat.pow_succ]; omega
    have hz : (a * 2 ^ k) % (2 * 2 ^ k) = 0 := by
      rw [← heq, hd, hp, ← Nat.mul_assoc, Nat.mul_comm c, Nat.mul_assoc, Nat.mul_mod_right]
    have h5 := hmax (by omega) hz
    have h6 : 2 ^ (k + 1) ≤ 2 ^ (o + 1) := by rw [hd]; exact Nat.le_mul_of_pos_right _ (by omega)
    omega
  · exfalso
    by_cases hko : o + 1 ≤ k
    · obtain ⟨d, hd, hd1⟩ := pow_split hko
      have he : (a + 1) * 2 ^ k = ((a + 1) * 2 ^ d) * 2 ^ (o + 1) := by rw [hd, Nat.mul_assoc, Nat.mul_comm (2 ^ d)]
      rw [he] at h2 h3
      exact between h2 h3
    · obtain ⟨d, hd, hd1⟩ := pow_split (show k ≤ o + 1 by omega)
      have he : c * 2 ^ (o + 1) = (c * 2 ^ d) * 2 ^ k := by rw [hd, Nat.mul_assoc, Nat.mul_comm (2 ^ d)]
      rw [he] at h2 hgt
      exact between hgt h2
theorem new_bud {n r a k : Nat} (h : NewInv n r (a * 2 ^ k)) (hn : (a + 1) * 2 ^ k ≤ n) : k < 8 → ¬ QFull (rangeT r (a * 2 ^ k)) (budQ a) k := by
  intro hk hf
  have h1 := hf _ (in_block (budQ a) k)
  unfold rangeT at h1
  by_cases he : a % 2 = 0
  · have : budQ a = a + 1 := by unfold budQ; rw [if_pos he]
    rw [this] at h1
    have : a * 2 ^ k ≤ (a + 1) * 2 ^ k := Nat.mul_le_mul_right _ (by omega)
    omega
  · have hb : budQ a = a - 1 := by unfold budQ; rw [if_neg he]
    rw [hb] at h1
    obtain ⟨c, hc⟩ : ∃ c, a = 2 * c + 1 := ⟨a / 2, by omega⟩
    subst hc
    have e1 : (2 * c + 1 - 1) * 2 ^ k = c * 2 ^ (k + 1) := by rw [Nat.pow_succ, Nat.add_sub_cancel, Nat.mul_comm 2 c, Nat.mul_assoc, Nat.mul_comm 2]
    have e2 : (2 * c + 1 + 1) * 2 ^ k = (c + 1) * 2 ^ (k + 1) := by rw [Nat.pow_succ, show 2 * c + 1 + 1 = 2 * (c + 1) by omega, Nat.mul_comm 2 (c + 1), Nat.mul_assoc, Nat.mul_comm 2]
    rw [e1] at h1
    have h3 : (2 * c + 1) * 2 ^ k < (2 * c + 1 + 1) * 2 ^ k := Nat.mul_lt_mul_of_pos_right (by omega) (Nat.two_pow_pos k)
    have := h k c hk h1.1 h1.2 (by rw [← e2]; exact h3)
    omega
theorem range_plus {r a k : Nat} (h : r ≤ a * 2 ^ k) : plusQ (rangeT r (a * 2 ^ k)) a k = rangeT r ((a + 1) * 2 ^ k) := by
  funext x
  apply propext
  unfold plusQ rangeT
  have hk0 := Nat.two_pow_pos k
  have hs : (a + 1) * 2 ^ k = a * 2 ^ k + 2 ^ k := by rw [Nat.add_mul]; omega
  constructor
  · rintro (h1 | h1)
    · omega
    · have h2 := Nat.div_mul_le_self x (2 ^ k)
      have h3 := Nat.lt_mul_of_div_lt (show x / 2 ^ k < a + 1 by omega) hk0
      rw [h1] at h2
      have h4 := Nat.mul_comm (2 ^ k) (a + 1)
      omega
  · rintro ⟨h1, h2⟩
    by_cases e : x < a * 2 ^ k
    · exact Or.inl ⟨h1, e⟩
    · right
      refine Nat.div_eq_of_lt_le (by omega) h2
theorem range_dis {r a k : Nat} : ∀ x, x / 2 ^ k = a → ¬ rangeT r (a * 2 ^ k) x := fun x hx h => by
  have h2 := Nat.div_mul_le_self x (2 ^ k)
  rw [hx] at h2
  have := h.2
  omega

end Go.Proofs.Yteehghjdifbjbaa
