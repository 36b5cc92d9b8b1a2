/- Words that stand in a block: as a part of a world, as what a call reads. -/
import Derived.Test.YtffacjbnjcolgaaStar
import Derived.Test.YtffacjbnjcolgaaApp
import Derived.Laws.CopyOwn
import Derived.Laws.MakeOwn
namespace Go.Proofs.Ytffacjbnjcolgaa
set_option linter.unusedSimpArgs false
set_option linter.unusedVariables false
set_option maxRecDepth 100000
open Go.RowKit
set_option maxHeartbeats 1000000

theorem heap_ltW {w w' : World} {k : Nat} (e : w'.heap[k]? = w.heap[k]?) (h : k < w.heap.size) : k < w'.heap.size := by
  rcases Nat.lt_or_ge k w'.heap.size with h' | h'
  · exact h'
  · rw [Array.getElem?_eq_none h', Array.getElem?_eq_getElem h] at e; cases e
def uC (L : List Int) : List Value := L.map (Value.int .u64)
theorem uC_len (L : List Int) : (uC L).length = L.length := by simp [uC]
theorem uC_at (L : List Int) (j : Nat) (h : j < L.length) : (uC L)[j]? = some (.int .u64 L[j]) := by simp [uC, h]
theorem uC_one (L : List Int) : ∀ v ∈ uC L, v.oneCell' = true := fun v hv => by
  unfold uC at hv
  obtain ⟨x, _, rfl⟩ := List.mem_map.1 hv
  rfl
/-- Words at a slice's value. -/
structure WAt (w : World) (v : Value) (L : List Int) : Prop where
  is : (v = .slice none 0 0 ∧ L = []) ∨ ∃ b cap, v = .slice (some ⟨b, 0, none⟩) L.length cap ∧ b < w.heap.size ∧ ∀ j (_ : j < L.length), w.cell? ⟨b, j, none⟩ = some (.int .u64 L[j])
theorem WAt.heap {w w' : World} {v : Value} {L : List Int} (h : WAt w v L) (e : ∀ k, v.ownBlock = some k → w'.heap[k]? = w.heap[k]?) : WAt w' v L := by
  rcases h.is with h1 | ⟨b, cap, rfl, hb, hc⟩
  · exact ⟨Or.inl h1⟩
  · exact ⟨Or.inr ⟨b, cap, rfl, heap_ltW (e b rfl) hb, fun j hj => (cell_of_heap (e b rfl) _).trans (hc j hj)⟩⟩
theorem WAt.slt {w : World} {v : Value} {L : List Int} (h : WAt w v L) : ∀ k, v.ownBlock = some k → k < w.heap.size := fun k hk => by
  rcases h.is with ⟨rfl, _⟩ | ⟨b, cap, rfl, hb, hc⟩
  · cases hk
  · cases hk; exact hb
theorem WAt.below {w w' : World} {v : Value} {L : List Int} (h : WAt w v L) (b : Below w.heap.size w w') : WAt w' v L := h.heap fun k hk => b.block k (h.slt k hk)
theorem WAt.src {w : World} {v : Value} {L : List Int} (h : WAt w v L) : Src w 1 v L.length (uC L) := by
  refine ⟨by rw [uC_len, Nat.mul_one], ?_⟩
  rcases h.is with ⟨rfl, rfl⟩ | ⟨b, cap, rfl, hb, hc⟩
  · exact Or.inl ⟨rfl, rfl⟩
  · refine Or.inr ⟨b, 0, cap, rfl, fun j u hj => ?_, fun _ => hb⟩
    have hl : j < L.length := by have := (List.getElem?_eq_some_iff.1 hj).1; rwa [uC_len] at this
    rw [uC_at L j hl] at hj
    cases hj
    rw [Nat.zero_add]; exact hc j hl
def wordsP (v : Value) (L : List Int) : HP := ownP (fun k => v.ownBlock = some k) (fun w => WAt w v L)
theorem loc_words (v : Value) (L : List Int) : Loc (fun k => v.ownBlock = some k) (fun w => WAt w v L) := fun _ _ h e => h.heap e
theorem Sat.words {g w : World} {v : Value} {L : List Int} {R : HP} (h : Sat g w (wordsP v L * R)) : WAt w v L := Sat.inv h
theorem Sat.words_new {g w w' : World} {v : Value} {L : List Int} {R : HP} (h : Sat g w R) (b : Below w.heap.size w w') (hw : WAt w' v L) (hn : ∀ k, v.ownBlock = some k → w.heap.size ≤ k) : Sat g w' (wordsP v L * R) :=
  h.new b hw (loc_words v L) hn hw.slt
/-- A slice's value, of what is read. -/
theorem Src.slice {w : World} {size n : Nat} {v : Value} {xs : List Value} (h : Src w size v n xs) : ∃ a c, v = .slice a n c := by
  rcases h.2 with ⟨rfl, rfl⟩ | ⟨b, o, c, rfl, _⟩
  · exact ⟨none, 0, rfl⟩
  · exact ⟨_, c, rfl⟩

/-- Words that a call reads: at an address, or none. -/
def SrcN (w : World) (v : Value) (L : List Int) : Prop := (L = [] ∧ ∃ a c, v = .slice a 0 c) ∨ Src w 1 v L.length (uC L)
theorem SrcN.slice {w : World} {v : Value} {L : List Int} (h : SrcN w v L) : ∃ a c, v = .slice a L.length c := by
  rcases h with ⟨rfl, a, c, rfl⟩ | h
  · exact ⟨a, c, rfl⟩
  · exact Src.slice h
theorem SrcN.below {w w' : World} {v : Value} {L : List Int} (h : SrcN w v L) (hb : Below w.heap.size w w') : SrcN w' v L := h.elim Or.inl fun h => Or.inr (Src.below h hb)
theorem SrcN.src {w : World} {v : Value} {L : List Int} (h : SrcN w v L) (hl : 1 ≤ L.length) : Src w 1 v L.length (uC L) := by
  rcases h with ⟨rfl, _⟩ | h
  · simp at hl
  · exact h

/-- copy onto a row that is known whole: that row alone is touched. -/
theorem list_copy_t {P : Program} {w : World} {ops : Array Oper} {rest : List Oper} {o : Oper} {a : Act} {Q : Exit → Act → World → Prop} (hgd : o.guard = none) (d s : Operand) (dT sT : TypeId)
    (ho : o.op = .call { callee := .builtin .copy, args := #[d, s], argTypes := #[dT, sT] }) (elem : TypeId) (hu : P.underlying dT = some (.slice elem)) (hsz : (P.info? elem).map (·.size) = some 1)
    (g off dLen dCap : Nat) (sp : Option Addr) (sLen sCap : Nat) (hd : a.eval d = .slice (some ⟨g, off, none⟩) dLen dCap) (hs : a.eval s = .slice sp sLen sCap)
    (cur : List Value) (t : TypeId) (hg : w.heap[g]? = some (.cells cur.toArray t (0, 0))) (cs : List Value) (hn : cs.length = Nat.min sLen dLen)
    (hpos : 0 < cs.length → ∃ ad, sp = some ad ∧ ∀ j v, cs[j]? = some v → w.cell? (ad.add j) = some v)
    (hfit : off + cs.length ≤ cur.length) (h1 : ∀ v ∈ cs, v.oneCell' = true)
    (h : ∀ w', Hid (w'.heap[g]? = some (.cells (splice cur off cs).toArray t (0, 0))) → Touch (· = g) w w' → wpList P ops Q rest (a.put o.dst (goInt cs.length)) w') :
    wpList P ops Q (o :: rest) a w := by
  by_cases h0 : cs.length = 0
  · obtain rfl : cs = [] := List.eq_nil_of_length_eq_zero h0
    refine wpList_copy_nothing hgd d s dT sT ho elem hu hsz _ sp dLen dCap sLen sCap hd hs (by simpa using hn.symm) ?_
    exact h w (show _ = _ by simpa [splice] using hg) (Touch.refl _ _)
  · obtain ⟨ad, rfl, hsrc⟩ := hpos (by omega)
    refine wpList_copy_own hgd d s dT sT ho elem hu hsz g off dLen dCap ad sLen sCap hd hs cur.toArray t hg cs hn hsrc (by simpa using hfit) h1 ?_
    exact h _ (show _ = _ by simpa [splice] using setRow_heap w g _ _ t _ hg) ⟨rfl, rfl, rfl, by simp [World.setRow], fun k _ hk => setRow_other w g k _ hk⟩
theorem addr_add (b o j : Nat) : (⟨b, o, none⟩ : Addr).add j = ⟨b, o + j, none⟩ := by unfold Addr.add; split <;> simp_all

theorem Touch.then_new {S T : Nat → Prop} {a b c : World} (h : Touch S a b) (k : Touch T b c) (hT : ∀ j, T j → S j ∨ a.heap.size ≤ j) : Touch S a c :=
  ⟨k.os.trans h.os, k.tape.trans h.tape, k.output.trans h.output, Nat.le_trans h.size k.size, fun j hj hs => by
    rw [k.block j (Nat.lt_of_lt_of_le hj h.size) (fun ht => (hT j ht).elim hs (fun e => by omega))]
    exact h.block j hj hs⟩

theorem copy_run {P : Program} {w : World} (dT sT ty elem : TypeId) (hu : P.underlying dT = some (.slice elem)) (hsz : (P.info? elem).map (·.size) = some 1) (g n dCap : Nat) (ad : Addr) (sCap : Nat)
    (cur : List Value) (t : TypeId) (hg : w.heap[g]? = some (.cells cur.toArray t (0, 0))) (cs : List Value) (hn : cs.length = n) (hsrc : ∀ j v, cs[j]? = some v → w.cell? (ad.add j) = some v) (hfit : cs.length ≤ cur.length) (h1 : ∀ v ∈ cs, v.oneCell' = true) :
    ∃ w', (Builtin.copy_ #[dT, sT] ty #[.slice (some ⟨g, 0, none⟩) n dCap, .slice (some ad) n sCap]).run P w = .ok (.int .i64 n) w' ∧ Hid (w'.heap[g]? = some (.cells (splice cur 0 cs).toArray t (0, 0))) ∧ Touch (· = g) w w' := by
  have hrun := run_copy_row (P := P) w dT sT ty elem g 0 n dCap ad n sCap cur.toArray t cs hu hsz hg (by rw [hn]; exact (Nat.min_self n).symm) hsrc (by simpa using hfit) h1
  have hi : goInt cs.length = .int .i64 n := by rw [hn]; rfl
  rw [hi] at hrun
  exact ⟨_, hrun, (show _ = _ by simpa [splice] using setRow_heap w g _ _ t _ hg), ⟨rfl, rfl, rfl, by simp [World.setRow], fun k _ hk => setRow_other w g k _ hk⟩⟩

end Go.Proofs.Ytffacjbnjcolgaa
