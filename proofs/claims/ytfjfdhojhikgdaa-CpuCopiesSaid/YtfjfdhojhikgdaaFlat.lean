/- Flat words, as the laws of layer 13 have them: what their methods return and write, by walks over their text. -/
import Derived.Test.YtfjfdhojhikgdaaBase
import Derived.Maps.AppendAt
namespace Go.Proofs.Ytfjfdhojhikgdaa
set_option linter.unusedSimpArgs false
set_option linter.unusedVariables false
open Go.RowKit
set_option maxHeartbeats 2000000

theorem own_touch' {w w' : World} {base e size n : Nat} {v : Value} {xs : List Value} (h : w.ownsRow base e size v n xs) {S : Nat → Prop} (t : Touch S w w') (hs : ∀ g, v.ownBlock = some g → ¬ S g) : w'.ownsRow base e size v n xs := by
  obtain ⟨h1, h2⟩ := h
  refine ⟨h1, ?_⟩
  rcases h2 with h2 | ⟨g, cap, cur, hv, hg, hh, r⟩
  · exact Or.inl h2
  · refine Or.inr ⟨g, cap, cur, hv, hg, ?_, r⟩
    rw [t.block g (by rcases Nat.lt_or_ge g w.heap.size with h | h; exact h; rw [Array.getElem?_eq_none h] at hh; cases hh) (hs g (by rw [hv]; rfl))]
    exact hh
theorem Touch.trans' {S T : Nat → Prop} {a b c : World} (h : Touch S a b) (k : Touch T b c) (hs : ∀ j, j < a.heap.size → T j → S j) : Touch S a c :=
  ⟨k.os.trans h.os, k.tape.trans h.tape, k.output.trans h.output, Nat.le_trans h.size k.size, fun i hi hn => (k.block i (Nat.lt_of_lt_of_le hi h.size) (fun ht => hn (hs i hi ht))).trans (h.block i hi hn)⟩
/-- A block that is the one that was, or a new one. -/
def NewB (w : World) (lb lb' : Option Nat) : Prop := lb' = lb ∨ ∃ g, lb' = some g ∧ w.heap.size ≤ g
theorem NewB.refl (w : World) (lb : Option Nat) : NewB w lb lb := Or.inl rfl
theorem NewB.trans {w w1 : World} {a b c : Option Nat} (h : NewB w a b) (k : NewB w1 b c) (hs : w.heap.size ≤ w1.heap.size) : NewB w a c := by
  rcases k with k | ⟨g, k, kg⟩
  · rw [k]; exact h
  · exact Or.inr ⟨g, k, by omega⟩
theorem NewB.mono {w w1 : World} {a b : Option Nat} (h : NewB w1 a b) (hs : w.heap.size ≤ w1.heap.size) : NewB w a b := by
  rcases h with h | ⟨g, k, kg⟩
  · exact Or.inl h
  · exact Or.inr ⟨g, k, by omega⟩

/-- Words in a block. -/
structure WordsIn (w : World) (bk n : Nat) (W : Nat → Int) : Prop where
  cell : ∀ i, i < n → w.cell? ⟨bk, i, none⟩ = some (.int .u64 (W i))
  free : ∀ i, i < n → w.frozen? ⟨bk, i, none⟩ = false
  rng : ∀ i, 0 ≤ W i ∧ W i < 18446744073709551616
  lt : bk < w.heap.size
theorem WordsIn.touch {w w' : World} {bk n : Nat} {W : Nat → Int} (h : WordsIn w bk n W) {S : Nat → Prop} (t : Touch S w w') (hs : ¬ S bk) : WordsIn w' bk n W :=
  ⟨fun j hj => by rw [cell_of_heap (t.block bk h.lt hs)]; exact h.cell j hj, fun j hj => by rw [frozen_of_heap (t.block bk h.lt hs)]; exact h.free j hj, h.rng, Nat.lt_of_lt_of_le h.lt t.size⟩
def setF (W : Nat → Int) (a : Nat) (x : Int) : Nat → Int := fun i => if i = a then x else W i
theorem WordsIn.set {w : World} {bk n : Nat} {W : Nat → Int} (h : WordsIn w bk n W) (k : Nat) (hk : k < n) (x : Int) (hx : 0 ≤ x ∧ x < 18446744073709551616) : WordsIn (w.setCell ⟨bk, k, none⟩ (.int .u64 x)) bk n (setF W k x) := by
  have h0 : RowF w bk n (fun i => .int .u64 (W i)) := ⟨h.cell, h.free, h.lt⟩
  have h1 := h0.set k hk (.int .u64 x)
  refine ⟨fun i hi => ?_, h1.free, fun i => ?_, h1.lt⟩
  · rw [h1.cell i hi]; unfold setF; split <;> rfl
  · unfold setF; split
    · exact hx
    · exact h.rng i

/-- The law's flat words: a struct at pf, words in bk, the addresses that were loaded in a block from base on. -/
structure FlatIn (w : World) (pf bk base n cap : Nat) (W : Nat → Int) (first : Int) (Ls : List Int) (lb : Option Nat) : Prop where
  ptr : w.cell? ⟨pf, 0, none⟩ = some (.slice (some ⟨bk, 0, none⟩) n cap)
  fst : w.cell? ⟨pf, 1, none⟩ = some (.int .i64 first)
  los : ∃ v, w.cell? ⟨pf, 2, none⟩ = some v ∧ w.ownsRow base 3 1 v Ls.length (Ls.map (Value.int .i64)) ∧ v.ownBlock = lb
  free : w.frozen? ⟨pf, 2, none⟩ = false
  words : WordsIn w bk n W
  pf_lt : pf < base
  bk_lt : bk < base
  ne : pf ≠ bk
  hb : base ≤ w.heap.size
  hn : n ≤ 1000

theorem FlatIn.touch {w w' : World} {pf bk base n cap : Nat} {W : Nat → Int} {first : Int} {Ls : List Int} {lb : Option Nat} (h : FlatIn w pf bk base n cap W first Ls lb) {S : Nat → Prop} (t : Touch S w w') (h1 : ¬ S pf) (h2 : ¬ S bk) (h3 : ∀ g, lb = some g → ¬ S g) : FlatIn w' pf bk base n cap W first Ls lb := by
  have hp := h.pf_lt; have hb := h.hb
  refine ⟨keepT t (by omega) h1 h.ptr, keepT t (by omega) h1 h.fst, ?_, ?_, h.words.touch t h2, h.pf_lt, h.bk_lt, h.ne, Nat.le_trans h.hb t.size, h.hn⟩
  · obtain ⟨v, hv, ho, hl⟩ := h.los
    exact ⟨v, keepT t (by omega) h1 hv, own_touch' ho t (fun g hg => h3 g (by rw [← hl]; exact hg)), hl⟩
  · rw [frozen_of_heap (t.block pf (by omega) h1)]; exact h.free
theorem FlatIn.below {w w' : World} {pf bk base n cap : Nat} {W : Nat → Int} {first : Int} {Ls : List Int} {lb : Option Nat} (h : FlatIn w pf bk base n cap W first Ls lb) (t : Below w.heap.size w w') : FlatIn w' pf bk base n cap W first Ls lb :=
  h.touch (S := fun _ => False) (Touch.of_below t) id id (fun _ _ => id)

/-- What a flat's methods touch. -/
def TF (pf bk : Nat) (lb : Option Nat) : Nat → Prop := fun b => b = pf ∨ b = bk ∨ lb = some b

/-- Loading. -/
def ldW (n : Nat) (W : Nat → Int) (a : Int) : Int := if 0 ≤ a ∧ a < n then W a.toNat else 0
def ldE (n : Nat) (a : Int) : Int := if 0 ≤ a ∧ a < n then 0 else 10

theorem info_int : (Try.prog.info? 3).map (fun i => (i.zero, i.size, i.bytes)) = some (some (.int .i64 0), 1, 8) := by kernel_rfl

theorem flat_load (pf bk base n cap : Nat) (W : Nat → Int) (first : Int) (Ls : List Int) (lb : Option Nat) (a : Int) (w : World) (hf : FlatIn w pf bk base n cap W first Ls lb) (hl : Ls.length < 1000000) (X E : Int) (hX : ldW n W a = X) (hE : ldE n a = E) :
    Calls Try.prog 62 #[.pointer (some ⟨pf, 0, none⟩), .int .i64 a] w fun e w' => e = .returned (.tuple #[.int .u64 X, .int .i64 E]) ∧ (∃ lb', FlatIn w' pf bk base n cap W first (Ls ++ [a]) lb' ∧ NewB w lb lb') ∧ Touch (TF pf bk lb) w w' := by
  obtain ⟨i0, hi, hz0, hz1, hz2⟩ := info_parts info_int
  obtain ⟨v, hv, hown, hlb⟩ := hf.los
  obtain ⟨A0, c0, rfl⟩ : ∃ a c, v = .slice a Ls.length c := own_slice hown
  have HLB := Lib.hid hlb
  clear hlb
  have hfr := hf.free
  have hpf := hf.pf_lt; have hbk := hf.bk_lt; have hb := hf.hb; have hne := hf.ne; have hn := hf.hn
  have hw := hf.words
  have HX := Lib.hid hX; have HE := Lib.hid hE; have HL := Lib.hid hl
  clear hX hE hl
  go_enter Try.func62, Try.ntmps62
  go_wp2_with (at_builtin; refine wpList_append_own_at _ rfl _ _ 39 rfl base 3 i0 (.int .i64 0) 1 8 Try.underlying39 hi hz0 hz1 hz2 rfl (by decide) (.slice A0 Ls.length c0) Ls.length (Ls.map (Value.int .i64)) rfl (hown.alloc _) ⟨w.heap.size, 0, none⟩ 1 1 [.int .i64 a] rfl rfl (one_new _ _ _) (fun x hx => by simp at hx; subst hx; rfl) (by unfold maxLen; have := HL.out; omega) (by have := HL.out; omega) (by simp; omega) ?_; refine fun v' w1 hown1 hgrow1 hnil1 hob1 => Hold.out ?_)
  refine ⟨?_⟩
  obtain ⟨A1, c1, rfl⟩ := own_slice hown1
  have ht1 : Touch (TF pf bk lb) w w1 := Touch.grown ((Touch.refl _ _).alloc _) hgrow1 (fun k hk => Or.inl (Or.inr (Or.inr (by rw [← HLB.out]; exact hk))))
  have hlb1 : ∃ lb', (Value.slice A1 (Ls.length + 1) c1).ownBlock = lb' ∧ NewB w lb lb' := by
    rcases hob1 with h | h
    · exact ⟨lb, by rw [h]; exact HLB.out, Or.inl rfl⟩
    · exact ⟨_, h, Or.inr ⟨_, rfl, by simp⟩⟩
  obtain ⟨lb', hlb', hnb⟩ := hlb1
  have hg : ∀ b, b < base → w1.heap[b]? = w.heap[b]? := fun b hb' => by
    rw [hgrow1.block b (by simp; omega) (fun e => by have := (hown.lt b e.symm).1; omega)]
    exact Below.heap_alloc _ _ _ (by omega)
  have hT : Touch (fun b => base ≤ b) w w1 := ⟨ht1.os, ht1.tape, ht1.output, ht1.size, fun k hk hs => hg k (by omega)⟩
  have q0 : w1.cell? ⟨pf, 0, none⟩ = some (.slice (some ⟨bk, 0, none⟩) n cap) := keepT hT (by omega) (by omega) hf.ptr
  have q1 : w1.cell? ⟨pf, 1, none⟩ = some (.int .i64 first) := keepT hT (by omega) (by omega) hf.fst
  have q2 : w1.cell? ⟨pf, 2, none⟩ = some (.slice A0 Ls.length c0) := keepT hT (by omega) (by omega) hv
  have f2 : w1.frozen? ⟨pf, 2, none⟩ = false := by rw [frozen_of_heap (hT.block pf (by omega) (by omega))]; exact hfr
  have hw1 := hw.touch hT (by omega)
  have hs1 := ht1.size
  have hfin : FlatIn (w1.setCell ⟨pf, 2, none⟩ (.slice A1 (Ls.length + 1) c1)) pf bk base n cap W first (Ls ++ [a]) lb' := by
    have hT2 : Touch (· = pf) w1 (w1.setCell ⟨pf, 2, none⟩ (.slice A1 (Ls.length + 1) c1)) := Touch.setCell (S := (· = pf)) (Touch.refl _ _) (Or.inl rfl) _
    refine ⟨?_, ?_, ⟨.slice A1 (Ls.length + 1) c1, ?_, ?_, hlb'⟩, ?_, hw1.touch hT2 (fun e => hne e.symm), hpf, hbk, hne, by simp; omega, hn⟩
    · simp [go_sem, q0]
    · simp [go_sem, q1]
    · simp [go_sem, q2]
    · have := own_touch hown1 hT2 (fun g hg e => by omega)
      simpa using this
    · simpa [go_sem] using f2
  have htf : Touch (TF pf bk lb) w (w1.setCell ⟨pf, 2, none⟩ (.slice A1 (Ls.length + 1) c1)) := ht1.setCell (Or.inl (Or.inl rfl)) _
  have HF : Hid (∃ lb', FlatIn (w1.setCell ⟨pf, 2, none⟩ (.slice A1 (Ls.length + 1) c1)) pf bk base n cap W first (Ls ++ [a]) lb' ∧ NewB w lb lb') := Lib.hid ⟨lb', hfin, hnb⟩
  have HT := Lib.hid htf
  clear hfin htf hown1 hgrow1 hnil1 hT ht1 hg hown hob1 hlb' hnb
  by_cases ha : 0 ≤ a ∧ a < n
  · obtain ⟨a0, a1⟩ := ha
    have c := hw1.cell a.toNat (by omega)
    have hX : Hid (W a.toNat = X) := by show _ = _; rw [← HX.out]; unfold ldW; rw [if_pos ⟨a0, a1⟩]
    have hE : Hid ((0 : Int) = E) := by show _ = _; rw [← HE.out]; unfold ldE; rw [if_pos ⟨a0, a1⟩]
    go_wp2_with (fail)
    go_ret2
    exact ⟨by rw [← hX.out, ← hE.out]; rfl, HF.out, HT.out⟩
  · have hX : Hid ((0 : Int) = X) := by show _ = _; rw [← HX.out]; unfold ldW; rw [if_neg ha]
    have hE : Hid ((10 : Int) = E) := by show _ = _; rw [← HE.out]; unfold ldE; rw [if_neg ha]
    have hh : a < 0 ∨ (¬ a < 0 ∧ n ≤ a) := by omega
    clear ha
    rcases hh with h | ⟨h, h'⟩
    all_goals
      go_wp2_with (fail)
      go_ret2
      exact ⟨by rw [← hX.out, ← hE.out]; rfl, HF.out, HT.out⟩

/-- Storing. -/
def stE (n : Nat) (first a : Int) : Int := if ¬ (0 ≤ a ∧ a < n) then 10 else if a < first then 9 else 0
def stW (n : Nat) (first : Int) (W : Nat → Int) (a x : Int) : Nat → Int := if stE n first a = 0 then setF W a.toNat x else W

theorem flat_store (pf bk base n cap : Nat) (W : Nat → Int) (first : Int) (Ls : List Int) (lb : Option Nat) (a x : Int) (w : World) (hf : FlatIn w pf bk base n cap W first Ls lb) (hx : 0 ≤ x ∧ x < 18446744073709551616) (E : Int) (hE : stE n first a = E) :
    Calls Try.prog 63 #[.pointer (some ⟨pf, 0, none⟩), .int .i64 a, .int .u64 x] w fun e w' => e = .returned (.int .i64 E) ∧ FlatIn w' pf bk base n cap (stW n first W a x) first Ls lb ∧ Touch (TF pf bk lb) w w' := by
  have q0 := hf.ptr
  have q1 := hf.fst
  have hn := hf.hn
  have HE := Lib.hid hE
  clear hE
  by_cases ha : 0 ≤ a ∧ a < n
  · obtain ⟨a0, a1⟩ := ha
    by_cases h1 : a < first
    · have hE : Hid ((9 : Int) = E) := by show _ = _; rw [← HE.out]; unfold stE; rw [if_neg (by omega), if_pos h1]
      have hW : Hid (stW n first W a x = W) := by show _ = _; unfold stW; rw [if_neg]; rw [HE.out, ← hE.out]; omega
      go_enter Try.func63, Try.ntmps63
      go_wp2_with (fail)
      go_ret
      exact ⟨by rw [← hE.out]; rfl, by rw [hW.out]; exact hf, Touch.refl _ _⟩
    · have hE : Hid ((0 : Int) = E) := by show _ = _; rw [← HE.out]; unfold stE; rw [if_neg (by omega), if_neg h1]
      have hW : Hid (stW n first W a x = setF W a.toNat x) := by show _ = _; unfold stW; rw [if_pos]; rw [HE.out, ← hE.out]
      have c := hf.words.cell a.toNat (by omega)
      have fr := hf.words.free a.toNat (by omega)
      have ht : Touch (· = bk) w (w.setCell ⟨bk, a.toNat, none⟩ (.int .u64 x)) := Touch.setCell (S := (· = bk)) (Touch.refl _ _) (Or.inl rfl) _
      have hfin : FlatIn (w.setCell ⟨bk, a.toNat, none⟩ (.int .u64 x)) pf bk base n cap (setF W a.toNat x) first Ls lb := by
        have hp := hf.pf_lt; have hb := hf.hb; have hbl := hf.bk_lt
        refine ⟨keepT ht (by omega) hf.ne hf.ptr, keepT ht (by omega) hf.ne hf.fst, ?_, ?_, hf.words.set _ (by omega) _ hx, hf.pf_lt, hf.bk_lt, hf.ne, Nat.le_trans hf.hb ht.size, hf.hn⟩
        · obtain ⟨v, hv, ho, hl⟩ := hf.los
          exact ⟨v, keepT ht (by omega) hf.ne hv, own_touch ho ht (fun g hg => by omega), hl⟩
        · rw [frozen_of_heap (ht.block pf (by omega) hf.ne)]; exact hf.free
      have HF := Lib.hid hfin
      clear hfin
      go_enter Try.func63, Try.ntmps63
      go_wp2_with (fail)
      go_ret
      exact ⟨by rw [← hE.out]; rfl, by rw [hW.out]; exact HF.out, ht.mono (fun _ _ h => Or.inr (Or.inl h))⟩
  · have hE : Hid ((10 : Int) = E) := by show _ = _; rw [← HE.out]; unfold stE; rw [if_pos ha]
    have hW : Hid (stW n first W a x = W) := by show _ = _; unfold stW; rw [if_neg]; rw [HE.out, ← hE.out]; omega
    have hh : a < 0 ∨ (¬ a < 0 ∧ n ≤ a) := by omega
    clear ha
    rcases hh with h | ⟨h, h'⟩
    all_goals
      go_enter Try.func63, Try.ntmps63
      go_wp2_with (fail)
      go_ret
      exact ⟨by rw [← hE.out]; rfl, by rw [hW.out]; exact hf, Touch.refl _ _⟩

end Go.Proofs.Ytfjfdhojhikgdaa
