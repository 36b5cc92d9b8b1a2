/- What the helpers of the laws of layer 13 return and write, by walks over their text. -/
import Derived.Test.YtfjfdhojhikgdaaRun13
import Derived.Test.YtfjfdhojhikgdaaRef12
import Derived.Laws.AppendOwnNone
namespace Go.Proofs.Ytfjfdhojhikgdaa
set_option linter.unusedSimpArgs false
set_option linter.unusedVariables false
open Go.RowKit
set_option maxHeartbeats 4000000

/-- Words that came in: nothing, or what lies at an address. -/
def WArg (w : World) (a : Option Addr) (n : Nat) (V : Nat → Int) : Prop :=
  n = 0 ∨ ∃ b off, a = some ⟨b, off, none⟩ ∧ b < w.heap.size ∧ ∀ i, i < n → w.cell? ⟨b, off + i, none⟩ = some (.int .u64 (V i))
theorem WArg.touch {w w' : World} {a : Option Addr} {n : Nat} {V : Nat → Int} (h : WArg w a n V) {S : Nat → Prop} (t : Touch S w w') (hs : ∀ b off, a = some ⟨b, off, none⟩ → ¬ S b) : WArg w' a n V :=
  h.elim Or.inl fun ⟨b, off, ha, hb, hc⟩ => Or.inr ⟨b, off, ha, Nat.lt_of_lt_of_le hb t.size, fun i hi => keepT t hb (hs b off ha) (hc i hi)⟩
theorem WArg.below {w w' : World} {a : Option Addr} {n : Nat} {V : Nat → Int} (h : WArg w a n V) (t : Below w.heap.size w w') : WArg w' a n V :=
  h.touch (S := fun _ => False) (Touch.of_below t) (fun _ _ _ => id)

theorem info_u64 : (Try.prog.info? 22).map (fun i => (i.zero, i.size, i.bytes)) = some (some (.int .u64 0), 1, 8) := by kernel_rfl

theorem cells_src {w : World} {b off n : Nat} {V : Nat → Int} (hc : ∀ i, i < n → w.cell? ⟨b, off + i, none⟩ = some (.int .u64 (V i))) : ∀ j u, ((List.range n).map fun i => Value.int .u64 (V i))[j]? = some u → w.cell? ((⟨b, off, none⟩ : Addr).add j) = some u := by
  intro j u h
  have e : (⟨b, off, none⟩ : Addr).add j = ⟨b, off + j, none⟩ := by
    unfold Addr.add; split
    · subst_vars; rfl
    · rfl
  rw [e]
  simp only [List.getElem?_map, List.getElem?_range] at h
  by_cases hj : j < n
  · simp [hj] at h; rw [← h]; exact hc j hj
  · simp [hj] at h

theorem own_words {w : World} {base n : Nat} {v : Value} {V : Nat → Int} (h : w.ownsRow base 22 1 v n ((List.range n).map fun i => Value.int .u64 (V i))) (h0 : ∃ a n c, v = .slice (some a) n c) (hV : ∀ i, 0 ≤ V i ∧ V i < 18446744073709551616) :
    ∃ g cap, v = .slice (some ⟨g, 0, none⟩) n cap ∧ base ≤ g ∧ WordsIn w g n V := by
  rcases h.2 with ⟨h1, _⟩ | ⟨g, cap, cur, rfl, hg, hh, hnc, hcm, hcs, ht⟩
  · obtain ⟨a, m, c, h2⟩ := h0; rw [h1] at h2; cases h2
  · refine ⟨g, cap, rfl, hg, ?_⟩
    have hgl : g < w.heap.size := by
      rcases Nat.lt_or_ge g w.heap.size with h | h
      · exact h
      · rw [Array.getElem?_eq_none h] at hh; cases hh
    refine ⟨fun i hi => ?_, fun i hi => ?_, hV, hgl⟩
    · have := h.cellAt i (by simpa using hi)
      rw [this]; simp [hi]
    · simp [World.frozen?, hh]

/-- Flat words that nothing was loaded of. -/
structure FlatNew (w : World) (pf bk n cap : Nat) (W : Nat → Int) (first : Int) : Prop where
  ptr : w.cell? ⟨pf, 0, none⟩ = some (.slice (some ⟨bk, 0, none⟩) n cap)
  fst : w.cell? ⟨pf, 1, none⟩ = some (.int .i64 first)
  los : w.cell? ⟨pf, 2, none⟩ = some (.slice none 0 0)
  free : w.frozen? ⟨pf, 2, none⟩ = false
  words : WordsIn w bk n W
  pf_lt : pf < w.heap.size
  ne : pf ≠ bk
  hn : n ≤ 1000
theorem FlatNew.touch {w w' : World} {pf bk n cap : Nat} {W : Nat → Int} {first : Int} (h : FlatNew w pf bk n cap W first) {S : Nat → Prop} (t : Touch S w w') (h1 : ¬ S pf) (h2 : ¬ S bk) : FlatNew w' pf bk n cap W first :=
  ⟨keepT t h.pf_lt h1 h.ptr, keepT t h.pf_lt h1 h.fst, keepT t h.pf_lt h1 h.los, by rw [frozen_of_heap (t.block pf h.pf_lt h1)]; exact h.free, h.words.touch t h2, Nat.lt_of_lt_of_le h.pf_lt t.size, h.ne, h.hn⟩
theorem FlatNew.below {w w' : World} {pf bk n cap : Nat} {W : Nat → Int} {first : Int} (h : FlatNew w pf bk n cap W first) (t : Below w.heap.size w w') : FlatNew w' pf bk n cap W first :=
  h.touch (S := fun _ => False) (Touch.of_below t) id id
theorem FlatNew.flat {w : World} {pf bk n cap : Nat} {W : Nat → Int} {first : Int} (h : FlatNew w pf bk n cap W first) : FlatIn w pf bk w.heap.size n cap W first [] none :=
  ⟨h.ptr, h.fst, ⟨_, h.los, World.ownsRow_nil _ _ _ _, rfl⟩, h.free, h.words, h.pf_lt, h.words.lt, h.ne, Nat.le_refl _, h.hn⟩

def OfPost (n : Nat) (V : Nat → Int) (first : Int) (w : World) (e : Ending) (w' : World) : Prop :=
  ∃ pf bk c, e = .returned (.pointer (some ⟨pf, 0, none⟩)) ∧ FlatNew w' pf bk n c V first ∧ w.heap.size ≤ pf ∧ w.heap.size ≤ bk ∧ Below w.heap.size w w'

theorem of_any (a : Option Addr) (n cap : Nat) (V : Nat → Int) (first : Int) (w : World) (ha : WArg w a n V) (hnil : a = none → n = 0 ∧ cap = 0) (hV : ∀ i, 0 ≤ V i ∧ V i < 18446744073709551616) (hn : n ≤ 1000) :
    Calls Try.prog 11 #[.slice a n cap, .int .i64 first] w (OfPost n V first w) := by
  obtain ⟨i0, hi, hz0, hz1, hz2⟩ := info_parts info_u64
  have hown0 : (w.alloc (.cells #[] 22)).ownsRow w.heap.size 22 1 (.slice (some ⟨w.heap.size, 0, none⟩) 0 0) 0 [] :=
    ⟨by simp, .inr ⟨w.heap.size, 0, #[], rfl, Nat.le_refl _, heap_alloc_new w _, by omega, by unfold maxLen; omega, by simp, by simp⟩⟩
  rcases a with _ | ad
  · obtain ⟨rfl, rfl⟩ := hnil rfl
    go_enter Try.func11, Try.ntmps11
    go_wp2_with (at_builtin; refine wpList_append_own_none rfl _ _ 26 rfl w.heap.size 22 i0 1 Try.underlying26 hi (.slice (some ⟨w.heap.size, 0, none⟩) 0 0) 0 [] rfl hown0 rfl ?_)
    go_ret
    refine ⟨w.heap.size + 1, w.heap.size, 0, rfl, ⟨?_, ?_, ?_, ?_, ⟨fun i hi => by omega, fun i hi => by omega, hV, by simp; omega⟩, by simp, by simp, by omega⟩, by omega, by omega, ?_⟩
    · simp [go_sem]
    · simp [go_sem]
    · simp [go_sem]
    · simp [go_sem]
    · repeat (first | exact Below.refl _ _ | refine Below.alloc ?_ (by simp <;> omega) _)
  · have hsrc : ∀ j u, ((List.range n).map fun i => Value.int .u64 (V i))[j]? = some u → (w.alloc (.cells #[] 22)).cell? (ad.add j) = some u := by
      intro j u hu
      rcases ha with h0 | ⟨b, off, h, hb, hc⟩
      · subst h0; simp at hu
      · cases h
        refine cells_src (fun i hi => ?_) j u hu
        rw [World.cell?_alloc_lt _ _ _ hb]; exact hc i hi
    go_enter Try.func11, Try.ntmps11
    go_wp2_with (at_builtin; refine wpList_append_own _ rfl _ _ 26 rfl w.heap.size 22 i0 (.int .u64 0) 1 8 Try.underlying26 hi hz0 hz1 hz2 rfl (by decide) (.slice (some ⟨w.heap.size, 0, none⟩) 0 0) 0 [] rfl hown0 ad n cap ((List.range n).map fun i => Value.int .u64 (V i)) rfl (by simp) hsrc (fun x hx => by simp at hx; obtain ⟨_, _, rfl⟩ := hx; rfl) (by unfold maxLen; omega) (by omega) (by simp) ?_; refine fun v' w1 hown1 hgrow1 hnil1 => Hold.out ?_)
    refine ⟨?_⟩
    simp only [Nat.zero_add, List.nil_append] at hown1
    have hb1 : Below w.heap.size w w1 := Below.grown ((Below.refl _ _).alloc (Nat.le_refl _) _) hgrow1 (by simp) (fun k hk => by simp [Value.ownBlock] at hk; omega)
    have hv' : ∃ a c, v' = .slice (some a) n c := by
      obtain ⟨a, c, rfl⟩ := own_slice hown1
      rcases a with _ | a
      · exfalso
        rcases hown1.2 with ⟨h1, h2⟩ | ⟨g, cap', cur, h1, _⟩
        · have := (hnil1.1 (by rw [h1])).1; simp [Act.eval] at this
        · cases h1
      · exact ⟨a, c, rfl⟩
    obtain ⟨g, c1, rfl, hg, hws⟩ := own_words hown1 (by obtain ⟨a, c, h⟩ := hv'; exact ⟨a, n, c, h⟩) hV
    clear hown1 hgrow1 hnil1 hv' hown0
    have hs1 := hb1.size
    have hgl := hws.lt
    go_wp2_with (fail)
    go_ret
    refine ⟨w1.heap.size, g, c1, rfl, ⟨?_, ?_, ?_, ?_, hws.touch (S := fun _ => False) (Touch.of_below ((Below.refl _ _).alloc (Nat.le_refl _) _)) id, by simp, by omega, by omega⟩, by omega, hg, ?_⟩
    · simp [go_sem]
    · simp [go_sem]
    · simp [go_sem]
    · simp [go_sem]
    · exact hb1.alloc hs1 _

theorem same_any (a b : Option Addr) (n m c1 c2 : Nat) (V U : Nat → Int) (w : World) (ha : WArg w a n V) (hb : WArg w b m U) (hn : n ≤ 9223372036854775807) (hm : m ≤ 9223372036854775807) (r : Bool) (hr : r = true ↔ n = m ∧ ∀ i, i < n → V i = U i) :
    Calls Try.prog 14 #[.slice a n c1, .slice b m c2] w fun e w' => e = .returned (.bool r) ∧ Below w.heap.size w w' := by
  by_cases hnm : n = m
  · subst hnm
    have HR := Lib.hid hr
    clear hr
    go_enter Try.func14, Try.ntmps14
    go_wp2_with (fail)
    go_loopw [5] (fun i wr => ∃ k : Nat, k ≤ n ∧ i = .int .i64 k ∧ Hid (∀ j, j < k → V j = U j) ∧ Below w.heap.size w wr) (fun i _ => n - (intOf i).toNat)
    case atStart => exact ⟨0, by omega, rfl, Lib.hid (fun j hj => by omega), Below.refl _ _⟩
    case round =>
      obtain ⟨k, hk, rfl, HK, hbr⟩ := hrel
      by_cases hlt : k < n
      · rcases ha with h0 | ⟨b1, o1, rfl, hb1, hc1⟩
        · omega
        rcases hb with h0 | ⟨b2, o2, rfl, hb2, hc2⟩
        · omega
        have q1 := keep hbr hb1 (hc1 k hlt)
        have q2 := keep hbr hb2 (hc2 k hlt)
        have hv0 : (0 : Int) ≤ k := by omega
        have hv1 : (k : Int) < n := by omega
        by_cases he : V k = U k
        · have HE : Hid (∀ j, j < k + 1 → V j = U j) := Lib.hid (fun j hj => by
            by_cases e : j = k
            · subst e; exact he
            · exact HK.out j (by omega))
          have he' : (V k != U k) = false := by simp [he]
          generalize V k = x at q1 he'
          generalize U k = y at q2 he'
          clear he
          go_wp2_with (fail)
          go_quiet (fail)
          go_wp2_with (fail)
          go_roundw
          case rel => exact ⟨k + 1, by omega, by go_num, HE, below_drewN hbr _⟩
          case measure => simp [intOf]; omega
        · have he' : (V k != U k) = true := by simp [he]
          have hf : r = false := by
            cases hh : r with
            | false => rfl
            | true => exact absurd ((HR.out.1 hh).2 k hlt) he
          generalize V k = x at q1 he'
          generalize U k = y at q2 he'
          have HF := Lib.hid hf
          clear hf he
          go_wp2_with (fail)
          go_quiet (fail)
          go_wp2_with (fail)
          go_ret
          exact ⟨by rw [HF.out]; rfl, below_drewN hbr _⟩
      · have hf : r = true := HR.out.2 ⟨by first | rfl | trivial, fun i hi => HK.out i (by omega)⟩
        have HF := Lib.hid hf
        clear hf
        go_wp2_with (fail)
        go_ret
        exact ⟨by rw [HF.out]; rfl, hbr⟩
  · have hne : ((n : Int) != (m : Int)) = true := by simp; omega
    have hf : r = false := by
      cases hh : r with
      | false => rfl
      | true => exact absurd (hr.1 hh).1 hnm
    have HF := Lib.hid hf
    clear hf hr
    go_enter Try.func14, Try.ntmps14
    go_wp2_with (fail)
    go_ret
    rw [HF.out]
    first | exact ⟨rfl, Below.refl _ _⟩ | exact ⟨trivial, Below.refl _ _⟩ | exact Below.refl _ _

end Go.Proofs.Ytfjfdhojhikgdaa
