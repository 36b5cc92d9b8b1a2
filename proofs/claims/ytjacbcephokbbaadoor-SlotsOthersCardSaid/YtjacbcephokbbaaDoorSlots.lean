/- What New, At, Slots, mark, Ticks of package slots return and write, by walks over their text. -/
import Derived.Test.YtjacbcephokbbaaDoorBitmap
import Derived.Test.YtjacbcephokbbaaDoorWin
namespace Go.Proofs.YtjacbcephokbbaaDoor
set_option linter.unusedSimpArgs false
set_option linter.unusedVariables false
set_option maxRecDepth 100000
open Go.RowKit
set_option maxHeartbeats 4000000

/-- Is a tick in a window? -/
def inW (x : Win) (t : Int) : Bool := decide (x.f ≤ t) && decide (t < x.f + x.l)
def occ (L : List Win) (t : Int) : Bool := L.any fun x => inW x t
/-- A table's windows: within its ticks, one behind the other. -/
structure TabOk (n : Int) (S : Nat → Bool) (L : List Win) : Prop where
  n1 : 1 ≤ n
  n2 : n ≤ 256
  bd : ∀ x ∈ L, 0 ≤ x.p ∧ x.p < 8 ∧ 1 ≤ x.l ∧ 0 ≤ x.f ∧ x.f + x.l ≤ n
  ap : L.Pairwise fun a b => a.f + a.l ≤ b.f
  oc : ∀ k : Nat, k < 256 → S k = occ L k
structure TabIn (w : World) (pt : Nat) (v : Value) (n : Int) (S : Nat → Bool) (L : List Win) : Prop where
  c0 : w.cell? ⟨pt, 0, none⟩ = some (.int .i64 n)
  bm : BmIn w pt 1 S
  c5 : w.cell? ⟨pt, 5, none⟩ = some v
  f5 : w.frozen? ⟨pt, 5, none⟩ = false
  row : w.ownsRow 0 58 3 v L.length (winCells L)
  ne : v.ownBlock ≠ some pt
  lt : pt < w.heap.size
theorem own_heap {w w' : World} {base e size n : Nat} {v : Value} {xs : List Value} (h : w.ownsRow base e size v n xs) (t : ∀ g, v.ownBlock = some g → w'.heap[g]? = w.heap[g]?) : w'.ownsRow base e size v n xs := by
  obtain ⟨h1, h2⟩ := h
  refine ⟨h1, ?_⟩
  rcases h2 with h2 | ⟨g, cap, cur, hv, hg, hh, r⟩
  · exact Or.inl h2
  · exact Or.inr ⟨g, cap, cur, hv, hg, (t g (by rw [hv]; rfl)).trans hh, r⟩
theorem own_lt {w : World} {base e size n g : Nat} {v : Value} {xs : List Value} (h : w.ownsRow base e size v n xs) (hg : v.ownBlock = some g) : g < w.heap.size := by
  rcases h.2 with ⟨hv, _⟩ | ⟨g', cap, cur, hv, _, hh, _⟩
  · rw [hv] at hg; cases hg
  · rw [hv] at hg; cases hg; exact heap_lt hh
theorem heap_lt' {w w' : World} {k : Nat} (e : w'.heap[k]? = w.heap[k]?) (h : k < w.heap.size) : k < w'.heap.size := by
  rcases Nat.lt_or_ge k w'.heap.size with h' | h'
  · exact h'
  · rw [Array.getElem?_eq_none h', Array.getElem?_eq_getElem h] at e; cases e
def tabS (pt : Nat) (v : Value) (k : Nat) : Prop := k = pt ∨ v.ownBlock = some k
theorem TabIn.heap {w w' : World} {pt : Nat} {v : Value} {n : Int} {S : Nat → Bool} {L : List Win} (h : TabIn w pt v n S L) (e : ∀ k, tabS pt v k → w'.heap[k]? = w.heap[k]?) : TabIn w' pt v n S L :=
  have ep := e pt (Or.inl rfl)
  ⟨(cell_of_heap ep _).trans h.c0, h.bm.heap ep, (cell_of_heap ep _).trans h.c5, (frozen_of_heap ep _).trans h.f5, own_heap h.row (fun g hg => e g (Or.inr hg)), h.ne, heap_lt' ep h.lt⟩
theorem TabIn.slt {w : World} {pt : Nat} {v : Value} {n : Int} {S : Nat → Bool} {L : List Win} (h : TabIn w pt v n S L) : ∀ k, tabS pt v k → k < w.heap.size := fun k hk => by
  rcases hk with rfl | hk
  · exact h.lt
  · exact own_lt h.row hk
theorem TabIn.below {w w' : World} {pt : Nat} {v : Value} {n : Int} {S : Nat → Bool} {L : List Win} (h : TabIn w pt v n S L) (t : Below w.heap.size w w') : TabIn w' pt v n S L := h.heap fun k hk => t.block k (h.slt k hk)

/-- Windows at an address. -/
def WinsAt (w : World) (a : Option Addr) (L : List Win) : Prop := L = [] ∨ ∃ b, a = some ⟨b, 0, none⟩ ∧ b < w.heap.size ∧ ∀ i (hi : i < L.length), w.cell? ⟨b, i * 3, none⟩ = some (.int .i64 L[i].p) ∧ w.cell? ⟨b, i * 3 + 1, none⟩ = some (.int .i64 L[i].f) ∧ w.cell? ⟨b, i * 3 + 2, none⟩ = some (.int .i64 L[i].l)
theorem WinsAt.below {w w' : World} {a : Option Addr} {L : List Win} (h : WinsAt w a L) (t : Below w.heap.size w w') : WinsAt w' a L := by
  rcases h with h | ⟨b, rfl, hb, h⟩
  · exact Or.inl h
  · refine Or.inr ⟨b, rfl, Nat.lt_of_lt_of_le hb t.size, fun i hi => ?_⟩
    obtain ⟨h0, h1, h2⟩ := h i hi
    exact ⟨keep t hb h0, keep t hb h1, keep t hb h2⟩
theorem own_wins {w : World} {base e n : Nat} {v : Value} {L : List Win} (h : w.ownsRow base e 3 v n (winCells L)) (hn : n = L.length) : ∃ a cap, v = .slice a L.length cap ∧ WinsAt w a L := by
  have h' := h
  rcases h.2 with ⟨rfl, rfl⟩ | ⟨g, cap, cur, rfl, hg, hh, _⟩
  · have hL : L = [] := List.length_eq_zero_iff.1 hn.symm
    subst hL
    exact ⟨none, 0, rfl, Or.inl rfl⟩
  · refine ⟨some ⟨g, 0, none⟩, cap, by rw [hn], Or.inr ⟨g, rfl, heap_lt hh, fun i hi => ?_⟩⟩
    obtain ⟨a, b, c⟩ := winCells_at L i hi
    have hc : ∀ j v, (winCells L)[j]? = some v → w.cell? ⟨g, j, none⟩ = some v := fun j v hj => by
      have hjl := (List.getElem?_eq_some_iff.1 hj).1
      rw [winCells_length] at hjl
      rw [h'.cellAt j (by omega)]; exact hj
    exact ⟨hc _ _ a, hc _ _ b, hc _ _ c⟩

/-- Whose window a tick is in; -1: no one's. -/
def atW : List Win → Int → Int
  | [], _ => -1
  | x :: L, t => if inW x t then x.p else atW L t
theorem atW_drop (L : List Win) (t : Int) (k : Nat) (h : k < L.length) : atW (L.drop k) t = if inW L[k] t then L[k].p else atW (L.drop (k + 1)) t := by
  rw [List.drop_eq_getElem_cons h]; rfl

theorem slots_at (pt : Nat) (v : Value) (n : Int) (S : Nat → Bool) (L : List Win) (t R : Int) (w : World) (h : TabIn w pt v n S L) (hb : ∀ x ∈ L, 0 ≤ x.l ∧ 0 ≤ x.f ∧ x.f + x.l ≤ 256) (hR : atW L t = R) (hlen : L.length < 1000000) :
    Calls Tryd.prog 11 #[.pointer (some ⟨pt, 0, none⟩), .int .i64 t] w fun e w' => e = .returned (.int .i64 R) ∧ Below w.heap.size w w' := by
  obtain ⟨a, cap, hv, hw⟩ := own_wins h.row rfl
  have c5 := h.c5
  rw [hv] at c5
  have HR := Lib.hid hR
  clear hR h
  go_enter Tryd.func11, Tryd.ntmps11
  go_wp2_with (fail)
  go_loopw [12] (fun i wr => ∃ k : Nat, k ≤ L.length ∧ i = .int .i64 k ∧ Hid (atW (L.drop k) t = R) ∧ Below w.heap.size w wr) (fun i _ => L.length - (intOf i).toNat)
  case atStart => exact ⟨0, by omega, rfl, Lib.hid (by rw [List.drop_zero]; exact HR.out), Below.refl _ _⟩
  case round =>
    obtain ⟨k, hk, rfl, HK, hbw⟩ := hrel
    by_cases hlt : k < L.length
    · have hw' := hw.below hbw
      rcases hw' with h0 | ⟨b, rfl, hbl, hc⟩
      · rw [h0] at hlt; simp at hlt
      obtain ⟨q0, q1, q2⟩ := hc k hlt
      have hx := hb L[k] (List.getElem_mem hlt)
      have hd := atW_drop L t k hlt
      obtain ⟨x, hxx⟩ : ∃ x, L[k] = x := ⟨_, rfl⟩
      rw [hxx] at q0 q1 q2 hx hd
      clear hxx hc hw hb
      have i1 : (k : Int) < L.length := by omega
      have kk : ∀ o, Below w.heap.size w (wr.alloc o) := fun o => Below.alloc hbw hbw.size o
      have KK := Lib.hid kk
      clear kk
      obtain ⟨x1, x2, x3⟩ := hx
      by_cases h1 : x.f ≤ t
      · by_cases h2 : t < x.f + x.l
        · have hR : x.p = R := by rw [← HK.out, hd]; simp [inW, h1, h2]
          have HRR := Lib.hid hR
          clear hR hd
          go_wp2_with (fail)
          go_ret
          exact ⟨by rw [← HRR.out]; rfl, KK.out _⟩
        · have hR : atW (L.drop (k + 1)) t = R := by rw [← HK.out, hd]; simp [inW, h2]
          have HRR := Lib.hid hR
          clear hR hd
          go_wp2_with (fail)
          go_roundw
          case rel => exact ⟨k + 1, by omega, by go_num, HRR, KK.out _⟩
          case measure => simp [intOf]; omega
      · have hR : atW (L.drop (k + 1)) t = R := by rw [← HK.out, hd]; simp [inW, h1]
        have HRR := Lib.hid hR
        have hd2 : decide (x.f ≤ t) = false := by simp; omega
        clear hR hd
        go_wp2_with (fail)
        go_roundw
        case rel => exact ⟨k + 1, by omega, by go_num, HRR, KK.out _⟩
        case measure => simp [intOf]; omega
    · obtain rfl : k = L.length := by omega
      have hR : R = -1 := by rw [← HK.out, List.drop_length]; rfl
      have HRR := Lib.hid hR
      clear hR
      go_wp2_with (fail)
      go_ret
      exact ⟨by rw [HRR.out]; rfl, hbw⟩

/-- The set with a window's first k ticks put in, or taken out. -/
def markS (S : Nat → Bool) (x : Win) (b : Bool) (k : Nat) : Nat → Bool := fun i => if x.f ≤ (i : Int) ∧ (i : Int) < x.f + k then b else S i
theorem markS_zero (S : Nat → Bool) (x : Win) (b : Bool) : markS S x b 0 = S := by
  funext i; unfold markS; rw [if_neg (by omega)]
theorem markS_succ (S : Nat → Bool) (x : Win) (b : Bool) (k : Nat) (h : 0 ≤ x.f) : setB (markS S x b k) (x.f + k).toNat b = markS S x b (k + 1) := by
  funext i; unfold setB markS
  by_cases e : i = (x.f + k).toNat
  · rw [if_pos e, if_pos (by omega)]
  · rw [if_neg e]
    by_cases e2 : x.f ≤ (i : Int) ∧ (i : Int) < x.f + k
    · rw [if_pos e2, if_pos (by omega)]
    · rw [if_neg e2, if_neg (by omega)]

theorem slots_mark (pt : Nat) (S : Nat → Bool) (x : Win) (b : Bool) (w : World) (h : BmIn w pt 1 S) (hpt : pt < w.heap.size) (h0 : 0 ≤ x.f) (h1 : 0 ≤ x.l) (h2 : x.f + x.l ≤ 256) :
    Calls Tryd.prog 27 #[.pointer (some ⟨pt, 0, none⟩), .agg #[.int .i64 x.p, .int .i64 x.f, .int .i64 x.l], .bool b] w fun e w' => e = .returned (.tuple #[]) ∧ BmIn w' pt 1 (markS S x b x.l.toNat) ∧ Others pt 1 w w' ∧ Touch (· = pt) w w' := by
  have hne : ¬ pt = w.heap.size := by omega
  have hne' : ¬ w.heap.size = pt := by omega
  obtain ⟨w1, hw1⟩ : ∃ w1, w1 = w.alloc (.cells #[.int .i64 x.p, .int .i64 x.f, .int .i64 x.l] 58) := ⟨_, rfl⟩
  have b1 : Below w.heap.size w w1 := by rw [hw1]; repeat (first | with_reducible exact Below.refl _ _ | with_reducible assumption | with_reducible refine below_drewN ?_ _ | with_reducible refine Below.alloc ?_ (by simp <;> omega) _)
  have bx1 : w1.cell? ⟨w.heap.size, 1, none⟩ = some (.int .i64 x.f) := by rw [hw1]; simp [go_sem]
  have bl : w.heap.size < w1.heap.size := by rw [hw1]; simp
  have hB1 := h.heap (b1.block pt hpt)
  have hO1 : Others pt 1 w w1 := Others.of_heap (b1.block pt hpt)
  obtain ⟨l, hl⟩ : ∃ l : Nat, x.l = l := ⟨x.l.toNat, by omega⟩
  rw [hl] at hw1 h2 ⊢
  rw [Int.toNat_natCast]
  clear hl h1
  go_enter Tryd.func27, Tryd.ntmps27
  go_wp2_with (fail)
  rw [← hw1]
  clear hw1
  go_loopw [9] (fun i wr => ∃ k : Nat, k ≤ l ∧ i = .int .i64 k ∧ BmIn wr pt 1 (markS S x b k) ∧ Others pt 1 w1 wr ∧ Touch (· = pt) w1 wr) (fun i _ => l - (intOf i).toNat)
  case atStart => exact ⟨0, by omega, rfl, by rw [markS_zero]; exact hB1, Others.refl _ _ _, Touch.refl _ _⟩
  case round =>
    obtain ⟨k, hk, rfl, hB, hO, hT⟩ := hrel
    by_cases hlt : k < l
    · have bx := keepT hT bl hne' bx1
      have blr : w.heap.size < wr.heap.size := Nat.lt_of_lt_of_le bl hT.size
      have hm := markS_succ S x b k h0
      have HM := Lib.hid hm
      clear hm
      have hcall : ∀ w0, BmIn w0 pt 1 (markS S x b k) → Calls Tryd.prog 34 #[.pointer (some ⟨pt, 1, none⟩), .int .i64 (x.f + k), .bool b] w0 fun e w' => e = .returned (.bool true) ∧ BmIn w' pt 1 (setB (markS S x b k) (x.f + k).toNat b) ∧ Others pt 1 w0 w' ∧ Touch (· = pt) w0 w' := fun w0 h0' => bm_put_yes pt 1 (markS S x b k) (x.f + k) b w0 h0' (by omega) (by omega)
      have HC := Lib.hid hcall
      clear hcall
      go_wp2_with (fail)
      have hwr : IntKind.i64.wrap (x.f + (k : Int)) = x.f + (k : Int) := IntWalk.i64_in _ ⟨by omega, by omega⟩
      go_region_held3 (fun w' => w'.cell? ⟨w.heap.size, 1, none⟩ = some (.int .i64 x.f)) (first | assumption | go_keep)
        ((go_at_call 34
          refine (HC.out _ (hB.heap (by rfl))).mono ?_
          rintro e w2 ⟨rfl, hB2, hO2, hT2⟩
          have hT2' : Touch (· = pt) wr w2 := ⟨hT2.os, hT2.tape, hT2.output, hT2.size, hT2.block⟩
          have bx2 := keepT hT2' blr hne' bx))
      rw [HM.out] at hB2
      clear hwr
      go_wp2_with (fail)
      go_roundw
      case rel => exact ⟨k + 1, by omega, by go_num, hB2, hO.trans (fun j hj => hO2 j hj), hT.trans hT2'⟩
      case measure => simp [intOf]; omega
    · obtain rfl : k = l := by omega
      go_wp2_with (fail)
      go_end0
      exact ⟨rfl, hB, hO1.trans hO, (Touch.of_below b1).trans hT⟩

end Go.Proofs.YtjacbcephokbbaaDoor
