/- Part 2 of the proofs: Tlb, Tlb2, BitsPlain, Bits, Entry. -/
import Derived.Test.YteehghjdifbjbaaQ1
import Derived.Laws.BitsAllLaws
import Derived.RowKit
namespace Go.Proofs.Yteehghjdifbjbaa
set_option linter.unusedSimpArgs false
set_option linter.unusedVariables false
set_option maxRecDepth 100000
open Go.RowKit
set_option maxHeartbeats 4000000

/-- A line: its number, its page, its frame, may it be written? -/
structure Ln where
  a : Int
  p : Int
  f : Int
  w : Bool

/-- The eight places of a buffer, in the block pb; a line lies in the block lb i. -/
structure TlbIn (w : World) (pb : Nat) (lb : Nat → Nat) (L : Nat → Option Ln) : Prop where
  none_ : ∀ i, i < 8 → L i = none → w.cell? ⟨pb, i, none⟩ = some (.pointer none)
  some_ : ∀ i l, i < 8 → L i = some l → w.cell? ⟨pb, i, none⟩ = some (.pointer (some ⟨lb i, 0, none⟩)) ∧ lb i < w.heap.size ∧ lb i ≠ pb ∧
    w.cell? ⟨lb i, 0, none⟩ = some (.int .i64 l.a) ∧ w.cell? ⟨lb i, 1, none⟩ = some (.int .i64 l.p) ∧ w.cell? ⟨lb i, 2, none⟩ = some (.int .i64 l.f) ∧ w.cell? ⟨lb i, 3, none⟩ = some (.bool l.w)
  free : ∀ i, i < 8 → w.frozen? ⟨pb, i, none⟩ = false
  lt : pb < w.heap.size

theorem TlbIn.touch {w w' : World} {pb : Nat} {lb : Nat → Nat} {L : Nat → Option Ln} (h : TlbIn w pb lb L) {S : Nat → Prop} (t : Touch S w w') (h1 : ¬ S pb) (h2 : ∀ i l, i < 8 → L i = some l → ¬ S (lb i)) : TlbIn w' pb lb L :=
  ⟨fun i hi hn => keepT t h.lt h1 (h.none_ i hi hn), fun i l hi hl => by
    obtain ⟨a, b, c, d, e, f, g⟩ := h.some_ i l hi hl
    exact ⟨keepT t h.lt h1 a, Nat.lt_of_lt_of_le b t.size, c, keepT t b (h2 i l hi hl) d, keepT t b (h2 i l hi hl) e, keepT t b (h2 i l hi hl) f, keepT t b (h2 i l hi hl) g⟩,
   fun i hi => by rw [frozen_of_heap (t.block pb h.lt h1)]; exact h.free i hi, Nat.lt_of_lt_of_le h.lt t.size⟩
theorem TlbIn.below {w w' : World} {pb : Nat} {lb : Nat → Nat} {L : Nat → Option Ln} (h : TlbIn w pb lb L) (t : Below w.heap.size w w') : TlbIn w' pb lb L :=
  h.touch (S := fun _ => False) (Touch.of_below t) id (fun _ _ _ _ => id)

/-- Is a line one of a page of an address space? -/
def isB (asid page : Int) (l : Option Ln) : Bool := match l with
  | none => false
  | some l => l.a == asid && l.p == page

theorem at1_none (pa pp : Nat) (asid page : Int) (w : World) :
    Calls Try.prog 81 #[.pointer none, .pointer (some ⟨pa, 0, none⟩), .pointer (some ⟨pp, 0, none⟩)] w fun e w' => e = .returned (.bool false) ∧ ∃ q, w' = w.drewN q := by
  go_enter Try.func81, Try.ntmps81
  go_wp2_with (fail)
  go_quiet (fail)
  go_wp2_with (fail)
  go_ret
  exact ⟨rfl, _, rfl⟩

theorem at1_some (b pa pp : Nat) (a p asid page : Int) (w : World) (h0 : w.cell? ⟨b, 0, none⟩ = some (.int .i64 a)) (h1 : w.cell? ⟨b, 1, none⟩ = some (.int .i64 p)) (c0 : w.cell? ⟨pa, 0, none⟩ = some (.int .i64 asid)) (c1 : w.cell? ⟨pp, 0, none⟩ = some (.int .i64 page)) :
    Calls Try.prog 81 #[.pointer (some ⟨b, 0, none⟩), .pointer (some ⟨pa, 0, none⟩), .pointer (some ⟨pp, 0, none⟩)] w fun e w' => e = .returned (.bool (a == asid && p == page)) ∧ ∃ q, w' = w.drewN q := by
  by_cases ha : a = asid
  · have ha' : (a == asid) = true := by simp [ha]
    clear ha
    go_enter Try.func81, Try.ntmps81
    go_wp2_with (fail)
    go_quiet (fail)
    go_wp2_with (fail)
    go_ret
    exact ⟨by rw [ha']; simp, _, rfl⟩
  · have ha' : (a == asid) = false := by simp [ha]
    clear ha
    go_enter Try.func81, Try.ntmps81
    go_wp2_with (fail)
    go_quiet (fail)
    go_wp2_with (fail)
    go_ret
    exact ⟨by rw [ha']; simp, _, rfl⟩

/-- Where a line's pointer leads. -/
def ptrOf (lb : Nat → Nat) (L : Nat → Option Ln) (i : Nat) : Option Addr := (L i).map fun _ => ⟨lb i, 0, none⟩
theorem TlbIn.ptr {w : World} {pb : Nat} {lb : Nat → Nat} {L : Nat → Option Ln} (h : TlbIn w pb lb L) (i : Nat) (hi : i < 8) : w.cell? ⟨pb, i, none⟩ = some (.pointer (ptrOf lb L i)) := by
  unfold ptrOf
  cases hl : L i with
  | none => exact h.none_ i hi hl
  | some l => exact (h.some_ i l hi hl).1
theorem eight {k : Nat} (h : k < 8) : k = 0 ∨ k = 1 ∨ k = 2 ∨ k = 3 ∨ k = 4 ∨ k = 5 ∨ k = 6 ∨ k = 7 := by omega
theorem ptr_at8 (q0 q1 q2 q3 q4 q5 q6 q7 : Option Addr) : ∀ k, k < 8 → ∀ w, (Instr.index 108 (.agg #[.pointer q0, .pointer q1, .pointer q2, .pointer q3, .pointer q4, .pointer q5, .pointer q6, .pointer q7]) (.int .i64 ((k : Nat) : Int))).run Try.prog w = .ok (.pointer (match k with | 0 => q0 | 1 => q1 | 2 => q2 | 3 => q3 | 4 => q4 | 5 => q5 | 6 => q6 | _ => q7)) w
  | 0, _, _ => by kernel_rfl
  | 1, _, _ => by kernel_rfl
  | 2, _, _ => by kernel_rfl
  | 3, _, _ => by kernel_rfl
  | 4, _, _ => by kernel_rfl
  | 5, _, _ => by kernel_rfl
  | 6, _, _ => by kernel_rfl
  | 7, _, _ => by kernel_rfl
theorem ptr_at (Q : Nat → Option Addr) (k : Nat) (hk : k < 8) : ∀ w, (Instr.index 108 (.agg #[.pointer (Q 0), .pointer (Q 1), .pointer (Q 2), .pointer (Q 3), .pointer (Q 4), .pointer (Q 5), .pointer (Q 6), .pointer (Q 7)]) (.int .i64 k)).run Try.prog w = .ok (.pointer (Q k)) w := by
  intro w
  rw [ptr_at8 _ _ _ _ _ _ _ _ k hk w]
  rcases eight hk with h | h | h | h | h | h | h | h <;> subst h <;> rfl

theorem at1_any (pb : Nat) (lb : Nat → Nat) (L : Nat → Option Ln) (k pa pp : Nat) (asid page : Int) (w : World) (h : TlbIn w pb lb L) (hk : k < 8) (c0 : w.cell? ⟨pa, 0, none⟩ = some (.int .i64 asid)) (c1 : w.cell? ⟨pp, 0, none⟩ = some (.int .i64 page)) :
    Calls Try.prog 81 #[.pointer (ptrOf lb L k), .pointer (some ⟨pa, 0, none⟩), .pointer (some ⟨pp, 0, none⟩)] w fun e w' => e = .returned (.bool (isB asid page (L k))) ∧ ∃ q, w' = w.drewN q := by
  unfold ptrOf
  cases hl : L k with
  | none => exact at1_none _ _ asid page w
  | some l =>
    obtain ⟨_, _, _, h0, h1, _⟩ := h.some_ k l hk hl
    exact at1_some _ _ _ l.a l.p asid page w h0 h1 c0 c1

/-- The first place that a function takes. -/
def firstI (T : Nat → Bool) : Nat → Nat → Int
  | 0, _ => -1
  | n + 1, i => if T i then i else firstI T n (i + 1)
theorem firstI_skip (T : Nat → Bool) : ∀ (k : Nat), k ≤ 8 → (∀ j, j < k → T j = false) → firstI T 8 0 = firstI T (8 - k) k
  | 0, _, _ => rfl
  | k + 1, hk, h => by
    rw [firstI_skip T k (by omega) (fun j hj => h j (by omega))]
    obtain ⟨q, hq⟩ : ∃ q, 8 - k = q + 1 := ⟨8 - k - 1, by omega⟩
    rw [hq, show 8 - (k + 1) = q by omega]
    simp only [firstI]
    rw [h k (by omega)]; simp

set_option maxRecDepth 100000 in
theorem first_at (pb : Nat) (lb : Nat → Nat) (L : Nat → Option Ln) (pa pp : Nat) (asid page : Int) (w : World) (h : TlbIn w pb lb L) (c0 : w.cell? ⟨pa, 0, none⟩ = some (.int .i64 asid)) (c1 : w.cell? ⟨pp, 0, none⟩ = some (.int .i64 page)) :
    Calls Try.prog 54 #[.pointer (some ⟨pb, 0, none⟩), .func (.func 81) #[] #[.pointer (some ⟨pa, 0, none⟩), .pointer (some ⟨pp, 0, none⟩)]] w fun e w' => e = .returned (.int .i64 (firstI (fun i => isB asid page (L i)) 8 0)) ∧ ∃ q, w' = w.drewN q := by
  have q0 := h.ptr 0 (by omega)
  have q1 := h.ptr 1 (by omega)
  have q2 := h.ptr 2 (by omega)
  have q3 := h.ptr 3 (by omega)
  have q4 := h.ptr 4 (by omega)
  have q5 := h.ptr 5 (by omega)
  have q6 := h.ptr 6 (by omega)
  have q7 := h.ptr 7 (by omega)
  obtain ⟨Q, hQ⟩ : ∃ Q, Q = ptrOf lb L := ⟨_, rfl⟩
  rw [← hQ] at q0 q1 q2 q3 q4 q5 q6 q7
  have HQ := Lib.hid hQ
  clear hQ
  go_enter Try.func54, Try.ntmps54
  go_wp2_with (fail)
  go_loopw [11] (fun i wr => ∃ (k q : Nat), k ≤ 8 ∧ i = .int .i64 k ∧ Hid (∀ j, j < k → isB asid page (L j) = false) ∧ wr = w.drewN q) (fun i _ => 8 - (intOf i).toNat)
  case atStart => exact ⟨0, 0, by omega, rfl, Lib.hid (fun j hj => by omega), rfl⟩
  case round =>
    obtain ⟨k, q, hk, rfl, HK, rfl⟩ := hrel
    by_cases hlt : k < 8
    · have hix := ptr_at Q k hlt
      go_wp2_with (fail)
      have hat := at1_any pb lb L k pa pp asid page _ (h.touch (S := fun _ => False) (Touch.drewN (Touch.refl _ _) q) id (fun _ _ _ _ => id)) hlt c0 c1
      rw [← HQ.out] at hat
      refine hat.mono ?_
      clear hat
      rintro e w' ⟨rfl, q', rfl⟩
      cases hb : isB asid page (L k)
      · have HB := Lib.hid hb
        clear hb
        go_wp2_with (fail)
        go_roundw
        case rel =>
          have HK' : ∀ j, j < k + 1 → isB asid page (L j) = false := fun j hj => by
            by_cases e : j = k
            · rw [e]; exact HB.out
            · exact HK.out j (by omega)
          exact ⟨k + 1, _, by omega, by go_num, Lib.hid HK', rfl⟩
        case measure => simp [intOf]; omega
      · have hf : firstI (fun i => isB asid page (L i)) 8 0 = k := by
          rw [firstI_skip _ k hk HK.out]
          obtain ⟨q, hq⟩ : ∃ q, 8 - k = q + 1 := ⟨8 - k - 1, by omega⟩
          rw [hq]; simp [firstI, hb]
        have HF := Lib.hid hf
        clear hb hf
        go_wp2_with (fail)
        go_ret
        exact ⟨by rw [HF.out]; rfl, _, rfl⟩
    · have hk8 : k = 8 := by omega
      have hf : firstI (fun i => isB asid page (L i)) 8 0 = -1 := by
        rw [firstI_skip _ k hk HK.out, hk8]; rfl
      have HF := Lib.hid hf
      clear hf
      go_wp2_with (fail)
      go_ret
      exact ⟨by rw [HF.out]; rfl, _, rfl⟩

/-! ### at, Find -/
def tAt (L : Nat → Option Ln) (a p : Int) : Int := firstI (fun i => isB a p (L i)) 8 0
def tFree (L : Nat → Option Ln) : Int := firstI (fun i => (L i).isNone) 8 0
theorem firstI_spec (T : Nat → Bool) : (firstI T 8 0 = -1 ∧ ∀ j, j < 8 → T j = false) ∨ ∃ k, k < 8 ∧ firstI T 8 0 = (k : Nat) ∧ T k = true ∧ ∀ j, j < k → T j = false := by
  have : ∀ n i, (firstI T n i = -1 ∧ ∀ j, i ≤ j → j < i + n → T j = false) ∨ ∃ k, i ≤ k ∧ k < i + n ∧ firstI T n i = (k : Nat) ∧ T k = true ∧ ∀ j, i ≤ j → j < k → T j = false := by
    intro n
    induction n with
    | zero => intro i; exact Or.inl ⟨rfl, fun j h1 h2 => by omega⟩
    | succ n ih =>
      intro i
      unfold firstI
      cases hT : T i
      · rcases ih (i + 1) with ⟨h1, h2⟩ | ⟨k, h1, h2, h3, h4, h5⟩
        · refine Or.inl ⟨by simpa using h1, fun j h3 h4 => ?_⟩
          rcases Nat.eq_or_lt_of_le h3 with e | e
          · rw [← e]; exact hT
          · exact h2 j e (by omega)
        · refine Or.inr ⟨k, by omega, by omega, by simpa using h3, h4, fun j h6 h7 => ?_⟩
          rcases Nat.eq_or_lt_of_le h6 with e | e
          · rw [← e]; exact hT
          · exact h5 j e h7
      · exact Or.inr ⟨i, by omega, by omega, by simp, hT, fun j h1 h2 => by omega⟩
  rcases this 8 0 with ⟨h1, h2⟩ | ⟨k, h1, h2, h3, h4, h5⟩
  · exact Or.inl ⟨h1, fun j hj => h2 j (by omega) (by omega)⟩
  · exact Or.inr ⟨k, by omega, h3, h4, fun j hj => h5 j (by omega) hj⟩

theorem tlb_at (pb : Nat) (lb : Nat → Nat) (L : Nat → Option Ln) (a p r : Int) (w : World) (h : TlbIn w pb lb L) (hr : tAt L a p = r) :
    Calls Try.prog 53 #[.pointer (some ⟨pb, 0, none⟩), .int .i64 a, .int .i64 p] w fun e w' => e = .returned (.int .i64 r) ∧ Below w.heap.size w w' := by
  have HR := Lib.hid hr
  clear hr
  go_enter Try.func53, Try.ntmps53
  go_wp2_with (fail)
  refine (first_at pb lb L _ _ a p _ (h.below (by repeat (first | with_reducible exact Below.refl _ _ | with_reducible assumption | with_reducible refine below_drewN ?_ _ | with_reducible refine Below.alloc ?_ (by simp <;> omega) _))) (by simp [go_sem]) (by simp [go_sem])).mono ?_
  rintro e w' ⟨rfl, q, rfl⟩
  rw [show firstI (fun i => isB a p (L i)) 8 0 = r from HR.out]
  go_wp2_with (fail)
  go_ret
  exact ⟨rfl, by repeat (first | with_reducible exact Below.refl _ _ | with_reducible assumption | with_reducible refine below_drewN ?_ _ | with_reducible refine Below.alloc ?_ (by simp <;> omega) _)⟩

/-- The line of a page of an address space. -/
def tFind (L : Nat → Option Ln) (a p : Int) : Option Ln := if tAt L a p < 0 then none else L (tAt L a p).toNat
def lnV : Option Ln → Value
  | none => .agg #[.int .i64 0, .int .i64 0, .int .i64 0, .bool false]
  | some l => .agg #[.int .i64 l.a, .int .i64 l.p, .int .i64 l.f, .bool l.w]
theorem tAt_cases (L : Nat → Option Ln) (a p : Int) : (tAt L a p = -1 ∧ tFind L a p = none) ∨ ∃ k l, k < 8 ∧ tAt L a p = (k : Nat) ∧ L k = some l ∧ l.a = a ∧ l.p = p ∧ tFind L a p = some l := by
  rcases firstI_spec (fun i => isB a p (L i)) with ⟨h1, _⟩ | ⟨k, h1, h2, h3, _⟩
  · exact Or.inl ⟨h1, by unfold tFind; rw [show tAt L a p = -1 from h1]; rfl⟩
  · cases hl : L k with
    | none => rw [hl] at h3; cases h3
    | some l =>
      rw [hl] at h3
      have h4 : l.a = a ∧ l.p = p := by simpa [isB] using h3
      refine Or.inr ⟨k, l, h1, h2, hl, h4.1, h4.2, ?_⟩
      unfold tFind; rw [show tAt L a p = (k : Nat) from h2, if_neg (by omega)]
      simpa using hl

theorem tlb_find (pb : Nat) (lb : Nat → Nat) (L : Nat → Option Ln) (a p : Int) (w : World) (h : TlbIn w pb lb L) :
    Calls Try.prog 82 #[.pointer (some ⟨pb, 0, none⟩), .int .i64 a, .int .i64 p] w fun e w' => e = .returned (.tuple #[lnV (tFind L a p), .bool (tFind L a p).isSome]) ∧ Below w.heap.size w w' := by
  have h1 := h.below (w' := w.alloc (.cells #[.int .i64 0, .int .i64 0, .int .i64 0, .bool false] 41)) (by repeat (first | with_reducible exact Below.refl _ _ | with_reducible assumption | with_reducible refine below_drewN ?_ _ | with_reducible refine Below.alloc ?_ (by simp <;> omega) _))
  rcases tAt_cases L a p with ⟨e1, e2⟩ | ⟨k, l, hk, e1, hl, rfl, rfl, e2⟩
  · rw [e2]
    go_enter Try.func82, Try.ntmps82
    go_wp2_with (fail)
    refine (tlb_at pb lb L _ _ _ _ h1 e1).mono ?_
    rintro e w1 ⟨rfl, hb⟩
    obtain ⟨hc, hf⟩ := bcell hb
    have hz : w.heap.size < w1.heap.size := by have := hb.size; simp at this; omega
    go_wp2_with (fail)
    refine bodyPost_ret (v := .tuple #[.agg #[.int .i64 0, .int .i64 0, .int .i64 0, .bool false], .bool false]) (by simp [results, Try.results82, go_sem, hz, hc]) rfl ⟨rfl, ?_⟩
    have kb : Below w.heap.size w w1 := (Below.alloc (Below.refl _ _) (Nat.le_refl _) _).trans (hb.mono (by simp))
    repeat (first | with_reducible exact kb | with_reducible refine Below.setCell ?_ (by simp) _ | with_reducible refine Below.alloc ?_ (by omega) _)
  · rw [e2]
    go_enter Try.func82, Try.ntmps82
    go_wp2_with (fail)
    refine (tlb_at pb lb L _ _ _ _ h1 e1).mono ?_
    rintro e w1 ⟨rfl, hb⟩
    have hz : w.heap.size < w1.heap.size := by have := hb.size; simp at this; omega
    have kb : Below w.heap.size w w1 := (Below.alloc (Below.refl _ _) (Nat.le_refl _) _).trans (hb.mono (by simp))
    have h2 := h.below kb
    have hs := h2.some_ k l hk hl
    obtain ⟨s1, s2, s3, s4, s5, s6, s7⟩ := hs
    have hbl : ¬ lb k = w.heap.size := by have := (h.some_ k l hk hl).2.1; omega
    obtain ⟨hc, hf⟩ := bcell hb
    clear hc
    have c0 : w1.cell? ⟨w.heap.size, 0, none⟩ = some (.int .i64 0) := keep hb (by simp) (by simp [go_sem])
    have c1 : w1.cell? ⟨w.heap.size, 1, none⟩ = some (.int .i64 0) := keep hb (by simp) (by simp [go_sem])
    have c2 : w1.cell? ⟨w.heap.size, 2, none⟩ = some (.int .i64 0) := keep hb (by simp) (by simp [go_sem])
    have c3 : w1.cell? ⟨w.heap.size, 3, none⟩ = some (.bool false) := keep hb (by simp) (by simp [go_sem])
    go_wp2_with (fail)
    refine bodyPost_ret (v := .tuple #[.agg #[.int .i64 l.a, .int .i64 l.p, .int .i64 l.f, .bool l.w], .bool true]) (by simp [results, Try.results82, go_sem, hz, c0, c1, c2, c3]) rfl ⟨rfl, ?_⟩
    repeat (first | with_reducible exact kb | with_reducible refine Below.setCell ?_ (by simp) _ | with_reducible refine Below.alloc ?_ (by omega) _)

/-! ### Put -/
def rightL (l : Ln) : Bool := decide (1 ≤ l.a) && decide (l.a ≤ 8) && decide (0 ≤ l.p) && decide (l.p < 4096) && decide (0 ≤ l.f) && decide (l.f < 256)
theorem tlb_right (l : Ln) (w : World) :
    Calls Try.prog 52 #[lnV (some l)] w fun e w' => e = .returned (.bool (rightL l)) ∧ ∃ o, w' = w.alloc o := by
  unfold lnV
  go_enter Try.func52, Try.ntmps52
  go_wp2 <;> go_ret <;> exact ⟨by first | (simp [rightL, *]; done) | (simp [rightL]; omega), _, rfl⟩

theorem put1_any (p : Option Addr) (w : World) :
    Calls Try.prog 55 #[.pointer p] w fun e w' => e = .returned (.bool p.isNone) ∧ w = w' := by
  cases p
  · go_enter Try.func55, Try.ntmps55
    go_wp2_with (fail)
    go_ret
    exact ⟨rfl, rfl⟩
  · go_enter Try.func55, Try.ntmps55
    go_wp2_with (fail)
    go_ret
    exact ⟨rfl, rfl⟩

theorem first_free (pb : Nat) (lb : Nat → Nat) (L : Nat → Option Ln) (r : Int) (w : World) (h : TlbIn w pb lb L) (hr : tFree L = r) :
    Calls Try.prog 54 #[.pointer (some ⟨pb, 0, none⟩), .func (.func 55) #[] #[]] w fun e w' => e = .returned (.int .i64 r) ∧ w = w' := by
  have q0 := h.ptr 0 (by omega)
  have q1 := h.ptr 1 (by omega)
  have q2 := h.ptr 2 (by omega)
  have q3 := h.ptr 3 (by omega)
  have q4 := h.ptr 4 (by omega)
  have q5 := h.ptr 5 (by omega)
  have q6 := h.ptr 6 (by omega)
  have q7 := h.ptr 7 (by omega)
  have HR := Lib.hid hr
  clear hr
  obtain ⟨Q, hQ⟩ : ∃ Q, Q = ptrOf lb L := ⟨_, rfl⟩
  rw [← hQ] at q0 q1 q2 q3 q4 q5 q6 q7
  have hQn : ∀ k, (Q k).isNone = (L k).isNone := fun k => by rw [hQ]; unfold ptrOf; cases L k <;> rfl
  have HQ := Lib.hid hQn
  clear hQ hQn
  go_enter Try.func54, Try.ntmps54
  go_wp2_with (fail)
  go_loop [11] (fun i => ∃ (k : Nat), k ≤ 8 ∧ i = .int .i64 k ∧ Hid (∀ j, j < k → (L j).isNone = false)) (fun i => 8 - (intOf i).toNat)
  case atStart => exact ⟨0, by omega, rfl, Lib.hid (fun j hj => by omega)⟩
  case round =>
    obtain ⟨k, hk, rfl, HK⟩ := hrel
    by_cases hlt : k < 8
    · have hix := ptr_at Q k hlt
      go_wp2_with (fail)
      refine (put1_any (Q k) _).mono ?_
      rintro e w' ⟨rfl, rfl⟩
      rw [HQ.out k]
      cases hb : (L k).isNone
      · have HB := Lib.hid hb
        clear hb
        go_wp2_with (fail)
        go_round
        case rel =>
          have HK' : ∀ j, j < k + 1 → (L j).isNone = false := fun j hj => by
            by_cases e : j = k
            · rw [e]; exact HB.out
            · exact HK.out j (by omega)
          exact ⟨k + 1, by omega, by go_num, Lib.hid HK'⟩
        case measure => simp [intOf]; omega
      · have hf : tFree L = k := by
          unfold tFree
          rw [firstI_skip _ k hk HK.out]
          obtain ⟨q, hq⟩ : ∃ q, 8 - k = q + 1 := ⟨8 - k - 1, by omega⟩
          rw [hq]; simp only [firstI]; rw [if_pos hb]
        have HF := Lib.hid (HR.out.symm.trans hf)
        clear hb hf
        go_wp2_with (fail)
        go_ret
        exact ⟨by rw [HF.out]; rfl, rfl⟩
    · have hk8 : k = 8 := by omega
      have hf : tFree L = -1 := by
        unfold tFree
        rw [firstI_skip _ k hk HK.out, hk8]; rfl
      have HF := Lib.hid (HR.out.symm.trans hf)
      clear hf
      go_wp2_with (fail)
      go_ret
      exact ⟨by rw [HF.out]; rfl, rfl⟩

theorem TlbIn.put {w : World} {pb : Nat} {lb : Nat → Nat} {L : Nat → Option Ln} (h : TlbIn w pb lb L) (k : Nat) (hk : k < 8) (nb : Nat) (l : Ln) (hne : nb ≠ pb) (hnb : nb < w.heap.size)
    (c0 : w.cell? ⟨nb, 0, none⟩ = some (.int .i64 l.a)) (c1 : w.cell? ⟨nb, 1, none⟩ = some (.int .i64 l.p)) (c2 : w.cell? ⟨nb, 2, none⟩ = some (.int .i64 l.f)) (c3 : w.cell? ⟨nb, 3, none⟩ = some (.bool l.w)) :
    TlbIn (w.setCell ⟨pb, k, none⟩ (.pointer (some ⟨nb, 0, none⟩))) pb (fun i => if i = k then nb else lb i) (fun i => if i = k then some l else L i) := by
  have hc := h.ptr k hk
  have ht : Touch (· = pb) w (w.setCell ⟨pb, k, none⟩ (.pointer (some ⟨nb, 0, none⟩))) := Touch.setCell (S := (· = pb)) (Touch.refl _ _) (Or.inl rfl) _
  have hoth : ∀ i, i ≠ k → (w.setCell ⟨pb, k, none⟩ (.pointer (some ⟨nb, 0, none⟩))).cell? ⟨pb, i, none⟩ = w.cell? ⟨pb, i, none⟩ := fun i hi => by
    have : (⟨pb, i, none⟩ : Addr) ≠ ⟨pb, k, none⟩ := by simp [hi]
    simp [go_sem, hi, this]
  refine ⟨fun i hi hl => ?_, fun i m hi hl => ?_, fun i hi => by simpa [go_sem] using h.free i hi, Nat.lt_of_lt_of_le h.lt ht.size⟩
  · by_cases e : i = k
    · rw [if_pos e] at hl; cases hl
    · rw [if_neg e] at hl; rw [hoth i e]; exact h.none_ i hi hl
  · by_cases e : i = k
    · rw [if_pos e] at hl; cases hl
      simp only [e, if_true]
      refine ⟨by simp [go_sem, hc], Nat.lt_of_lt_of_le hnb ht.size, hne, keepT ht hnb hne c0, keepT ht hnb hne c1, keepT ht hnb hne c2, keepT ht hnb hne c3⟩
    · rw [if_neg e] at hl
      simp only [e, if_false]
      obtain ⟨s1, s2, s3, s4, s5, s6, s7⟩ := h.some_ i m hi hl
      exact ⟨by rw [hoth i e]; exact s1, Nat.lt_of_lt_of_le s2 ht.size, s3, keepT ht s2 s3 s4, keepT ht s2 s3 s5, keepT ht s2 s3 s6, keepT ht s2 s3 s7⟩
theorem TlbIn.drop {w : World} {pb : Nat} {lb : Nat → Nat} {L : Nat → Option Ln} (h : TlbIn w pb lb L) (k : Nat) (hk : k < 8) :
    TlbIn (w.setCell ⟨pb, k, none⟩ (.pointer none)) pb lb (fun i => if i = k then none else L i) := by
  have hc := h.ptr k hk
  have ht : Touch (· = pb) w (w.setCell ⟨pb, k, none⟩ (.pointer none)) := Touch.setCell (S := (· = pb)) (Touch.refl _ _) (Or.inl rfl) _
  have hoth : ∀ i, i ≠ k → (w.setCell ⟨pb, k, none⟩ (.pointer none)).cell? ⟨pb, i, none⟩ = w.cell? ⟨pb, i, none⟩ := fun i hi => by
    have : (⟨pb, i, none⟩ : Addr) ≠ ⟨pb, k, none⟩ := by simp [hi]
    simp [go_sem, hi, this]
  refine ⟨fun i hi hl => ?_, fun i m hi hl => ?_, fun i hi => by simpa [go_sem] using h.free i hi, Nat.lt_of_lt_of_le h.lt ht.size⟩
  · by_cases e : i = k
    · rw [e]; simp [go_sem, hc]
    · rw [if_neg e] at hl; rw [hoth i e]; exact h.none_ i hi hl
  · by_cases e : i = k
    · rw [if_pos e] at hl; cases hl
    · rw [if_neg e] at hl
      obtain ⟨s1, s2, s3, s4, s5, s6, s7⟩ := h.some_ i m hi hl
      exact ⟨by rw [hoth i e]; exact s1, Nat.lt_of_lt_of_le s2 ht.size, s3, keepT ht s2 s3 s4, keepT ht s2 s3 s5, keepT ht s2 s3 s6, keepT ht s2 s3 s7⟩

/-- Where a line goes. -/
def tPlace (L : Nat → Option Ln) (l : Ln) (at_ : Int) : Int := if 0 ≤ tAt L l.a l.p then tAt L l.a l.p else if 0 ≤ tFree L then tFree L else at_
theorem tlb_put_go (pb : Nat) (lb : Nat → Nat) (L : Nat → Option Ln) (l : Ln) (at_ : Int) (k : Nat) (w : World) (h : TlbIn w pb lb L) (hr : rightL l = true) (h0 : 0 ≤ at_) (h1 : at_ < 8) (hk : k < 8) (hp : tPlace L l at_ = k) :
    Calls Try.prog 21 #[.pointer (some ⟨pb, 0, none⟩), lnV (some l), .int .i64 at_] w fun e w' => e = .returned (.int .i64 0) ∧ TlbIn w' pb (fun i => if i = k then w.heap.size else lb i) (fun i => if i = k then some l else L i) ∧ w.heap.size < w'.heap.size ∧ Touch (· = pb) w w' := by
  have hlt := h.lt
  have hne : ¬ pb = w.heap.size := by omega
  have fin : ∀ w2, Below w.heap.size w w2 → w.heap.size < w2.heap.size → w2.cell? ⟨w.heap.size, 0, none⟩ = some (.int .i64 l.a) → w2.cell? ⟨w.heap.size, 1, none⟩ = some (.int .i64 l.p) → w2.cell? ⟨w.heap.size, 2, none⟩ = some (.int .i64 l.f) → w2.cell? ⟨w.heap.size, 3, none⟩ = some (.bool l.w) →
      TlbIn (w2.setCell ⟨pb, k, none⟩ (.pointer (some ⟨w.heap.size, 0, none⟩))) pb (fun i => if i = k then w.heap.size else lb i) (fun i => if i = k then some l else L i) ∧ w.heap.size < (w2.setCell ⟨pb, k, none⟩ (.pointer (some ⟨w.heap.size, 0, none⟩))).heap.size ∧ Touch (· = pb) w (w2.setCell ⟨pb, k, none⟩ (.pointer (some ⟨w.heap.size, 0, none⟩))) := fun w2 hb hz c0 c1 c2 c3 =>
    ⟨(h.below hb).put k hk w.heap.size l (fun e => hne e.symm) hz c0 c1 c2 c3, by simpa using hz, Touch.setCell (S := (· = pb)) (Touch.of_below hb) (Or.inl rfl) _⟩
  have HF := Lib.hid fin
  have hkk : (0 : Int) ≤ (k : Int) ∧ (k : Int) < 8 := by omega
  obtain ⟨k0, k1⟩ := hkk
  rcases firstI_spec (fun i => isB l.a l.p (L i)) with ⟨e1, _⟩ | ⟨j, hj, e1, _, _⟩
  · have e1' : tAt L l.a l.p = -1 := e1
    clear e1
    unfold tPlace at hp
    rw [e1', if_neg (by omega)] at hp
    rcases firstI_spec (fun i => (L i).isNone) with ⟨e2, _⟩ | ⟨j, hj, e2, _, _⟩
    · have e2' : tFree L = -1 := e2
      clear e2
      rw [e2', if_neg (by omega)] at hp
      subst hp
      clear fin
      unfold lnV
      go_enter Try.func21, Try.ntmps21
      go_wp2_with (fail)
      refine (tlb_right l _).mono ?_
      rintro e w1 ⟨rfl, o, rfl⟩
      rw [hr]
      go_wp2_with (fail)
      refine (tlb_at pb lb L l.a l.p _ _ (h.below (by repeat (first | with_reducible exact Below.refl _ _ | with_reducible assumption | with_reducible refine below_drewN ?_ _ | with_reducible refine Below.alloc ?_ (by simp <;> omega) _))) e1').mono ?_
      rintro e w2 ⟨rfl, hb⟩
      have kb : Below w.heap.size w w2 := (Below.alloc (Below.alloc (Below.refl _ _) (Nat.le_refl _) _) (by simp) _).trans (hb.mono (by simp; omega))
      have hz : w.heap.size < w2.heap.size := by have := hb.size; simp at this; omega
      have c0 : w2.cell? ⟨w.heap.size, 0, none⟩ = some (.int .i64 l.a) := keep hb (by simp; omega) (by simp [go_sem])
      have c1 : w2.cell? ⟨w.heap.size, 1, none⟩ = some (.int .i64 l.p) := keep hb (by simp; omega) (by simp [go_sem])
      have c2 : w2.cell? ⟨w.heap.size, 2, none⟩ = some (.int .i64 l.f) := keep hb (by simp; omega) (by simp [go_sem])
      have c3 : w2.cell? ⟨w.heap.size, 3, none⟩ = some (.bool l.w) := keep hb (by simp; omega) (by simp [go_sem])
      have h2 := h.below kb
      have hfz := h2.free k hk
      have hcc := h2.ptr k hk
      go_wp2_with (fail)
      refine (first_free pb lb L _ _ h2 e2').mono ?_
      rintro e w3 ⟨rfl, rfl⟩
      go_wp2_with (fail)
      go_ret
      exact ⟨rfl, HF.out w2 kb hz c0 c1 c2 c3⟩
    · have e2' : tFree L = (j : Nat) := e2
      clear e2
      rw [e2', if_pos (by omega)] at hp
      obtain rfl : j = k := by omega
      clear fin hp
      unfold lnV
      go_enter Try.func21, Try.ntmps21
      go_wp2_with (fail)
      refine (tlb_right l _).mono ?_
      rintro e w1 ⟨rfl, o, rfl⟩
      rw [hr]
      go_wp2_with (fail)
      refine (tlb_at pb lb L l.a l.p _ _ (h.below (by repeat (first | with_reducible exact Below.refl _ _ | with_reducible assumption | with_reducible refine below_drewN ?_ _ | with_reducible refine Below.alloc ?_ (by simp <;> omega) _))) e1').mono ?_
      rintro e w2 ⟨rfl, hb⟩
      have kb : Below w.heap.size w w2 := (Below.alloc (Below.alloc (Below.refl _ _) (Nat.le_refl _) _) (by simp) _).trans (hb.mono (by simp; omega))
      have hz : w.heap.size < w2.heap.size := by have := hb.size; simp at this; omega
      have c0 : w2.cell? ⟨w.heap.size, 0, none⟩ = some (.int .i64 l.a) := keep hb (by simp; omega) (by simp [go_sem])
      have c1 : w2.cell? ⟨w.heap.size, 1, none⟩ = some (.int .i64 l.p) := keep hb (by simp; omega) (by simp [go_sem])
      have c2 : w2.cell? ⟨w.heap.size, 2, none⟩ = some (.int .i64 l.f) := keep hb (by simp; omega) (by simp [go_sem])
      have c3 : w2.cell? ⟨w.heap.size, 3, none⟩ = some (.bool l.w) := keep hb (by simp; omega) (by simp [go_sem])
      have h2 := h.below kb
      have hfz := h2.free j hk
      have hcc := h2.ptr j hk
      go_wp2_with (fail)
      refine (first_free pb lb L _ _ h2 e2').mono ?_
      rintro e w3 ⟨rfl, rfl⟩
      go_wp2_with (fail)
      go_ret
      exact ⟨rfl, HF.out w2 kb hz c0 c1 c2 c3⟩
  · have e1' : tAt L l.a l.p = (j : Nat) := e1
    clear e1
    unfold tPlace at hp
    rw [e1', if_pos (by omega)] at hp
    obtain rfl : j = k := by omega
    clear fin hp
    unfold lnV
    go_enter Try.func21, Try.ntmps21
    go_wp2_with (fail)
    refine (tlb_right l _).mono ?_
    rintro e w1 ⟨rfl, o, rfl⟩
    rw [hr]
    go_wp2_with (fail)
    refine (tlb_at pb lb L l.a l.p _ _ (h.below (by repeat (first | with_reducible exact Below.refl _ _ | with_reducible assumption | with_reducible refine below_drewN ?_ _ | with_reducible refine Below.alloc ?_ (by simp <;> omega) _))) e1').mono ?_
    rintro e w2 ⟨rfl, hb⟩
    have kb : Below w.heap.size w w2 := (Below.alloc (Below.alloc (Below.refl _ _) (Nat.le_refl _) _) (by simp) _).trans (hb.mono (by simp; omega))
    have hz : w.heap.size < w2.heap.size := by have := hb.size; simp at this; omega
    have c0 : w2.cell? ⟨w.heap.size, 0, none⟩ = some (.int .i64 l.a) := keep hb (by simp; omega) (by simp [go_sem])
    have c1 : w2.cell? ⟨w.heap.size, 1, none⟩ = some (.int .i64 l.p) := keep hb (by simp; omega) (by simp [go_sem])
    have c2 : w2.cell? ⟨w.heap.size, 2, none⟩ = some (.int .i64 l.f) := keep hb (by simp; omega) (by simp [go_sem])
    have c3 : w2.cell? ⟨w.heap.size, 3, none⟩ = some (.bool l.w) := keep hb (by simp; omega) (by simp [go_sem])
    have h2 := h.below kb
    have hfz := h2.free j hk
    have hcc := h2.ptr j hk
    go_wp2_with (fail)
    go_ret
    exact ⟨rfl, HF.out w2 kb hz c0 c1 c2 c3⟩

theorem tlb_put_no (pb : Nat) (L : Nat → Option Ln) (l : Ln) (at_ : Int) (w : World) (hr : ¬ (rightL l = true ∧ 0 ≤ at_ ∧ at_ < 8)) :
    Calls Try.prog 21 #[.pointer (some ⟨pb, 0, none⟩), lnV (some l), .int .i64 at_] w fun e w' => e = .returned (.int .i64 1) ∧ Below w.heap.size w w' := by
  have hh : rightL l = false ∨ (rightL l = true ∧ at_ < 0) ∨ (rightL l = true ∧ ¬ at_ < 0 ∧ 8 ≤ at_) := by
    cases h : rightL l
    · exact Or.inl rfl
    · by_cases q : at_ < 0
      · exact Or.inr (Or.inl ⟨rfl, q⟩)
      · have q' : ¬ at_ < 8 := fun q' => hr ⟨h, by omega, q'⟩
        exact Or.inr (Or.inr ⟨rfl, q, by omega⟩)
  clear hr
  unfold lnV
  rcases hh with h | ⟨h, h'⟩ | ⟨h, h', h''⟩
  all_goals
    go_enter Try.func21, Try.ntmps21
    go_wp2_with (fail)
    refine (tlb_right l _).mono ?_
    rintro e w1 ⟨rfl, o, rfl⟩
    rw [h]
    go_wp2_with (fail)
    go_ret
    exact ⟨rfl, by repeat (first | with_reducible exact Below.refl _ _ | with_reducible assumption | with_reducible refine below_drewN ?_ _ | with_reducible refine Below.alloc ?_ (by simp <;> omega) _)⟩

/-! ### drop: Flush, Drop -/
theorem flush1_any (l : Ln) (pa : Nat) (asid : Int) (w : World) (hpa : pa < w.heap.size) (c0 : w.cell? ⟨pa, 0, none⟩ = some (.int .i64 asid)) :
    Calls Try.prog 51 #[lnV (some l), .pointer (some ⟨pa, 0, none⟩)] w fun e w' => e = .returned (.bool (l.a == asid)) ∧ Below w.heap.size w w' := by
  have hne : ¬ pa = w.heap.size := by omega
  unfold lnV
  go_enter Try.func51, Try.ntmps51
  go_wp2_with (fail)
  go_ret
  exact ⟨rfl, by repeat (first | with_reducible exact Below.refl _ _ | with_reducible assumption | with_reducible refine below_drewN ?_ _ | with_reducible refine Below.alloc ?_ (by simp <;> omega) _)⟩

/-- The lines with those that T takes among the first k left out; how many these are. -/
def dropL (T : Ln → Bool) (L : Nat → Option Ln) (k : Nat) : Nat → Option Ln := fun i => if i < k then (L i).filter (fun l => !T l) else L i
def dropN (T : Ln → Bool) (L : Nat → Option Ln) : Nat → Nat
  | 0 => 0
  | k + 1 => dropN T L k + (if (L k).any T then 1 else 0)
theorem dropN_le (T : Ln → Bool) (L : Nat → Option Ln) : ∀ k, dropN T L k ≤ k
  | 0 => Nat.le_refl _
  | k + 1 => by have := dropN_le T L k; unfold dropN; split <;> omega
theorem dropL_zero (T : Ln → Bool) (L : Nat → Option Ln) : dropL T L 0 = L := by funext i; simp [dropL]
theorem dropL_keep (T : Ln → Bool) (L : Nat → Option Ln) (k : Nat) (h : (L k).any T = false) : dropL T L (k + 1) = dropL T L k := by
  funext i
  unfold dropL
  by_cases e : i = k
  · subst e
    rw [if_pos (by omega), if_neg (by omega)]
    cases hl : L i with
    | none => rfl
    | some l => rw [hl] at h; simp at h; simp [Option.filter, h]
  · by_cases e2 : i < k
    · rw [if_pos (by omega), if_pos e2]
    · rw [if_neg (by omega), if_neg e2]
theorem dropL_drop (T : Ln → Bool) (L : Nat → Option Ln) (k : Nat) (h : (L k).any T = true) : dropL T L (k + 1) = fun i => if i = k then none else dropL T L k i := by
  funext i
  unfold dropL
  by_cases e : i = k
  · subst e
    rw [if_pos (by omega), if_pos rfl]
    cases hl : L i with
    | none => rfl
    | some l => rw [hl] at h; simp at h; simp [Option.filter, h]
  · rw [if_neg e]
    by_cases e2 : i < k
    · rw [if_pos (by omega), if_pos e2]
    · rw [if_neg (by omega), if_neg e2]

theorem drop_flush (pb : Nat) (lb : Nat → Nat) (L : Nat → Option Ln) (pa : Nat) (asid : Int) (w : World) (h : TlbIn w pb lb L) (hpa : pa < w.heap.size) (hne : pa ≠ pb) (c0 : w.cell? ⟨pa, 0, none⟩ = some (.int .i64 asid)) :
    Calls Try.prog 50 #[.pointer (some ⟨pb, 0, none⟩), .func (.func 51) #[] #[.pointer (some ⟨pa, 0, none⟩)]] w fun e w' => e = .returned (.int .i64 (dropN (fun l => l.a == asid) L 8)) ∧ TlbIn w' pb lb (dropL (fun l => l.a == asid) L 8) ∧ Touch (· = pb) w w' := by
  have q0 := h.ptr 0 (by omega)
  have q1 := h.ptr 1 (by omega)
  have q2 := h.ptr 2 (by omega)
  have q3 := h.ptr 3 (by omega)
  have q4 := h.ptr 4 (by omega)
  have q5 := h.ptr 5 (by omega)
  have q6 := h.ptr 6 (by omega)
  have q7 := h.ptr 7 (by omega)
  obtain ⟨Q, hQ⟩ : ∃ Q, Q = ptrOf lb L := ⟨_, rfl⟩
  rw [← hQ] at q0 q1 q2 q3 q4 q5 q6 q7
  have HQ := Lib.hid hQ
  clear hQ
  obtain ⟨T, hT⟩ : ∃ T : Ln → Bool, T = fun l => l.a == asid := ⟨_, rfl⟩
  rw [← hT]
  have HT := Lib.hid hT
  clear hT
  go_enter Try.func50, Try.ntmps50
  go_wp2_with (fail)
  go_loopw [5, 12] (fun n i wr => ∃ (k : Nat), k ≤ 8 ∧ i = .int .i64 k ∧ n = .int .i64 (dropN T L k) ∧ TlbIn wr pb lb (dropL T L k) ∧ Touch (· = pb) w wr) (fun _ i _ => 8 - (intOf i).toNat)
  case atStart => exact ⟨0, by omega, rfl, rfl, by rw [dropL_zero]; exact h, Touch.refl _ _⟩
  case round =>
    obtain ⟨k, hk, rfl, rfl, hin, ht⟩ := hrel
    have hc := keepT ht hpa hne c0
    have hpw := Nat.lt_of_lt_of_le hpa ht.size
    by_cases hlt : k < 8
    · have hix := ptr_at Q k hlt
      have hL : dropL T L k k = L k := by unfold dropL; rw [if_neg (by omega)]
      have hnn := dropN_le T L k
      cases hl : L k with
      | none =>
        have hqk : Q k = none := by rw [HQ.out]; unfold ptrOf; rw [hl]; rfl
        rw [hqk] at hix
        have hd := dropL_keep T L k (by rw [hl]; rfl)
        have hdn : dropN T L (k + 1) = dropN T L k := by simp [dropN, hl]
        have HD := Lib.hid hd
        have HN := Lib.hid hdn
        clear hqk hl hd hdn hL
        go_wp2_with (fail)
        go_roundw
        case rel => exact ⟨k + 1, by omega, by go_num, by rw [HN.out], by rw [HD.out]; exact hin, ht⟩
        case measure => simp [intOf]; omega
      | some l =>
        have hqk : Q k = some ⟨lb k, 0, none⟩ := by rw [HQ.out]; unfold ptrOf; rw [hl]; rfl
        rw [hqk] at hix
        obtain ⟨s1, s2, s3, s4, s5, s6, s7⟩ := hin.some_ k l hlt (hL.trans hl)
        have hfz := hin.free k hlt
        have hT' : T l = (l.a == asid) := by rw [HT.out]
        cases hb : T l
        · have hd := dropL_keep T L k (by rw [hl]; simpa using hb)
          have hdn : dropN T L (k + 1) = dropN T L k := by simp [dropN, hl, hb]
          have HD := Lib.hid hd
          have HN := Lib.hid hdn
          have HB : Hid ((l.a == asid) = false) := Lib.hid (hT'.symm.trans hb)
          clear hqk hl hd hdn hL hT' hb s1
          go_wp2_with (fail)
          refine (flush1_any l pa asid _ hpw hc).mono ?_
          rintro e w1 ⟨rfl, hb1⟩
          rw [HB.out]
          go_wp2_with (fail)
          go_roundw
          case rel => exact ⟨k + 1, by omega, by go_num, by rw [HN.out], by rw [HD.out]; exact hin.below hb1, ht.trans (Touch.of_below hb1)⟩
          case measure => simp [intOf]; omega
        · have hd := dropL_drop T L k (by rw [hl]; simpa using hb)
          have hdn : dropN T L (k + 1) = dropN T L k + 1 := by simp [dropN, hl, hb]
          have HD := Lib.hid hd
          have HN := Lib.hid hdn
          have HB : Hid ((l.a == asid) = true) := Lib.hid (hT'.symm.trans hb)
          clear hqk hl hd hdn hL hT' hb
          go_wp2_with (fail)
          refine (flush1_any l pa asid _ hpw hc).mono ?_
          rintro e w1 ⟨rfl, hb1⟩
          rw [HB.out]
          have hlt1 := hin.lt
          have c1 := keep hb1 hlt1 s1
          have f1 := keepF hb1 hlt1 hfz
          go_wp2_with (fail)
          go_roundw
          case rel => exact ⟨k + 1, by omega, by go_num, by rw [HN.out]; go_num, by rw [HD.out]; exact (hin.below hb1).drop k hlt, Touch.setCell (S := (· = pb)) (ht.trans (Touch.of_below hb1)) (Or.inl rfl) _⟩
          case measure => simp [intOf]; omega
    · obtain rfl : k = 8 := by omega
      go_wp2_with (fail)
      go_ret
      exact ⟨rfl, hin, ht⟩

theorem tlb_flush (pb : Nat) (lb : Nat → Nat) (L : Nat → Option Ln) (asid : Int) (w : World) (h : TlbIn w pb lb L) :
    Calls Try.prog 19 #[.pointer (some ⟨pb, 0, none⟩), .int .i64 asid] w fun e w' => e = .returned (.int .i64 (dropN (fun l => l.a == asid) L 8)) ∧ TlbIn w' pb lb (dropL (fun l => l.a == asid) L 8) ∧ Touch (· = pb) w w' := by
  have hlt := h.lt
  go_enter Try.func19, Try.ntmps19
  go_wp2_with (fail)
  refine (drop_flush pb lb L _ asid _ (h.below (by repeat (first | with_reducible exact Below.refl _ _ | with_reducible assumption | with_reducible refine below_drewN ?_ _ | with_reducible refine Below.alloc ?_ (by simp <;> omega) _))) (by simp) (by omega) (by simp [go_sem])).mono ?_
  rintro e w1 ⟨rfl, hin, ht⟩
  go_wp2_with (fail)
  go_ret
  exact ⟨rfl, hin, (Touch.alloc (Touch.refl _ _) _).trans ht⟩

end Go.Proofs.Yteehghjdifbjbaa

namespace Go.Proofs.Yteehghjdifbjbaa
set_option linter.unusedSimpArgs false
set_option linter.unusedVariables false
set_option maxRecDepth 100000
open Go.RowKit
set_option maxHeartbeats 4000000

/-! ### Lines -/
def lnCells (l : Ln) : List Value := [.int .i64 l.a, .int .i64 l.p, .int .i64 l.f, .bool l.w]
def lnsCells (l : List Ln) : List Value := l.flatMap lnCells
theorem lnsCells_length (l : List Ln) : (lnsCells l).length = 4 * l.length := by
  induction l with
  | nil => rfl
  | cons a l ih => simp only [lnsCells, List.flatMap_cons, List.length_append] at *; rw [ih]; simp [lnCells]; omega
theorem lnsCells_snoc (l : List Ln) (a : Ln) : lnsCells (l ++ [a]) = lnsCells l ++ lnCells a := by simp [lnsCells]
/-- The lines among the first k places. -/
def linesK (L : Nat → Option Ln) (k : Nat) : List Ln := (List.range k).filterMap L
theorem linesK_succ (L : Nat → Option Ln) (k : Nat) : linesK L (k + 1) = linesK L k ++ (L k).toList := by
  unfold linesK
  rw [List.range_succ, List.filterMap_append]
  cases h : L k <;> simp [h]
theorem linesK_le (L : Nat → Option Ln) (k : Nat) : (linesK L k).length ≤ k := by
  unfold linesK
  have := List.length_filterMap_le L (List.range k)
  simpa using this
theorem four_new (w : World) (a b c d : Value) (t : TypeId) : ∀ j u, [a, b, c, d][j]? = some u → (w.alloc (.cells #[a, b, c, d] t)).cell? ((⟨w.heap.size, 0, none⟩ : Addr).add j) = some u := by
  intro j u h
  match j, h with
  | 0, h => simp at h; subst h; simp [Addr.add, go_sem]
  | 1, h => simp at h; subst h; simp [Addr.add, go_sem]
  | 2, h => simp at h; subst h; simp [Addr.add, go_sem]
  | 3, h => simp at h; subst h; simp [Addr.add, go_sem]
  | j + 4, h => simp at h
theorem infoLine : (Try.prog.info? 41).map (fun i => (i.zero, i.size, i.bytes)) = some (some (.agg #[.int .i64 0, .int .i64 0, .int .i64 0, .bool false]), 4, 32) := by kernel_rfl
def LinesPost (w : World) (B : Nat) (l : List Ln) (e : Ending) (w' : World) : Prop := ∃ v, e = .returned v ∧ w'.ownsRow B 41 4 v l.length (lnsCells l) ∧ Below B w w'

theorem tlb_lines (pb : Nat) (lb : Nat → Nat) (L : Nat → Option Ln) (w : World) (h : TlbIn w pb lb L) :
    Calls Try.prog 26 #[.pointer (some ⟨pb, 0, none⟩)] w (LinesPost w w.heap.size (linesK L 8)) := by
  obtain ⟨i0, hi, hz0, hz1, hz2⟩ := info_parts infoLine
  have q0 := h.ptr 0 (by omega)
  have q1 := h.ptr 1 (by omega)
  have q2 := h.ptr 2 (by omega)
  have q3 := h.ptr 3 (by omega)
  have q4 := h.ptr 4 (by omega)
  have q5 := h.ptr 5 (by omega)
  have q6 := h.ptr 6 (by omega)
  have q7 := h.ptr 7 (by omega)
  obtain ⟨Q, hQ⟩ : ∃ Q, Q = ptrOf lb L := ⟨_, rfl⟩
  rw [← hQ] at q0 q1 q2 q3 q4 q5 q6 q7
  have HQ := Lib.hid hQ
  clear hQ
  obtain ⟨B, hB⟩ : ∃ B, B = w.heap.size := ⟨_, rfl⟩
  have HB := Lib.hid hB
  have hBB : B ≤ w.heap.size := by omega
  have bw : Below B w w := Below.refl _ _
  rw [← hB]
  clear hB
  go_enter Try.func26, Try.ntmps26
  go_wp2_with (fail)
  go_loopw [3, 10] (fun v i wr => ∃ (k : Nat) (d : List Ln), k ≤ 8 ∧ i = .int .i64 k ∧ Hid (d = linesK L k) ∧ d.length ≤ k ∧ wr.ownsRow B 41 4 v d.length (lnsCells d) ∧ Below B w wr) (fun _ i _ => 8 - (intOf i).toNat)
  case atStart => exact ⟨0, [], by omega, rfl, Lib.hid rfl, by simp, World.ownsRow_nil _ _ _ _, bw⟩
  case round =>
    obtain ⟨k, d, hk, rfl, HD, hdl, hown, hb⟩ := hrel
    have hBw : B ≤ wr.heap.size := Nat.le_trans hBB hb.size
    have hin : TlbIn wr pb lb L := h.below (by rw [← HB.out]; exact hb)
    by_cases hlt : k < 8
    · have hix := ptr_at Q k hlt
      have hle := linesK_le L k
      cases hl : L k with
      | none =>
        have hqk : Q k = none := by rw [HQ.out]; unfold ptrOf; rw [hl]; rfl
        rw [hqk] at hix
        have hd : d = linesK L (k + 1) := by rw [linesK_succ, hl, HD.out]; simp
        have HD' := Lib.hid hd
        clear hqk hl hd
        go_wp2_with (fail)
        go_roundw
        case rel => exact ⟨k + 1, d, by omega, by go_num, HD', by omega, hown, hb⟩
        case measure => simp [intOf]; omega
      | some l =>
        have hqk : Q k = some ⟨lb k, 0, none⟩ := by rw [HQ.out]; unfold ptrOf; rw [hl]; rfl
        rw [hqk] at hix
        obtain ⟨s1, s2, s3, s4, s5, s6, s7⟩ := hin.some_ k l hlt hl
        have hd : d ++ [l] = linesK L (k + 1) := by rw [linesK_succ, hl, HD.out]; rfl
        have HD' := Lib.hid hd
        clear hqk hl hd s1
        go_wp2_with (at_builtin; refine wpList_append_own _ rfl _ _ 61 rfl B 41 i0 (.agg #[.int .i64 0, .int .i64 0, .int .i64 0, .bool false]) 4 32 Try.underlying61 hi hz0 hz1 hz2 rfl (by decide) _ _ _ rfl (hown.alloc _) ⟨wr.heap.size, 0, none⟩ 1 1 (lnCells l) rfl rfl (four_new _ _ _ _ _ _) (fun x hx => by simp [lnCells] at hx; rcases hx with rfl | rfl | rfl | rfl <;> rfl) (by unfold maxLen; omega) (by omega) (by simp; omega) ?_; intro v' w3 hown' hgrow3 hnil3)
        rw [← lnsCells_snoc] at hown'
        have hb3 : Below B w w3 := Below.grown (hb.alloc (by omega) _) hgrow3 (by simp; omega) (fun j hj => (hown.lt _ hj).1)
        clear hown
        go_wp2_with (fail)
        go_roundw
        case rel => exact ⟨k + 1, d ++ [l], by omega, by go_num, HD', by simp; omega, by simpa using hown', hb3⟩
        case measure => simp [intOf]; omega
    · obtain rfl : k = 8 := by omega
      go_wp2_with (fail)
      go_ret
      exact ⟨_, rfl, by rw [← HD.out]; exact hown, hb⟩


end Go.Proofs.Yteehghjdifbjbaa

namespace Go.Proofs.Yteehghjdifbjbaa.Pl
set_option linter.unusedSimpArgs false
set_option linter.unusedVariables false
set_option maxRecDepth 100000
open Go

theorem and_mask (x : Int) (m : Nat) (hx : 0 ≤ x) (hx' : x < 18446744073709551616) (hm : m ≤ 64) :
    bits .and .u64 x (2 ^ m - 1) = x % 2 ^ m := by
  obtain ⟨n, rfl⟩ := Int.eq_ofNat_of_zero_le hx
  have hm2 : (2 : Nat) ^ m ≤ 2 ^ 64 := Nat.pow_le_pow_right (by omega) hm
  have hp := Nat.pow_pos (n := m) (show 0 < 2 by omega)
  have e : ((2 : Int) ^ m - 1) = ((2 ^ m - 1 : Nat) : Int) := by
    rw [Int.natCast_sub (by omega)]; simp
  rw [e, u64_and_nat _ _ (by omega) (by omega), Nat.and_two_pow_sub_one_eq_mod]
  simp

/-- The word x with the bits y at the places f to f + m - 1. -/
def put (x y : Int) (f m : Nat) : Int := x - x / 2 ^ f % 2 ^ m * 2 ^ f + y * 2 ^ f

theorem put_nat (x y f m : Nat) (hx : x < 2 ^ 64) (hfm : f + m ≤ 64) (hy : y < 2 ^ m) :
    (x &&& (2 ^ 64 - 1 - (2 ^ m - 1) * 2 ^ f)) ||| (y * 2 ^ f) = 2 ^ (f + m) * (x / 2 ^ (f + m)) + (2 ^ f * y + x % 2 ^ f) := by
  have pf := Nat.pow_pos (n := f) (show 0 < 2 by omega)
  have pm := Nat.pow_pos (n := m) (show 0 < 2 by omega)
  have hm : (2 ^ m - 1) * 2 ^ f < 2 ^ 64 := by
    have h1 : (2 ^ m - 1) * 2 ^ f < 2 ^ m * 2 ^ f := Nat.mul_lt_mul_of_pos_right (by omega) pf
    rw [← Nat.pow_add] at h1
    exact Nat.lt_of_lt_of_le h1 (Nat.pow_le_pow_right (by omega) (by omega))
  have hlo : 2 ^ f * y + x % 2 ^ f < 2 ^ (f + m) := by
    have h1 : x % 2 ^ f < 2 ^ f := Nat.mod_lt _ pf
    have h2 : 2 ^ f * (y + 1) ≤ 2 ^ f * 2 ^ m := Nat.mul_le_mul_left _ (by omega)
    rw [Nat.pow_add]; rw [Nat.mul_add] at h2; omega
  apply Nat.eq_of_testBit_eq
  intro j
  rw [Nat.testBit_two_pow_mul_add _ hlo, Nat.testBit_two_pow_mul_add _ (Nat.mod_lt _ pf)]
  have e : 2 ^ 64 - 1 - (2 ^ m - 1) * 2 ^ f = 2 ^ 64 - ((2 ^ m - 1) * 2 ^ f + 1) := by omega
  rw [Nat.testBit_or, Nat.testBit_and, e, Nat.testBit_two_pow_sub_succ hm, Nat.testBit_mul_two_pow, Nat.testBit_mul_two_pow, Nat.testBit_two_pow_sub_one, Nat.testBit_div_two_pow, Nat.testBit_mod_two_pow]
  by_cases h64 : j < 64
  · by_cases h1 : j < f
    · simp [h64, h1, show j < f + m by omega, show ¬ f ≤ j by omega]
    · by_cases h2 : j < f + m
      · simp [h64, h1, h2, show f ≤ j by omega, show j - f < m by omega]
      · have hy' : y.testBit (j - f) = false := Nat.testBit_lt_two_pow (Nat.lt_of_lt_of_le hy (Nat.pow_le_pow_right (by omega) (by omega)))
        simp [h64, h1, h2, show f ≤ j by omega, show ¬ j - f < m by omega, hy', show j - (f + m) + (f + m) = j by omega]
  · have hx' : x.testBit j = false := Nat.testBit_lt_two_pow (Nat.lt_of_lt_of_le hx (Nat.pow_le_pow_right (by omega) (by omega)))
    have hy' : y.testBit (j - f) = false := Nat.testBit_lt_two_pow (Nat.lt_of_lt_of_le hy (Nat.pow_le_pow_right (by omega) (by omega)))
    simp [h64, hx', hy', show ¬ j < f + m by omega, show j - (f + m) + (f + m) = j by omega]

theorem put_bits (x y : Int) (f m : Nat) (hx : 0 ≤ x) (hx' : x < 18446744073709551616) (hfm : f + m ≤ 64) (hy : 0 ≤ y) (hy' : y < 2 ^ m) :
    bits .or .u64 (bits .andNot .u64 x (IntKind.u64.wrap ((2 ^ m - 1) * 2 ^ f))) (IntKind.u64.wrap (y * 2 ^ f)) = put x y f m := by
  obtain ⟨x, rfl⟩ := Int.eq_ofNat_of_zero_le hx
  obtain ⟨y, rfl⟩ := Int.eq_ofNat_of_zero_le hy
  have hx2 : x < 2 ^ 64 := by omega
  have hy2 : y < 2 ^ m := by exact_mod_cast hy'
  have pf := Nat.pow_pos (n := f) (show 0 < 2 by omega)
  have pm := Nat.pow_pos (n := m) (show 0 < 2 by omega)
  have hle : (2 : Nat) ^ m * 2 ^ f ≤ 2 ^ 64 := by rw [← Nat.pow_add]; exact Nat.pow_le_pow_right (by omega) (by omega)
  have hm : (2 ^ m - 1) * 2 ^ f < 2 ^ 64 := Nat.lt_of_lt_of_le (Nat.mul_lt_mul_of_pos_right (by omega) pf) hle
  have hyf : y * 2 ^ f < 2 ^ 64 := Nat.lt_of_lt_of_le (Nat.mul_lt_mul_of_pos_right (by omega) pf) hle
  have e1 : ((2 : Int) ^ m - 1) * 2 ^ f = (((2 ^ m - 1) * 2 ^ f : Nat) : Int) := by
    rw [Int.natCast_mul, Int.natCast_sub (by omega)]; simp
  have e2 : ((y : Nat) : Int) * 2 ^ f = ((y * 2 ^ f : Nat) : Int) := by simp
  rw [e1, e2, IntKind.wrap_u64, IntKind.wrap_u64, Int.emod_eq_of_lt (by omega) (by omega), Int.emod_eq_of_lt (by omega) (by omega)]
  rw [u64_andNot_nat _ _ (by omega) (by omega), u64_or_nat _ _ (Nat.lt_of_le_of_lt Nat.and_le_left (by omega)) (by omega)]
  have h := put_nat x y f m hx2 hfm hy2
  rw [show (2 ^ 64 - 1 : Nat) = 18446744073709551615 from rfl] at h
  rw [h]
  have d1 := Nat.div_add_mod x (2 ^ f)
  have d2 := Nat.div_add_mod (x / 2 ^ f) (2 ^ m)
  rw [Nat.div_div_eq_div_mul, ← Nat.pow_add] at d2
  unfold put
  rw [show ((x : Int) / 2 ^ f % 2 ^ m * 2 ^ f) = ((x / 2 ^ f % 2 ^ m * 2 ^ f : Nat) : Int) by simp, e2]
  have d3 : 2 ^ f * (x / 2 ^ f) = 2 ^ (f + m) * (x / 2 ^ (f + m)) + x / 2 ^ f % 2 ^ m * 2 ^ f := by
    have := congrArg (2 ^ f * ·) d2
    simp only [Nat.mul_add] at this
    rw [← this, ← Nat.mul_assoc, ← Nat.pow_add, Nat.mul_comm (2 ^ f) (_ % _)]
  rw [Nat.mul_comm (2 ^ f) y]
  omega

theorem andNot_small (y : Int) (m : Nat) (hm : m ≤ 64) (hy : 0 ≤ y) (hy' : y < 2 ^ m) : bits .andNot .u64 y (2 ^ m - 1) = 0 := by
  obtain ⟨n, rfl⟩ := Int.eq_ofNat_of_zero_le hy
  have hm2 : (2 : Nat) ^ m ≤ 2 ^ 64 := Nat.pow_le_pow_right (by omega) hm
  have hp := Nat.pow_pos (n := m) (show 0 < 2 by omega)
  have hn : n < 2 ^ m := by exact_mod_cast hy'
  have e : ((2 : Int) ^ m - 1) = ((2 ^ m - 1 : Nat) : Int) := by
    rw [Int.natCast_sub (by omega)]; simp
  rw [e, u64_andNot_nat _ _ (by omega) (by omega)]
  have : n &&& (18446744073709551615 - (2 ^ m - 1)) = 0 := by
    apply Nat.eq_of_testBit_eq
    intro j
    rw [show (18446744073709551615 - (2 ^ m - 1) : Nat) = 2 ^ 64 - ((2 ^ m - 1) + 1) by omega, Nat.testBit_and, Nat.testBit_two_pow_sub_succ (by omega), Nat.testBit_two_pow_sub_one]
    by_cases h : j < m
    · simp [h]
    · have : n.testBit j = false := Nat.testBit_lt_two_pow (Nat.lt_of_lt_of_le hn (Nat.pow_le_pow_right (by omega) (by omega)))
      simp [this]
  rw [this]; rfl
end Go.Proofs.Yteehghjdifbjbaa.Pl

namespace Go.Proofs.Yteehghjdifbjbaa
set_option linter.unusedSimpArgs false
set_option linter.unusedVariables false
set_option maxRecDepth 100000
open Go.RowKit
set_option maxHeartbeats 400000

theorem within_yes (n a b : Int) (w : World) (h0 : a ≤ n) (h1 : n ≤ b) :
    Calls Try.prog 96 #[.int .i64 n, .int .i64 a, .int .i64 b] w fun e w' => e = .returned (.bool true) ∧ w = w' := by
  go_enter Try.func96, Try.ntmps96
  go_wp2
  go_ret
  exact ⟨by simp, rfl⟩

theorem mask_eq (m : Int) (h1 : 1 ≤ m) (h2 : m ≤ 64) : (18446744073709551615 : Int) / 2 ^ (64 - m).toNat = 2 ^ m.toNat - 1 := by
  obtain ⟨k, rfl⟩ := Int.eq_ofNat_of_zero_le (show 0 ≤ m by omega)
  have : ∀ k : Nat, k < 65 → 1 ≤ k → (18446744073709551615 : Int) / 2 ^ ((64 : Int) - (k : Int)).toNat = 2 ^ ((k : Int)).toNat - 1 := by decide
  exact this k (by omega) (by omega)

theorem mask_yes (f m : Int) (w : World) (h0 : 0 ≤ f) (h1 : 1 ≤ m) (h2 : f + m ≤ 64) :
    Calls Try.prog 89 #[.int .i64 f, .int .i64 m] w fun e w' => e = .returned (.tuple #[.int .u64 (2 ^ m.toNat - 1), .bool true]) ∧ w = w' := by
  have H := Lib.hid (mask_eq m h1 (by omega))
  go_enter Try.func89, Try.ntmps89
  go_wp2_with (go_at_call 96; refine (within_yes _ _ _ _ (by omega) (by omega)).mono ?_; rintro e w' ⟨rfl, rfl⟩)
  go_ret2
  exact ⟨by simp [H.out], rfl⟩

theorem get_yes (x f m : Int) (w : World) (hx : 0 ≤ x) (hx' : x < 18446744073709551616) (h0 : 0 ≤ f) (h1 : 1 ≤ m) (h2 : f + m ≤ 64) :
    Calls Try.prog 76 #[.int .u64 x, .int .i64 f, .int .i64 m] w fun e w' => e = .returned (.tuple #[.int .u64 (x / 2 ^ f.toNat % 2 ^ m.toNat), .bool true]) ∧ w = w' := by
  have hp : (0 : Int) < 2 ^ f.toNat := Int.pow_pos (by decide)
  have hd : 0 ≤ x / 2 ^ f.toNat := Int.ediv_nonneg hx (by omega)
  have hd' : x / 2 ^ f.toNat ≤ x := Int.ediv_le_self _ hx
  have H := Lib.hid (Pl.and_mask (x / 2 ^ f.toNat) m.toNat hd (by omega) (by omega))
  clear hp hd hd'
  go_enter Try.func76, Try.ntmps76
  go_wp2_with (go_at_call 89; refine (mask_yes _ _ _ (by omega) (by omega) (by omega)).mono ?_; rintro e w' ⟨rfl, rfl⟩)
  go_ret2
  exact ⟨by simp [H.out], rfl⟩

theorem put_yes (x y f m : Int) (w : World) (hx : 0 ≤ x) (hx' : x < 18446744073709551616) (h0 : 0 ≤ f) (h1 : 1 ≤ m) (h2 : f + m ≤ 64) (hy : 0 ≤ y) (hy' : y < 2 ^ m.toNat) :
    Calls Try.prog 80 #[.int .u64 x, .int .u64 y, .int .i64 f, .int .i64 m] w fun e w' => e = .returned (.tuple #[.int .u64 (Pl.put x y f.toNat m.toNat), .bool true]) ∧ ∃ n, w' = w.drewN n := by
  have H := Lib.hid (Pl.put_bits x y f.toNat m.toNat hx hx' (by omega) hy hy')
  have hz : (bits BinOp.andNot IntKind.u64 y (2 ^ m.toNat - 1) != 0) = false := by
    rw [Pl.andNot_small y m.toNat (by omega) hy hy']; rfl
  go_enter Try.func80, Try.ntmps80
  go_wp2_with (go_at_call 89; refine (mask_yes _ _ _ (by omega) (by omega) (by omega)).mono ?_; rintro e w' ⟨rfl, rfl⟩)
  go_quiet (fail)
  go_wp2
  go_ret2
  exact ⟨by simp [H.out], _, rfl⟩

theorem put_bd (x y : Int) (f m : Nat) (hx : 0 ≤ x) (hx' : x < 18446744073709551616) (hfm : f + m ≤ 64) (hy : 0 ≤ y) (hy' : y < 2 ^ m) :
    0 ≤ Pl.put x y f m ∧ Pl.put x y f m < 18446744073709551616 := by
  rw [← Pl.put_bits x y f m hx hx' hfm hy hy']
  have := bits_within .or .u64 (bits .andNot .u64 x (IntKind.u64.wrap ((2 ^ m - 1) * 2 ^ f))) (IntKind.u64.wrap (y * 2 ^ f))
  simp [IntKind.min, IntKind.max, IntKind.signed, IntKind.bits] at this
  omega


theorem u64_in' (x : Int) (h : 0 ≤ x) (h' : x < 18446744073709551616) : IntKind.u64.wrap x = x := IntWalk.u64_in _ ⟨h, by omega⟩

end Go.Proofs.Yteehghjdifbjbaa

namespace Go.Proofs.Yteehghjdifbjbaa
set_option linter.unusedSimpArgs false
set_option linter.unusedVariables false
set_option maxRecDepth 100000
open Go.RowKit
set_option maxHeartbeats 400000

/-- A truth as a number. -/
def flagI (b : Bool) : Int := if b then 1 else 0

theorem flag_any (b : Bool) (w : World) :
    Calls Try.prog 79 #[.bool b] w fun e w' => e = .returned (.int .u64 (flagI b)) ∧ w = w' := by
  go_enter Try.func79, Try.ntmps79
  cases b <;> go_wp2 <;> go_ret <;> exact ⟨rfl, rfl⟩

theorem fields_any (w : World) :
    Calls Try.prog 75 #[] w fun e w' => e = .returned (.agg #[.int .i64 0, .int .i64 1, .int .i64 1, .int .i64 1, .int .i64 2, .int .i64 1, .int .i64 8, .int .i64 8]) ∧ ∃ o, w' = w.alloc o := by
  go_enter Try.func75, Try.ntmps75
  go_wp2
  go_returns
  exact ⟨rfl, _, rfl⟩

/-- May an entry be? -/
def rightB (v wr tb : Bool) (fr : Int) : Bool := if v then decide (0 ≤ fr) && decide (fr < 256) && !(wr && tb) else !wr && !tb && decide (fr = 0)

theorem right_any (v wr tb : Bool) (fr : Int) (w : World) :
    Calls Try.prog 78 #[.agg #[.bool v, .bool wr, .bool tb, .int .i64 fr]] w fun e w' => e = .returned (.bool (rightB v wr tb fr)) ∧ ∃ o, w' = w.alloc o := by
  go_enter Try.func78, Try.ntmps78
  cases v <;> go_wp2 <;> go_ret <;> exact ⟨by first | (simp [rightB, *]; done) | (simp [rightB]; omega), _, rfl⟩

theorem word_no (v wr tb : Bool) (fr : Int) (w : World) (h : rightB v wr tb fr = false) :
    Calls Try.prog 48 #[.agg #[.bool v, .bool wr, .bool tb, .int .i64 fr]] w fun e w' => e = .returned (.tuple #[.int .u64 0, .int .i64 1]) ∧ Below w.heap.size w w' := by
  go_enter Try.func48, Try.ntmps48
  go_wp2_with (go_at_call 78; refine (right_any _ _ _ _ _).mono ?_; rintro e w' ⟨rfl, o, rfl⟩; rw [h])
  go_ret2
  exact ⟨rfl, by go_grown⟩

theorem right_bd {v wr tb : Bool} {fr : Int} (h : rightB v wr tb fr = true) : 0 ≤ fr ∧ fr < 256 := by
  cases v
  · simp [rightB] at h; omega
  · simp [rightB] at h; omega
theorem flag_bd (b : Bool) : 0 ≤ flagI b ∧ flagI b < 2 := by cases b <;> simp [flagI]

/-- An entry's word. -/
def wordI (v wr tb : Bool) (fr : Int) : Int := flagI v + 2 * flagI wr + 4 * flagI tb + 256 * fr

theorem word_p0 (v : Bool) : Pl.put 0 (flagI v) (Int.toNat 0) (Int.toNat 1) = flagI v := by cases v <;> rfl
theorem word_p1 (v wr : Bool) : Pl.put (flagI v) (flagI wr) (Int.toNat 1) (Int.toNat 1) = flagI v + 2 * flagI wr := by cases v <;> cases wr <;> rfl
theorem word_p2 (v wr tb : Bool) : Pl.put (flagI v + 2 * flagI wr) (flagI tb) (Int.toNat 2) (Int.toNat 1) = flagI v + 2 * flagI wr + 4 * flagI tb := by cases v <;> cases wr <;> cases tb <;> rfl
theorem word_p3 (v wr tb : Bool) (fr : Int) : Pl.put (flagI v + 2 * flagI wr + 4 * flagI tb) fr (Int.toNat 8) (Int.toNat 8) = wordI v wr tb fr := by
  cases v <;> cases wr <;> cases tb <;> simp [Pl.put, wordI, flagI] <;> omega

end Go.Proofs.Yteehghjdifbjbaa
