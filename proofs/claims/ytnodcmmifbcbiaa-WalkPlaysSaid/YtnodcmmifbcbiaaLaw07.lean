/- The laws of layer 7: what they share, by walks over their text. -/
import Derived.Test.YtnodcmmifbcbiaaWalk2
namespace Go.Proofs.Ytnodcmmifbcbiaa
set_option linter.unusedSimpArgs false
set_option linter.unusedVariables false
open Go.RowKit
set_option maxHeartbeats 4000000

/-- The words behind an entry that is put; the error. -/
def putW (W : Nat → Int) (n : Nat) (f p : Int) (v wr tb : Bool) (fr : Int) : Nat → Int := if inT n f p ∧ rightB v wr tb fr = true then setW W (16 * f + p).toNat (wordI v wr tb fr) else W
def putE (n : Nat) (f p : Int) (v wr tb : Bool) (fr : Int) : Int := if inT n f p ∧ rightB v wr tb fr = true then 0 else 1

theorem put_any (pm bk n : Nat) (W : Nat → Int) (f p : Int) (v wr tb : Bool) (fr : Int) (w : World) (hm : MemIn w pm bk n W) :
    Calls Try.prog 29 #[.pointer (some ⟨pm, 0, none⟩), .int .i64 f, .int .i64 p, .agg #[.bool v, .bool wr, .bool tb, .int .i64 fr]] w fun e w' => e = .returned (.int .i64 (putE n f p v wr tb fr)) ∧ MemIn w' pm bk n (putW W n f p v wr tb fr) ∧ Touch (· = bk) w w' := by
  unfold putW putE
  by_cases h : inT n f p ∧ rightB v wr tb fr = true
  · simp only [h, and_self, if_true]
    exact put_in pm bk n W f p v wr tb fr w hm h.1 h.2
  · simp only [h, if_false]
    exact (put_out pm bk n W f p v wr tb fr w hm h).mono fun e w' ⟨he, hb⟩ => ⟨he, hm.below hb, Touch.of_below hb⟩

/-- The words behind the three entries that the laws put first. -/
def tabW (W : Nat → Int) (n : Nat) : Nat → Int := putW (putW (putW W n 0 1 true false true 1) n 1 2 true false true 2) n 2 3 true true false 7

theorem tables_any (pm bk n : Nat) (W : Nat → Int) (w : World) (hm : MemIn w pm bk n W) :
    Calls Try.prog 25 #[.pointer (some ⟨pm, 0, none⟩)] w fun e w' => e = .returned (.tuple #[]) ∧ MemIn w' pm bk n (tabW W n) ∧ Touch (· = bk) w w' := by
  go_enter Try.func25, Try.ntmps25
  go_wp2_with (fail)
  refine (put_any pm bk n _ _ _ _ _ _ _ _ hm).mono ?_
  rintro e w1 ⟨rfl, hm1, ht1⟩
  go_wp2_with (fail)
  refine (put_any pm bk n _ _ _ _ _ _ _ _ hm1).mono ?_
  rintro e w2 ⟨rfl, hm2, ht2⟩
  go_wp2_with (fail)
  refine (put_any pm bk n _ _ _ _ _ _ _ _ hm2).mono ?_
  rintro e w3 ⟨rfl, hm3, ht3⟩
  go_wp2_with (fail)
  go_end0
  exact ⟨rfl, hm3, (ht1.trans ht2).trans ht3⟩

def Z0 : Nat → Int := fun _ => 0
theorem aw1 : (walkM (tabW Z0 4) 4 0 291).e = 0 ∧ (walkM (tabW Z0 4) 4 0 291).fr = 7 ∧ (walkM (tabW Z0 4) 4 0 291).wr = true ∧ (walkM (tabW Z0 4) 4 0 291).st.length = 3 := by decide +kernel
theorem aw2 : (walkM (tabW Z0 4) 4 0 547).e = 10 ∧ (walkM (tabW Z0 4) 4 0 547).st.length = 1 := by decide +kernel
theorem aw3 : blankB (tabW Z0 4) 4 3 = true ∧ blankB (tabW Z0 4) 4 1 = false := by decide +kernel

theorem own_len {w : World} {base e size n : Nat} {v : Value} {xs : List Value} (h : w.ownsRow base e size v n xs) : ∃ a cap, v = .slice a n cap := by
  rcases h.2 with ⟨rfl, rfl⟩ | ⟨g, cap, cur, rfl, _⟩
  · exact ⟨_, _, rfl⟩
  · exact ⟨_, _, rfl⟩

theorem awake07 (w : World) : Calls Try.prog 22 #[] w fun e w' => e = .returned (.bool true) ∧ Below w.heap.size w w' := by
  obtain ⟨a1, a2, a3, a4⟩ := aw1
  obtain ⟨b1, b2⟩ := aw2
  obtain ⟨c1, c2⟩ := aw3
  have A1 := Lib.hid a1; have A2 := Lib.hid a2; have A3 := Lib.hid a3; have A4 := Lib.hid a4; have B1 := Lib.hid b1; have B2 := Lib.hid b2; have C1 := Lib.hid c1; have C2 := Lib.hid c2
  clear a1 a2 a3 a4 b1 b2 c1 c2
  go_enter Try.func22, Try.ntmps22
  go_wp2_with (fail)
  refine (new_yes _ _ (by omega) (by omega)).mono ?_
  rintro e w1 ⟨pm, bk, rfl, hm1', hpm, hbk, hb1⟩
  have hm1 : MemIn w1 pm bk 4 Z0 := hm1'
  clear hm1'
  go_wp2_with (fail)
  refine (tables_any pm bk _ _ _ hm1).mono ?_
  rintro e w2 ⟨rfl, hm2, ht2⟩
  have k2 : Below w.heap.size w w2 := hb1.trans (ht2.below hb1.size (fun k hk => by omega))
  go_wp2_with (fail)
  refine (walk_any pm bk _ _ _ _ _ hm2 _ rfl).mono ?_
  rintro e w3 ⟨v1, rfl, ho3, hb3⟩
  obtain ⟨x1, y1, rfl⟩ := own_len ho3
  rw [A1.out, A2.out, A3.out, A4.out]
  have hm3 := hm2.below hb3
  have k3 := k2.trans (hb3.mono k2.size)
  have e0 : (w3.alloc (.cells #[.bool (walkM (tabW Z0 4) 4 0 291).v, .bool true, .bool (walkM (tabW Z0 4) 4 0 291).tb, .int .i64 7] 34)).heap.size = w3.heap.size + 1 := by simp
  have hm4 : MemIn (w3.alloc (.cells #[.bool (walkM (tabW Z0 4) 4 0 291).v, .bool true, .bool (walkM (tabW Z0 4) 4 0 291).tb, .int .i64 7] 34)) pm bk 4 (tabW Z0 4) := hm3.below ((Below.refl _ _).alloc (Nat.le_refl _) _)
  go_wp2_with (fail)
  refine (walk_any pm bk _ _ _ _ _ hm4 _ rfl).mono ?_
  rintro e w5 ⟨v2, rfl, ho5, hb5⟩
  obtain ⟨x2, y2, rfl⟩ := own_len ho5
  rw [B1.out, B2.out]
  have hm5 := hm4.below hb5
  have k5 := (k3.alloc k3.size _).trans (hb5.mono (by have := k3.size; simp; omega))
  have c1 : w5.cell? ⟨w3.heap.size, 1, none⟩ = some (.bool true) := keep hb5 (by simp) (by simp [go_sem])
  have c3 : w5.cell? ⟨w3.heap.size, 3, none⟩ = some (.int .i64 7) := keep hb5 (by simp) (by simp [go_sem])
  have z5 : w3.heap.size < w5.heap.size := by have := hb5.size; simp at this; omega
  have hm6 : ∀ o, MemIn (w5.alloc o) pm bk 4 (tabW Z0 4) := fun o => hm5.below ((Below.refl _ _).alloc (Nat.le_refl _) _)
  go_wp2_with (fail)
  refine (blank_any pm bk _ _ _ _ (hm6 _)).mono ?_
  rintro e w6 ⟨rfl, hb6⟩
  rw [C1.out]
  have hm7 := (hm6 _).below hb6
  have k6 := (k5.alloc k5.size _).trans (hb6.mono (by have := k5.size; simp; omega))
  go_wp2_with (fail)
  refine (blank_any pm bk _ _ _ _ hm7).mono ?_
  rintro e w7 ⟨rfl, hb7⟩
  rw [C2.out]
  have k7 := k6.trans (hb7.mono k6.size)
  go_wp2_with (fail)
  go_ret
  exact ⟨rfl, k7⟩

/-! ### WalkPut -/
theorem putW_mem (W : Nat → Int) (n : Nat) (f p : Int) (v wr tb : Bool) (fr : Int) (h : putE n f p v wr tb fr ≠ 0) : putW W n f p v wr tb fr = W := by
  unfold putE at h; unfold putW
  split at h
  · exact absurd rfl h
  · rename_i hn; rw [if_neg hn]
theorem putE_zero (n : Nat) (f p : Int) (v wr tb : Bool) (fr : Int) : putE n f p v wr tb fr = 0 ↔ inT n f p ∧ rightB v wr tb fr = true := by
  unfold putE; split <;> simp_all

/-- All words are entries' words. -/
def Fine (W : Nat → Int) : Prop := ∀ a, ofB (W a) = true
theorem fine_Z0 : Fine Z0 := fun _ => by show ofB 0 = true; decide
theorem fine_put {W : Nat → Int} (h : Fine W) (n : Nat) (f p : Int) (v wr tb : Bool) (fr : Int) : Fine (putW W n f p v wr tb fr) := by
  unfold putW
  split
  · rename_i hr
    intro a
    unfold setW
    split
    · exact word_ofB _ _ _ _ hr.2
    · exact h a
  · exact h
theorem fine_tab {W : Nat → Int} (h : Fine W) (n : Nat) : Fine (tabW W n) := fine_put (fine_put (fine_put h _ _ _ _ _ _ _) _ _ _ _ _ _ _) _ _ _ _ _ _ _
theorem fine_gE {W : Nat → Int} (h : Fine W) {n : Nat} {f p : Int} (hi : inT n f p) : gE W n f p = 0 := by
  unfold gE; rw [if_pos hi]; simp [oE, h _]
theorem out_gE (W : Nat → Int) {n : Nat} {f p : Int} (hi : ¬ inT n f p) : gE W n f p = 1 ∧ gV W n f p = false ∧ gW W n f p = false ∧ gT W n f p = false ∧ gF W n f p = 0 := by
  unfold gE gV gW gT gF; simp [hi]

theorem get_put_same (W : Nat → Int) (n : Nat) (f p : Int) (v wr tb : Bool) (fr : Int) (hi : inT n f p) (hr : rightB v wr tb fr = true) :
    gE (putW W n f p v wr tb fr) n f p = 0 ∧ gV (putW W n f p v wr tb fr) n f p = v ∧ gW (putW W n f p v wr tb fr) n f p = wr ∧ gT (putW W n f p v wr tb fr) n f p = tb ∧ gF (putW W n f p v wr tb fr) n f p = fr := by
  obtain ⟨a, b, c, d⟩ := parts_of_word v wr tb fr hr
  have ho := word_ofB v wr tb fr hr
  unfold gE gV gW gT gF
  simp [hi, putW, hr, setW, oE, oV, oW, oT, oF, ho, a, b, c, d]

theorem get_put_other (W : Nat → Int) (n : Nat) (f p f' p' : Int) (v wr tb : Bool) (fr : Int) (hne : ¬ (f' = f ∧ p' = p)) :
    gE (putW W n f p v wr tb fr) n f' p' = gE W n f' p' ∧ gV (putW W n f p v wr tb fr) n f' p' = gV W n f' p' ∧ gW (putW W n f p v wr tb fr) n f' p' = gW W n f' p' ∧ gT (putW W n f p v wr tb fr) n f' p' = gT W n f' p' ∧ gF (putW W n f p v wr tb fr) n f' p' = gF W n f' p' := by
  by_cases hi : inT n f' p'
  · have : putW W n f p v wr tb fr (16 * f' + p').toNat = W (16 * f' + p').toNat := by
      unfold putW
      split
      · rename_i h
        unfold setW
        rw [if_neg]
        have h1 := h.1
        unfold inT at h1 hi
        omega
      · rfl
    unfold gE gV gW gT gF
    rw [this]
    simp
  · obtain ⟨a, b, c, d, e⟩ := out_gE W hi
    obtain ⟨a', b', c', d', e'⟩ := out_gE (putW W n f p v wr tb fr) hi
    simp [a, b, c, d, e, a', b', c', d', e']

end Go.Proofs.Ytnodcmmifbcbiaa
