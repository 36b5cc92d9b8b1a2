/- The laws of layer 7: what they share, by walks over their text. -/
import Derived.Test.YteehghjdifbjbaaWalk2
namespace Go.Proofs.Yteehghjdifbjbaa
set_option linter.unusedSimpArgs false
set_option linter.unusedVariables false
set_option maxRecDepth 100000
open Go.RowKit
set_option maxHeartbeats 4000000

/-- The words behind an entry that is put; the error. -/
def putW (W : Nat → Int) (n : Nat) (f p : Int) (v wr tb : Bool) (fr : Int) : Nat → Int := if inT n f p ∧ rightB v wr tb fr = true then setW W (16 * f + p).toNat (wordI v wr tb fr) else W
def putE (n : Nat) (f p : Int) (v wr tb : Bool) (fr : Int) : Int := if inT n f p ∧ rightB v wr tb fr = true then 0 else 1

theorem put_any (pm bk n : Nat) (W : Nat → Int) (f p : Int) (v wr tb : Bool) (fr : Int) (w : World) (hm : MemIn w pm bk n W) :
    Calls Try.prog 17 #[.pointer (some ⟨pm, 0, none⟩), .int .i64 f, .int .i64 p, .agg #[.bool v, .bool wr, .bool tb, .int .i64 fr]] w fun e w' => e = .returned (.int .i64 (putE n f p v wr tb fr)) ∧ MemIn w' pm bk n (putW W n f p v wr tb fr) ∧ Touch (· = bk) w w' := by
  unfold putW putE
  by_cases h : inT n f p ∧ rightB v wr tb fr = true
  · simp only [h, and_self, if_true]
    exact put_in pm bk n W f p v wr tb fr w hm h.1 h.2
  · simp only [h, if_false]
    exact (put_out pm bk n W f p v wr tb fr w hm h).mono fun e w' ⟨he, hb⟩ => ⟨he, hm.below hb, Touch.of_below hb⟩

/-- The words behind the three entries that the laws put first. -/
def tabW (W : Nat → Int) (n : Nat) : Nat → Int := putW (putW (putW W n 0 1 true false true 1) n 1 2 true false true 2) n 2 3 true true false 7

def Z0 : Nat → Int := fun _ => 0
theorem aw1 : (walkM (tabW Z0 4) 4 0 291).e = 0 ∧ (walkM (tabW Z0 4) 4 0 291).fr = 7 ∧ (walkM (tabW Z0 4) 4 0 291).wr = true ∧ (walkM (tabW Z0 4) 4 0 291).st.length = 3 := by decide +kernel
theorem aw2 : (walkM (tabW Z0 4) 4 0 547).e = 10 ∧ (walkM (tabW Z0 4) 4 0 547).st.length = 1 := by decide +kernel
theorem aw3 : blankB (tabW Z0 4) 4 3 = true ∧ blankB (tabW Z0 4) 4 1 = false := by decide +kernel

theorem own_len {w : World} {base e size n : Nat} {v : Value} {xs : List Value} (h : w.ownsRow base e size v n xs) : ∃ a cap, v = .slice a n cap := by
  rcases h.2 with ⟨rfl, rfl⟩ | ⟨g, cap, cur, rfl, _⟩
  · exact ⟨_, _, rfl⟩
  · exact ⟨_, _, rfl⟩

/-! ### WalkPut -/
theorem putW_mem (W : Nat → Int) (n : Nat) (f p : Int) (v wr tb : Bool) (fr : Int) (h : putE n f p v wr tb fr ≠ 0) : putW W n f p v wr tb fr = W := by
  unfold putE at h; unfold putW
  split at h
  · exact absurd rfl h
  · rename_i hn; rw [if_neg hn]
theorem putE_zero (n : Nat) (f p : Int) (v wr tb : Bool) (fr : Int) : putE n f p v wr tb fr = 0 ↔ inT n f p ∧ rightB v wr tb fr = true := by
  unfold putE; split <;> simp_all

/-- All words are entries' words. -/
def Fine (W : Nat → Int) : Prop := ∀ a, ofB (W a) = true
theorem fine_Z0 : Fine Z0 := fun _ => by show ofB 0 = true; decide
theorem fine_put {W : Nat → Int} (h : Fine W) (n : Nat) (f p : Int) (v wr tb : Bool) (fr : Int) : Fine (putW W n f p v wr tb fr) := by
  unfold putW
  split
  · rename_i hr
    intro a
    unfold setW
    split
    · exact word_ofB _ _ _ _ hr.2
    · exact h a
  · exact h
theorem fine_tab {W : Nat → Int} (h : Fine W) (n : Nat) : Fine (tabW W n) := fine_put (fine_put (fine_put h _ _ _ _ _ _ _) _ _ _ _ _ _ _) _ _ _ _ _ _ _
theorem fine_gE {W : Nat → Int} (h : Fine W) {n : Nat} {f p : Int} (hi : inT n f p) : gE W n f p = 0 := by
  unfold gE; rw [if_pos hi]; simp [oE, h _]
theorem out_gE (W : Nat → Int) {n : Nat} {f p : Int} (hi : ¬ inT n f p) : gE W n f p = 1 ∧ gV W n f p = false ∧ gW W n f p = false ∧ gT W n f p = false ∧ gF W n f p = 0 := by
  unfold gE gV gW gT gF; simp [hi]

theorem get_put_same (W : Nat → Int) (n : Nat) (f p : Int) (v wr tb : Bool) (fr : Int) (hi : inT n f p) (hr : rightB v wr tb fr = true) :
    gE (putW W n f p v wr tb fr) n f p = 0 ∧ gV (putW W n f p v wr tb fr) n f p = v ∧ gW (putW W n f p v wr tb fr) n f p = wr ∧ gT (putW W n f p v wr tb fr) n f p = tb ∧ gF (putW W n f p v wr tb fr) n f p = fr := by
  obtain ⟨a, b, c, d⟩ := parts_of_word v wr tb fr hr
  have ho := word_ofB v wr tb fr hr
  unfold gE gV gW gT gF
  simp [hi, putW, hr, setW, oE, oV, oW, oT, oF, ho, a, b, c, d]

theorem get_put_other (W : Nat → Int) (n : Nat) (f p f' p' : Int) (v wr tb : Bool) (fr : Int) (hne : ¬ (f' = f ∧ p' = p)) :
    gE (putW W n f p v wr tb fr) n f' p' = gE W n f' p' ∧ gV (putW W n f p v wr tb fr) n f' p' = gV W n f' p' ∧ gW (putW W n f p v wr tb fr) n f' p' = gW W n f' p' ∧ gT (putW W n f p v wr tb fr) n f' p' = gT W n f' p' ∧ gF (putW W n f p v wr tb fr) n f' p' = gF W n f' p' := by
  by_cases hi : inT n f' p'
  · have : putW W n f p v wr tb fr (16 * f' + p').toNat = W (16 * f' + p').toNat := by
      unfold putW
      split
      · rename_i h
        unfold setW
        rw [if_neg]
        have h1 := h.1
        unfold inT at h1 hi
        omega
      · rfl
    unfold gE gV gW gT gF
    rw [this]
    simp
  · obtain ⟨a, b, c, d, e⟩ := out_gE W hi
    obtain ⟨a', b', c', d', e'⟩ := out_gE (putW W n f p v wr tb fr) hi
    simp [a, b, c, d, e, a', b', c', d', e']

end Go.Proofs.Yteehghjdifbjbaa
