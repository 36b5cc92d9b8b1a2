/- What the functions of package entry return, by walks over their text. -/
import Derived.Test.YtnodcmmifbcbiaaBits
namespace Go.Proofs.Ytnodcmmifbcbiaa
set_option linter.unusedSimpArgs false
set_option linter.unusedVariables false
open Go.RowKit
set_option maxHeartbeats 400000

theorem keep {B : Nat} {w w' : World} (hb : Below B w w') {b o : Nat} {v : Value} (h : b < B) (hc : w.cell? ⟨b, o, none⟩ = some v) : w'.cell? ⟨b, o, none⟩ = some v := by
  rw [hb.cell (p := ⟨b, o, none⟩) h]; exact hc
theorem keepF {B : Nat} {w w' : World} (hb : Below B w w') {b o : Nat} {v : Bool} (h : b < B) (hc : w.frozen? ⟨b, o, none⟩ = v) : w'.frozen? ⟨b, o, none⟩ = v := by
  rw [hb.frozen (p := ⟨b, o, none⟩) h]; exact hc
theorem bcell {W w1 : World} (hb : Below W.heap.size W w1) : (∀ b o, b < W.heap.size → w1.cell? ⟨b, o, none⟩ = W.cell? ⟨b, o, none⟩) ∧ (∀ b o, b < W.heap.size → w1.frozen? ⟨b, o, none⟩ = W.frozen? ⟨b, o, none⟩) :=
  ⟨fun b o h => hb.cell (p := ⟨b, o, none⟩) h, fun b o h => hb.frozen (p := ⟨b, o, none⟩) h⟩

/-- The numbers of an int, of a uint64. -/
def I64 (a : Int) : Prop := -9223372036854775808 ≤ a ∧ a ≤ 9223372036854775807
def U64 (a : Int) : Prop := 0 ≤ a ∧ a ≤ 18446744073709551615

/-- A truth as a number. -/
def flagI (b : Bool) : Int := if b then 1 else 0

theorem flag_any (b : Bool) (w : World) :
    Calls Try.prog 39 #[.bool b] w fun e w' => e = .returned (.int .u64 (flagI b)) ∧ w = w' := by
  go_enter Try.func39, Try.ntmps39
  cases b <;> go_wp2 <;> go_ret <;> exact ⟨rfl, rfl⟩

theorem fields_any (w : World) :
    Calls Try.prog 38 #[] w fun e w' => e = .returned (.agg #[.int .i64 0, .int .i64 1, .int .i64 1, .int .i64 1, .int .i64 2, .int .i64 1, .int .i64 8, .int .i64 8]) ∧ ∃ o, w' = w.alloc o := by
  go_enter Try.func38, Try.ntmps38
  go_wp2
  go_returns
  exact ⟨rfl, _, rfl⟩

/-- May an entry be? -/
def rightB (v wr tb : Bool) (fr : Int) : Bool := if v then decide (0 ≤ fr) && decide (fr < 256) && !(wr && tb) else !wr && !tb && decide (fr = 0)

theorem right_any (v wr tb : Bool) (fr : Int) (w : World) :
    Calls Try.prog 37 #[.agg #[.bool v, .bool wr, .bool tb, .int .i64 fr]] w fun e w' => e = .returned (.bool (rightB v wr tb fr)) ∧ ∃ o, w' = w.alloc o := by
  go_enter Try.func37, Try.ntmps37
  cases v <;> go_wp2 <;> go_ret <;> exact ⟨by first | (simp [rightB, *]; done) | (simp [rightB]; omega), _, rfl⟩

theorem word_no (v wr tb : Bool) (fr : Int) (w : World) (h : rightB v wr tb fr = false) :
    Calls Try.prog 18 #[.agg #[.bool v, .bool wr, .bool tb, .int .i64 fr]] w fun e w' => e = .returned (.tuple #[.int .u64 0, .int .i64 1]) ∧ Below w.heap.size w w' := by
  go_enter Try.func18, Try.ntmps18
  go_wp2_with (go_at_call 37; refine (right_any _ _ _ _ _).mono ?_; rintro e w' ⟨rfl, o, rfl⟩; rw [h])
  go_ret2
  exact ⟨rfl, by go_grown⟩

theorem right_bd {v wr tb : Bool} {fr : Int} (h : rightB v wr tb fr = true) : 0 ≤ fr ∧ fr < 256 := by
  cases v
  · simp [rightB] at h; omega
  · simp [rightB] at h; omega
theorem flag_bd (b : Bool) : 0 ≤ flagI b ∧ flagI b < 2 := by cases b <;> simp [flagI]

/-- An entry's word. -/
def wordI (v wr tb : Bool) (fr : Int) : Int := flagI v + 2 * flagI wr + 4 * flagI tb + 256 * fr

theorem put_bd (x y : Int) (f m : Nat) (hx : 0 ≤ x) (hx' : x < 18446744073709551616) (hfm : f + m ≤ 64) (hy : 0 ≤ y) (hy' : y < 2 ^ m) :
    0 ≤ Pl.put x y f m ∧ Pl.put x y f m < 18446744073709551616 := by
  rw [← Pl.put_bits x y f m hx hx' hfm hy hy']
  have := bits_within .or .u64 (bits .andNot .u64 x (IntKind.u64.wrap ((2 ^ m - 1) * 2 ^ f))) (IntKind.u64.wrap (y * 2 ^ f))
  simp [IntKind.min, IntKind.max, IntKind.signed, IntKind.bits] at this
  omega

theorem u64_in' (x : Int) (h : 0 ≤ x) (h' : x < 18446744073709551616) : IntKind.u64.wrap x = x := IntWalk.u64_in _ ⟨h, by omega⟩
theorem word_p0 (v : Bool) : Pl.put 0 (flagI v) (Int.toNat 0) (Int.toNat 1) = flagI v := by cases v <;> rfl
theorem word_p1 (v wr : Bool) : Pl.put (flagI v) (flagI wr) (Int.toNat 1) (Int.toNat 1) = flagI v + 2 * flagI wr := by cases v <;> cases wr <;> rfl
theorem word_p2 (v wr tb : Bool) : Pl.put (flagI v + 2 * flagI wr) (flagI tb) (Int.toNat 2) (Int.toNat 1) = flagI v + 2 * flagI wr + 4 * flagI tb := by cases v <;> cases wr <;> cases tb <;> rfl
theorem word_p3 (v wr tb : Bool) (fr : Int) : Pl.put (flagI v + 2 * flagI wr + 4 * flagI tb) fr (Int.toNat 8) (Int.toNat 8) = wordI v wr tb fr := by
  cases v <;> cases wr <;> cases tb <;> simp [Pl.put, wordI, flagI] <;> omega

end Go.Proofs.Ytnodcmmifbcbiaa
