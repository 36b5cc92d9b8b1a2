/- What the functions of package cpu return and write over flat words, by walks over their text. -/
import Derived.Test.YtfjfdhojhikgdaaFlat
import Derived.Test.YtfjfdhojhikgdaaIsa3
namespace Go.Proofs.Ytfjfdhojhikgdaa
set_option linter.unusedSimpArgs false
set_option linter.unusedVariables false
open Go.RowKit
set_option maxHeartbeats 4000000

/-- Registers in a block: eight, and where it goes on. -/
structure RegsIn (w : World) (pa : Nat) (r : Nat → Int) : Prop where
  row : RowF w pa 9 (fun j => .int .u64 (r j))
  rng : ∀ i, 0 ≤ r i ∧ r i < 18446744073709551616
theorem RegsIn.touch {w w' : World} {pa : Nat} {r : Nat → Int} (h : RegsIn w pa r) {S : Nat → Prop} (t : Touch S w w') (hs : ¬ S pa) : RegsIn w' pa r := ⟨h.row.touch t hs, h.rng⟩
theorem RegsIn.below {w w' : World} {pa : Nat} {r : Nat → Int} (h : RegsIn w pa r) (t : Below w.heap.size w w') : RegsIn w' pa r := ⟨h.row.below t, h.rng⟩
theorem RegsIn.set {w : World} {pa : Nat} {r : Nat → Int} (h : RegsIn w pa r) (k : Nat) (hk : k < 9) (x : Int) (hx : 0 ≤ x ∧ x < 18446744073709551616) : RegsIn (w.setCell ⟨pa, k, none⟩ (.int .u64 x)) pa (setF r k x) := by
  refine ⟨(h.row.set k hk _).congr (fun j hj => ?_), fun i => ?_⟩
  · unfold setF; split <;> rfl
  · unfold setF; split
    · exact hx
    · exact h.rng i

def isAlu (op : Int) : Bool := decide (op = 2 ∨ op = 3 ∨ op = 4 ∨ op = 5 ∨ op = 10)
def rkI (op b c : Int) : Int := if op = 2 then IntKind.u64.wrap (b + c) else if op = 3 then IntKind.u64.wrap (b - c) else if op = 4 then bits .and .u64 b c else if op = 5 then bits .xor .u64 b c else if op = 10 then (if b < c then 1 else 0) else 0

theorem wrap_bd (x : Int) : 0 ≤ IntKind.u64.wrap x ∧ IntKind.u64.wrap x < 18446744073709551616 := by
  simp [IntKind.wrap, IntKind.signed, IntKind.bits]; omega
theorem bits_bd (o : BinOp) (x y : Int) : 0 ≤ bits o .u64 x y ∧ bits o .u64 x y < 18446744073709551616 := by
  have := bits_within o .u64 x y
  simp [IntKind.min, IntKind.max, IntKind.signed, IntKind.bits] at this
  omega
theorem rkI_bd (op b c : Int) : 0 ≤ rkI op b c ∧ rkI op b c < 18446744073709551616 := by
  unfold rkI
  repeat' split
  all_goals first | exact wrap_bd _ | exact bits_bd _ _ _ | omega

theorem reckon_any (op b c : Int) (w : World) (h0 : 0 ≤ op) (h1 : op ≤ 11) (b0 : 0 ≤ b) (b1 : b < 18446744073709551616) (c0 : 0 ≤ c) (c1 : c < 18446744073709551616) :
    Calls Try.prog 29 #[.int .i64 op, .int .u64 b, .int .u64 c] w fun e w' => e = .returned (.tuple #[.int .u64 (rkI op b c), .bool (isAlu op)]) ∧ w' = w := by
  rcases op_cases h0 h1 with h | h | h | h | h | h | h | h | h | h | h | h
  all_goals
    subst h
    go_enter Try.func29, Try.ntmps29
    go_wp2
    all_goals
      go_ret2
      refine ⟨?_, rfl⟩
      simp [rkI, isAlu, *]

theorem address_any (x : Int) (w : World) (h0 : 0 ≤ x) (h1 : x < 18446744073709551616) :
    Calls Try.prog 18 #[.int .u64 x] w fun e w' => e = .returned (.int .i64 (x % 65536)) ∧ w' = w := by
  go_enter Try.func18, Try.ntmps18
  go_wp2
  go_ret
  exact ⟨by rfl, rfl⟩

end Go.Proofs.Ytfjfdhojhikgdaa
