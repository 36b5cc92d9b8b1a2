/-
  No cell of these rows narrows 'for every input' (looked for: loops, veiled, ifaces, maps, wideKeys, modest, calm, conditions, laid).
  DERIVED. THE GIVEN ROWS OF THIS SEAT. 4 by the template 'for every input the law returns true; each argument reads behind the call as it read before'; 0 by the template 'total and deterministic' (their statements: YteehghjdifbjbaaTotals.lean).
  GIVEN WITH THE SEED: the statements are not yours to turn. If you find one false, say at which input.
  Laid BY PROGRAM, IN A SANDBOX (cutbox-rows.mjs): the forced cells as the released guide's own fill.sh prints them over the translation bb2c317de2393787… (all of the seat's roots in one cut). By AI agents, Wed Nov 11 2026. No macro, syntax, notation, axiom, sorry.
-/
import Derived.Test.YteehghjdifbjbaaChecked
import GoSem.Claim
import GoSem.ClaimJoined
import GoSem.ClaimMapViews
import Derived.JoinedTies
import Derived.KernelRfl
namespace Go.Proofs.Yteehghjdifbjbaa
/- THE CELL 'sum', in the pinned program and in every row, IS THE sha256 OF THE DUMP (.gsa) THAT YteehghjdifbjbaaProg.lean LOADS. Nothing in Lean hashes anything: it is a label: what it is worth is what the hold of that sum in a sandbox is worth. -/
noncomputable def Try.pinned : Pinned := { name := "yteehghjdifbjbaa", sum := "bb2c317de239378783a02ca3a0ec6f70982c5d53053d6c29abecb1f523758c5d", checked := Try.checked }
namespace Rows
def none {H : Type} : Left H := { results := [], args := [] }

/-- 'trunnionlaw11.MmuPlays': WHATEVER THE INPUT: true; the input reads as it did. -/
def mmuPlaysSpec : ChangeSpec := { name := "mmuPlays", fn := fun _ => fun
  | [d] => { results := [.lit (.bool true)], args := [d] }
  | _ => none }
def mmuPlaysRow : OpenClaim := { program := "yteehghjdifbjbaa", sum := "bb2c317de239378783a02ca3a0ec6f70982c5d53053d6c29abecb1f523758c5d", func := "trunnion/trunnionlaw11.MmuPlays", spec := "mmuPlays", unfollowed := true, recurses := true, plainKeys := false, apart := false }
def MmuPlaysSaid : Prop := mmuPlaysRow.holds Try.pinned (OpenSpec.ofChange mmuPlaysSpec)

/-- ITS FALSE NEIGHBOUR: 'it returns false'. Refute it at one input. -/
def mmuPlaysWrong : ChangeSpec := { name := "mmuPlays", fn := fun _ => fun
  | [d] => { results := [.lit (.bool false)], args := [d] }
  | _ => none }
def MmuPlaysWrongFalsely : Prop := mmuPlaysRow.holds Try.pinned (OpenSpec.ofChange mmuPlaysWrong)

/-- 'trunnionlaw11.MmuSwaps': WHATEVER THE INPUT: true; the input reads as it did. -/
def mmuSwapsSpec : ChangeSpec := { name := "mmuSwaps", fn := fun _ => fun
  | [d1, d2] => { results := [.lit (.bool true)], args := [d1, d2] }
  | _ => none }
def mmuSwapsRow : OpenClaim := { program := "yteehghjdifbjbaa", sum := "bb2c317de239378783a02ca3a0ec6f70982c5d53053d6c29abecb1f523758c5d", func := "trunnion/trunnionlaw11.MmuSwaps", spec := "mmuSwaps", inPlace := ["slices.overlaps[int]"], unfollowed := true, recurses := true, plainKeys := false, apart := false }
def MmuSwapsSaid : Prop := mmuSwapsRow.holds Try.pinned (OpenSpec.ofChange mmuSwapsSpec)

/-- ITS FALSE NEIGHBOUR: 'it returns false'. Refute it at one input. -/
def mmuSwapsWrong : ChangeSpec := { name := "mmuSwaps", fn := fun _ => fun
  | [d1, d2] => { results := [.lit (.bool false)], args := [d1, d2] }
  | _ => none }
def MmuSwapsWrongFalsely : Prop := mmuSwapsRow.holds Try.pinned (OpenSpec.ofChange mmuSwapsWrong)

/-- 'trunnionlaw11.MmuAlike': WHATEVER THE INPUT: true; the input reads as it did. -/
def mmuAlikeSpec : ChangeSpec := { name := "mmuAlike", fn := fun _ => fun
  | [d1, d2, d3] => { results := [.lit (.bool true)], args := [d1, d2, d3] }
  | _ => none }
def mmuAlikeRow : OpenClaim := { program := "yteehghjdifbjbaa", sum := "bb2c317de239378783a02ca3a0ec6f70982c5d53053d6c29abecb1f523758c5d", func := "trunnion/trunnionlaw11.MmuAlike", spec := "mmuAlike", inPlace := ["slices.overlaps[int]"], unfollowed := true, recurses := true, plainKeys := false, apart := false }
def MmuAlikeSaid : Prop := mmuAlikeRow.holds Try.pinned (OpenSpec.ofChange mmuAlikeSpec)

/-- ITS FALSE NEIGHBOUR: 'it returns false'. Refute it at one input. -/
def mmuAlikeWrong : ChangeSpec := { name := "mmuAlike", fn := fun _ => fun
  | [d1, d2, d3] => { results := [.lit (.bool false)], args := [d1, d2, d3] }
  | _ => none }
def MmuAlikeWrongFalsely : Prop := mmuAlikeRow.holds Try.pinned (OpenSpec.ofChange mmuAlikeWrong)

/-- 'trunnionlaw11.MmuSpaces': WHATEVER THE INPUT: true; the input reads as it did. -/
def mmuSpacesSpec : ChangeSpec := { name := "mmuSpaces", fn := fun _ => fun
  | [d] => { results := [.lit (.bool true)], args := [d] }
  | _ => none }
def mmuSpacesRow : OpenClaim := { program := "yteehghjdifbjbaa", sum := "bb2c317de239378783a02ca3a0ec6f70982c5d53053d6c29abecb1f523758c5d", func := "trunnion/trunnionlaw11.MmuSpaces", spec := "mmuSpaces", inPlace := ["slices.overlaps[int]"], unfollowed := true, recurses := true, plainKeys := false, apart := false }
def MmuSpacesSaid : Prop := mmuSpacesRow.holds Try.pinned (OpenSpec.ofChange mmuSpacesSpec)

/-- ITS FALSE NEIGHBOUR: 'it returns false'. Refute it at one input. -/
def mmuSpacesWrong : ChangeSpec := { name := "mmuSpaces", fn := fun _ => fun
  | [d] => { results := [.lit (.bool false)], args := [d] }
  | _ => none }
def MmuSpacesWrongFalsely : Prop := mmuSpacesRow.holds Try.pinned (OpenSpec.ofChange mmuSpacesWrong)

/- THE SECOND FORM. 'bulk': how many values and letters a reading holds, each counted each time it is reached (what is shared counts as often as it is met; a slice's spare places count too). A statement '..UptoSaid' is the law's where the arguments, and the package variables that the reading takes, are together of bulk at most 1048576: NARROWER than '..Said'. Prove '..Said' where nothing that the law and all that it calls make is longer than what came in: it says more and counts as full. Else prove '..UptoSaid'. A law counts once. -/
mutual
def uptoBulk {H : Type} : DataW H → Nat
  | .lit (.string bytes) => bytes.length + 1
  | .lit _ => 1
  | .nil => 1
  | .ptr d => uptoBulk d + 1
  | .slice elems spare => uptoBulkAll elems + uptoBulkAll spare + 1
  | .agg parts => uptoBulkAll parts + 1
  | .iface _ d => uptoBulk d + 1
  | .map entries => uptoBulkEntries entries + 1
  | .held _ => 1
def uptoBulkAll {H : Type} : List (DataW H) → Nat
  | [] => 0
  | d :: r => uptoBulk d + uptoBulkAll r
def uptoBulkEntries {H : Type} : List (Lit × DataW H) → Nat
  | [] => 0
  | x :: r => uptoBulkEntry x + uptoBulkEntries r
def uptoBulkEntry {H : Type} : Lit × DataW H → Nat
  | (.string bytes, d) => bytes.length + uptoBulk d + 1
  | (_, d) => uptoBulk d + 1
 end
def uptoSmall : (H : Type) → List (DataW H) → Bool := fun _ ds => decide (uptoBulkAll ds ≤ 1048576)
def OpenSpec.upto (s : _root_.Go.ChangeSpec) : _root_.Go.OpenSpec := { _root_.Go.OpenSpec.ofChange s with cond := some uptoSmall }

/-- 'trunnionlaw11.MmuPlays', WHERE WHAT IT READS IS OF BULK AT MOST 1048576: true; the input reads as it did. -/
def mmuPlaysUptoRow : OpenClaim := { program := "yteehghjdifbjbaa", sum := "bb2c317de239378783a02ca3a0ec6f70982c5d53053d6c29abecb1f523758c5d", func := "trunnion/trunnionlaw11.MmuPlays", spec := "mmuPlays", unfollowed := true, recurses := true, plainKeys := false, apart := false, narrowed := true }
def MmuPlaysUptoSaid : Prop := mmuPlaysUptoRow.holds Try.pinned (OpenSpec.upto mmuPlaysSpec)

/-- 'trunnionlaw11.MmuSwaps', WHERE WHAT IT READS IS OF BULK AT MOST 1048576: true; the input reads as it did. -/
def mmuSwapsUptoRow : OpenClaim := { program := "yteehghjdifbjbaa", sum := "bb2c317de239378783a02ca3a0ec6f70982c5d53053d6c29abecb1f523758c5d", func := "trunnion/trunnionlaw11.MmuSwaps", spec := "mmuSwaps", inPlace := ["slices.overlaps[int]"], unfollowed := true, recurses := true, plainKeys := false, apart := false, narrowed := true }
def MmuSwapsUptoSaid : Prop := mmuSwapsUptoRow.holds Try.pinned (OpenSpec.upto mmuSwapsSpec)

/-- 'trunnionlaw11.MmuAlike', WHERE WHAT IT READS IS OF BULK AT MOST 1048576: true; the input reads as it did. -/
def mmuAlikeUptoRow : OpenClaim := { program := "yteehghjdifbjbaa", sum := "bb2c317de239378783a02ca3a0ec6f70982c5d53053d6c29abecb1f523758c5d", func := "trunnion/trunnionlaw11.MmuAlike", spec := "mmuAlike", inPlace := ["slices.overlaps[int]"], unfollowed := true, recurses := true, plainKeys := false, apart := false, narrowed := true }
def MmuAlikeUptoSaid : Prop := mmuAlikeUptoRow.holds Try.pinned (OpenSpec.upto mmuAlikeSpec)

/-- 'trunnionlaw11.MmuSpaces', WHERE WHAT IT READS IS OF BULK AT MOST 1048576: true; the input reads as it did. -/
def mmuSpacesUptoRow : OpenClaim := { program := "yteehghjdifbjbaa", sum := "bb2c317de239378783a02ca3a0ec6f70982c5d53053d6c29abecb1f523758c5d", func := "trunnion/trunnionlaw11.MmuSpaces", spec := "mmuSpaces", inPlace := ["slices.overlaps[int]"], unfollowed := true, recurses := true, plainKeys := false, apart := false, narrowed := true }
def MmuSpacesUptoSaid : Prop := mmuSpacesUptoRow.holds Try.pinned (OpenSpec.upto mmuSpacesSpec)

end Rows
end Go.Proofs.Yteehghjdifbjbaa
