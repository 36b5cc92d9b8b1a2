/-
  No cell of these rows narrows 'for every input' (looked for: loops, veiled, ifaces, maps, wideKeys, modest, calm, conditions, laid).
  DERIVED. THE GIVEN ROWS OF THIS SEAT. 10 by the template 'for every input the law returns true; each argument reads behind the call as it read before'; 0 by the template 'total and deterministic' (their statements: YtoiiblajgkdabaaTotals.lean).
  GIVEN WITH THE SEED: the statements are not yours to turn. If you find one false, say at which input.
  Laid BY PROGRAM, IN A SANDBOX (cutbox-rows.mjs): the forced cells as the released guide's own fill.sh prints them over the translation 133166a19ea6fb65… (all of the seat's roots in one cut). By AI agents, Wed Nov 11 2026. No macro, syntax, notation, axiom, sorry.
-/
import Derived.Test.YtoiiblajgkdabaaChecked
import GoSem.Claim
import GoSem.ClaimJoined
import GoSem.ClaimMapViews
import Derived.JoinedTies
import Derived.KernelRfl
namespace Go.Proofs.Ytoiiblajgkdabaa
/- THE CELL 'sum', in the pinned program and in every row, IS THE sha256 OF THE DUMP (.gsa) THAT YtoiiblajgkdabaaProg.lean LOADS. Nothing in Lean hashes anything: it is a label: what it is worth is what the hold of that sum in a sandbox is worth. -/
noncomputable def Try.pinned : Pinned := { name := "ytoiiblajgkdabaa", sum := "133166a19ea6fb6537788c9f5684d8f99786138a259fc226df7ad0bd0fc082f6", checked := Try.checked }
namespace Rows
def none {H : Type} : Left H := { results := [], args := [] }

/-- 'trunnionlaw04.BuddyMany': WHATEVER THE INPUT: true; the input reads as it did. -/
def buddyManySpec : ChangeSpec := { name := "buddyMany", fn := fun _ => fun
  | [d1, d2] => { results := [.lit (.bool true)], args := [d1, d2] }
  | _ => none }
def buddyManyRow : OpenClaim := { program := "ytoiiblajgkdabaa", sum := "133166a19ea6fb6537788c9f5684d8f99786138a259fc226df7ad0bd0fc082f6", func := "trunnion/trunnionlaw04.BuddyMany", spec := "buddyMany", inPlace := ["slices.overlaps[int]"], unfollowed := true, recurses := true, plainKeys := false, apart := false }
def BuddyManySaid : Prop := buddyManyRow.holds Try.pinned (OpenSpec.ofChange buddyManySpec)

/-- ITS FALSE NEIGHBOUR: 'it returns false'. Refute it at one input. -/
def buddyManyWrong : ChangeSpec := { name := "buddyMany", fn := fun _ => fun
  | [d1, d2] => { results := [.lit (.bool false)], args := [d1, d2] }
  | _ => none }
def BuddyManyWrongFalsely : Prop := buddyManyRow.holds Try.pinned (OpenSpec.ofChange buddyManyWrong)

/-- 'trunnionlaw04.BuddyBest': WHATEVER THE INPUT: true; the input reads as it did. -/
def buddyBestSpec : ChangeSpec := { name := "buddyBest", fn := fun _ => fun
  | [d1, d2, d3] => { results := [.lit (.bool true)], args := [d1, d2, d3] }
  | _ => none }
def buddyBestRow : OpenClaim := { program := "ytoiiblajgkdabaa", sum := "133166a19ea6fb6537788c9f5684d8f99786138a259fc226df7ad0bd0fc082f6", func := "trunnion/trunnionlaw04.BuddyBest", spec := "buddyBest", inPlace := ["slices.overlaps[int]"], unfollowed := true, recurses := true, plainKeys := false, apart := false }
def BuddyBestSaid : Prop := buddyBestRow.holds Try.pinned (OpenSpec.ofChange buddyBestSpec)

/-- ITS FALSE NEIGHBOUR: 'it returns false'. Refute it at one input. -/
def buddyBestWrong : ChangeSpec := { name := "buddyBest", fn := fun _ => fun
  | [d1, d2, d3] => { results := [.lit (.bool false)], args := [d1, d2, d3] }
  | _ => none }
def BuddyBestWrongFalsely : Prop := buddyBestRow.holds Try.pinned (OpenSpec.ofChange buddyBestWrong)

/-- 'trunnionlaw04.BuddyApart': WHATEVER THE INPUT: true; the input reads as it did. -/
def buddyApartSpec : ChangeSpec := { name := "buddyApart", fn := fun _ => fun
  | [d1, d2, d3] => { results := [.lit (.bool true)], args := [d1, d2, d3] }
  | _ => none }
def buddyApartRow : OpenClaim := { program := "ytoiiblajgkdabaa", sum := "133166a19ea6fb6537788c9f5684d8f99786138a259fc226df7ad0bd0fc082f6", func := "trunnion/trunnionlaw04.BuddyApart", spec := "buddyApart", inPlace := ["slices.overlaps[int]"], unfollowed := true, recurses := true, plainKeys := false, apart := false }
def BuddyApartSaid : Prop := buddyApartRow.holds Try.pinned (OpenSpec.ofChange buddyApartSpec)

/-- ITS FALSE NEIGHBOUR: 'it returns false'. Refute it at one input. -/
def buddyApartWrong : ChangeSpec := { name := "buddyApart", fn := fun _ => fun
  | [d1, d2, d3] => { results := [.lit (.bool false)], args := [d1, d2, d3] }
  | _ => none }
def BuddyApartWrongFalsely : Prop := buddyApartRow.holds Try.pinned (OpenSpec.ofChange buddyApartWrong)

/-- 'trunnionlaw04.BuddyRefuses': WHATEVER THE INPUT: true; the input reads as it did. -/
def buddyRefusesSpec : ChangeSpec := { name := "buddyRefuses", fn := fun _ => fun
  | [d1, d2, d3] => { results := [.lit (.bool true)], args := [d1, d2, d3] }
  | _ => none }
def buddyRefusesRow : OpenClaim := { program := "ytoiiblajgkdabaa", sum := "133166a19ea6fb6537788c9f5684d8f99786138a259fc226df7ad0bd0fc082f6", func := "trunnion/trunnionlaw04.BuddyRefuses", spec := "buddyRefuses", inPlace := ["slices.overlaps[int]"], unfollowed := true, recurses := true, plainKeys := false, apart := false }
def BuddyRefusesSaid : Prop := buddyRefusesRow.holds Try.pinned (OpenSpec.ofChange buddyRefusesSpec)

/-- ITS FALSE NEIGHBOUR: 'it returns false'. Refute it at one input. -/
def buddyRefusesWrong : ChangeSpec := { name := "buddyRefuses", fn := fun _ => fun
  | [d1, d2, d3] => { results := [.lit (.bool false)], args := [d1, d2, d3] }
  | _ => none }
def BuddyRefusesWrongFalsely : Prop := buddyRefusesRow.holds Try.pinned (OpenSpec.ofChange buddyRefusesWrong)

/-- 'trunnionlaw04.BuddyFrees': WHATEVER THE INPUT: true; the input reads as it did. -/
def buddyFreesSpec : ChangeSpec := { name := "buddyFrees", fn := fun _ => fun
  | [d1, d2, d3] => { results := [.lit (.bool true)], args := [d1, d2, d3] }
  | _ => none }
def buddyFreesRow : OpenClaim := { program := "ytoiiblajgkdabaa", sum := "133166a19ea6fb6537788c9f5684d8f99786138a259fc226df7ad0bd0fc082f6", func := "trunnion/trunnionlaw04.BuddyFrees", spec := "buddyFrees", inPlace := ["slices.overlaps[int]"], unfollowed := true, recurses := true, plainKeys := false, apart := false }
def BuddyFreesSaid : Prop := buddyFreesRow.holds Try.pinned (OpenSpec.ofChange buddyFreesSpec)

/-- ITS FALSE NEIGHBOUR: 'it returns false'. Refute it at one input. -/
def buddyFreesWrong : ChangeSpec := { name := "buddyFrees", fn := fun _ => fun
  | [d1, d2, d3] => { results := [.lit (.bool false)], args := [d1, d2, d3] }
  | _ => none }
def BuddyFreesWrongFalsely : Prop := buddyFreesRow.holds Try.pinned (OpenSpec.ofChange buddyFreesWrong)

/-- 'trunnionlaw04.BuddyWhole': WHATEVER THE INPUT: true; the input reads as it did. -/
def buddyWholeSpec : ChangeSpec := { name := "buddyWhole", fn := fun _ => fun
  | [d1, d2, d3] => { results := [.lit (.bool true)], args := [d1, d2, d3] }
  | _ => none }
def buddyWholeRow : OpenClaim := { program := "ytoiiblajgkdabaa", sum := "133166a19ea6fb6537788c9f5684d8f99786138a259fc226df7ad0bd0fc082f6", func := "trunnion/trunnionlaw04.BuddyWhole", spec := "buddyWhole", inPlace := ["slices.overlaps[int]"], unfollowed := true, recurses := true, plainKeys := false, apart := false }
def BuddyWholeSaid : Prop := buddyWholeRow.holds Try.pinned (OpenSpec.ofChange buddyWholeSpec)

/-- ITS FALSE NEIGHBOUR: 'it returns false'. Refute it at one input. -/
def buddyWholeWrong : ChangeSpec := { name := "buddyWhole", fn := fun _ => fun
  | [d1, d2, d3] => { results := [.lit (.bool false)], args := [d1, d2, d3] }
  | _ => none }
def BuddyWholeWrongFalsely : Prop := buddyWholeRow.holds Try.pinned (OpenSpec.ofChange buddyWholeWrong)

/-- 'trunnionlaw04.BuddyPlays': WHATEVER THE INPUT: true; the input reads as it did. -/
def buddyPlaysSpec : ChangeSpec := { name := "buddyPlays", fn := fun _ => fun
  | [d1, d2, d3] => { results := [.lit (.bool true)], args := [d1, d2, d3] }
  | _ => none }
def buddyPlaysRow : OpenClaim := { program := "ytoiiblajgkdabaa", sum := "133166a19ea6fb6537788c9f5684d8f99786138a259fc226df7ad0bd0fc082f6", func := "trunnion/trunnionlaw04.BuddyPlays", spec := "buddyPlays", inPlace := ["slices.overlaps[int]"], unfollowed := true, recurses := true, plainKeys := false, apart := false }
def BuddyPlaysSaid : Prop := buddyPlaysRow.holds Try.pinned (OpenSpec.ofChange buddyPlaysSpec)

/-- ITS FALSE NEIGHBOUR: 'it returns false'. Refute it at one input. -/
def buddyPlaysWrong : ChangeSpec := { name := "buddyPlays", fn := fun _ => fun
  | [d1, d2, d3] => { results := [.lit (.bool false)], args := [d1, d2, d3] }
  | _ => none }
def BuddyPlaysWrongFalsely : Prop := buddyPlaysRow.holds Try.pinned (OpenSpec.ofChange buddyPlaysWrong)

/-- 'trunnionlaw08.TablesLess': WHATEVER THE INPUT: true; the input reads as it did. -/
def tablesLessSpec : ChangeSpec := { name := "tablesLess", fn := fun _ => fun
  | [d] => { results := [.lit (.bool true)], args := [d] }
  | _ => none }
def tablesLessRow : OpenClaim := { program := "ytoiiblajgkdabaa", sum := "133166a19ea6fb6537788c9f5684d8f99786138a259fc226df7ad0bd0fc082f6", func := "trunnion/trunnionlaw08.TablesLess", spec := "tablesLess", inPlace := ["slices.overlaps[int]"], unfollowed := true, recurses := true, plainKeys := false, apart := false }
def TablesLessSaid : Prop := tablesLessRow.holds Try.pinned (OpenSpec.ofChange tablesLessSpec)

/-- ITS FALSE NEIGHBOUR: 'it returns false'. Refute it at one input. -/
def tablesLessWrong : ChangeSpec := { name := "tablesLess", fn := fun _ => fun
  | [d] => { results := [.lit (.bool false)], args := [d] }
  | _ => none }
def TablesLessWrongFalsely : Prop := tablesLessRow.holds Try.pinned (OpenSpec.ofChange tablesLessWrong)

/-- 'trunnionlaw08.TablesWalks': WHATEVER THE INPUT: true; the input reads as it did. -/
def tablesWalksSpec : ChangeSpec := { name := "tablesWalks", fn := fun _ => fun
  | [d1, d2] => { results := [.lit (.bool true)], args := [d1, d2] }
  | _ => none }
def tablesWalksRow : OpenClaim := { program := "ytoiiblajgkdabaa", sum := "133166a19ea6fb6537788c9f5684d8f99786138a259fc226df7ad0bd0fc082f6", func := "trunnion/trunnionlaw08.TablesWalks", spec := "tablesWalks", inPlace := ["slices.overlaps[int]"], unfollowed := true, recurses := true, plainKeys := false, apart := false }
def TablesWalksSaid : Prop := tablesWalksRow.holds Try.pinned (OpenSpec.ofChange tablesWalksSpec)

/-- ITS FALSE NEIGHBOUR: 'it returns false'. Refute it at one input. -/
def tablesWalksWrong : ChangeSpec := { name := "tablesWalks", fn := fun _ => fun
  | [d1, d2] => { results := [.lit (.bool false)], args := [d1, d2] }
  | _ => none }
def TablesWalksWrongFalsely : Prop := tablesWalksRow.holds Try.pinned (OpenSpec.ofChange tablesWalksWrong)

/-- 'trunnionlaw08.TablesBack': WHATEVER THE INPUT: true; the input reads as it did. -/
def tablesBackSpec : ChangeSpec := { name := "tablesBack", fn := fun _ => fun
  | [d1, d2] => { results := [.lit (.bool true)], args := [d1, d2] }
  | _ => none }
def tablesBackRow : OpenClaim := { program := "ytoiiblajgkdabaa", sum := "133166a19ea6fb6537788c9f5684d8f99786138a259fc226df7ad0bd0fc082f6", func := "trunnion/trunnionlaw08.TablesBack", spec := "tablesBack", inPlace := ["slices.overlaps[int]"], unfollowed := true, recurses := true, plainKeys := false, apart := false }
def TablesBackSaid : Prop := tablesBackRow.holds Try.pinned (OpenSpec.ofChange tablesBackSpec)

/-- ITS FALSE NEIGHBOUR: 'it returns false'. Refute it at one input. -/
def tablesBackWrong : ChangeSpec := { name := "tablesBack", fn := fun _ => fun
  | [d1, d2] => { results := [.lit (.bool false)], args := [d1, d2] }
  | _ => none }
def TablesBackWrongFalsely : Prop := tablesBackRow.holds Try.pinned (OpenSpec.ofChange tablesBackWrong)

/- THE SECOND FORM. 'bulk': how many values and letters a reading holds, each counted each time it is reached (what is shared counts as often as it is met; a slice's spare places count too). A statement '..UptoSaid' is the law's where the arguments, and the package variables that the reading takes, are together of bulk at most 1048576: NARROWER than '..Said'. Prove '..Said' where nothing that the law and all that it calls make is longer than what came in: it says more and counts as full. Else prove '..UptoSaid'. A law counts once. -/
mutual
def uptoBulk {H : Type} : DataW H → Nat
  | .lit (.string bytes) => bytes.length + 1
  | .lit _ => 1
  | .nil => 1
  | .ptr d => uptoBulk d + 1
  | .slice elems spare => uptoBulkAll elems + uptoBulkAll spare + 1
  | .agg parts => uptoBulkAll parts + 1
  | .iface _ d => uptoBulk d + 1
  | .map entries => uptoBulkEntries entries + 1
  | .held _ => 1
def uptoBulkAll {H : Type} : List (DataW H) → Nat
  | [] => 0
  | d :: r => uptoBulk d + uptoBulkAll r
def uptoBulkEntries {H : Type} : List (Lit × DataW H) → Nat
  | [] => 0
  | x :: r => uptoBulkEntry x + uptoBulkEntries r
def uptoBulkEntry {H : Type} : Lit × DataW H → Nat
  | (.string bytes, d) => bytes.length + uptoBulk d + 1
  | (_, d) => uptoBulk d + 1
 end
def uptoSmall : (H : Type) → List (DataW H) → Bool := fun _ ds => decide (uptoBulkAll ds ≤ 1048576)
def OpenSpec.upto (s : _root_.Go.ChangeSpec) : _root_.Go.OpenSpec := { _root_.Go.OpenSpec.ofChange s with cond := some uptoSmall }

/-- 'trunnionlaw04.BuddyMany', WHERE WHAT IT READS IS OF BULK AT MOST 1048576: true; the input reads as it did. -/
def buddyManyUptoRow : OpenClaim := { program := "ytoiiblajgkdabaa", sum := "133166a19ea6fb6537788c9f5684d8f99786138a259fc226df7ad0bd0fc082f6", func := "trunnion/trunnionlaw04.BuddyMany", spec := "buddyMany", inPlace := ["slices.overlaps[int]"], unfollowed := true, recurses := true, plainKeys := false, apart := false, narrowed := true }
def BuddyManyUptoSaid : Prop := buddyManyUptoRow.holds Try.pinned (OpenSpec.upto buddyManySpec)

/-- 'trunnionlaw04.BuddyBest', WHERE WHAT IT READS IS OF BULK AT MOST 1048576: true; the input reads as it did. -/
def buddyBestUptoRow : OpenClaim := { program := "ytoiiblajgkdabaa", sum := "133166a19ea6fb6537788c9f5684d8f99786138a259fc226df7ad0bd0fc082f6", func := "trunnion/trunnionlaw04.BuddyBest", spec := "buddyBest", inPlace := ["slices.overlaps[int]"], unfollowed := true, recurses := true, plainKeys := false, apart := false, narrowed := true }
def BuddyBestUptoSaid : Prop := buddyBestUptoRow.holds Try.pinned (OpenSpec.upto buddyBestSpec)

/-- 'trunnionlaw04.BuddyApart', WHERE WHAT IT READS IS OF BULK AT MOST 1048576: true; the input reads as it did. -/
def buddyApartUptoRow : OpenClaim := { program := "ytoiiblajgkdabaa", sum := "133166a19ea6fb6537788c9f5684d8f99786138a259fc226df7ad0bd0fc082f6", func := "trunnion/trunnionlaw04.BuddyApart", spec := "buddyApart", inPlace := ["slices.overlaps[int]"], unfollowed := true, recurses := true, plainKeys := false, apart := false, narrowed := true }
def BuddyApartUptoSaid : Prop := buddyApartUptoRow.holds Try.pinned (OpenSpec.upto buddyApartSpec)

/-- 'trunnionlaw04.BuddyRefuses', WHERE WHAT IT READS IS OF BULK AT MOST 1048576: true; the input reads as it did. -/
def buddyRefusesUptoRow : OpenClaim := { program := "ytoiiblajgkdabaa", sum := "133166a19ea6fb6537788c9f5684d8f99786138a259fc226df7ad0bd0fc082f6", func := "trunnion/trunnionlaw04.BuddyRefuses", spec := "buddyRefuses", inPlace := ["slices.overlaps[int]"], unfollowed := true, recurses := true, plainKeys := false, apart := false, narrowed := true }
def BuddyRefusesUptoSaid : Prop := buddyRefusesUptoRow.holds Try.pinned (OpenSpec.upto buddyRefusesSpec)

/-- 'trunnionlaw04.BuddyFrees', WHERE WHAT IT READS IS OF BULK AT MOST 1048576: true; the input reads as it did. -/
def buddyFreesUptoRow : OpenClaim := { program := "ytoiiblajgkdabaa", sum := "133166a19ea6fb6537788c9f5684d8f99786138a259fc226df7ad0bd0fc082f6", func := "trunnion/trunnionlaw04.BuddyFrees", spec := "buddyFrees", inPlace := ["slices.overlaps[int]"], unfollowed := true, recurses := true, plainKeys := false, apart := false, narrowed := true }
def BuddyFreesUptoSaid : Prop := buddyFreesUptoRow.holds Try.pinned (OpenSpec.upto buddyFreesSpec)

/-- 'trunnionlaw04.BuddyWhole', WHERE WHAT IT READS IS OF BULK AT MOST 1048576: true; the input reads as it did. -/
def buddyWholeUptoRow : OpenClaim := { program := "ytoiiblajgkdabaa", sum := "133166a19ea6fb6537788c9f5684d8f99786138a259fc226df7ad0bd0fc082f6", func := "trunnion/trunnionlaw04.BuddyWhole", spec := "buddyWhole", inPlace := ["slices.overlaps[int]"], unfollowed := true, recurses := true, plainKeys := false, apart := false, narrowed := true }
def BuddyWholeUptoSaid : Prop := buddyWholeUptoRow.holds Try.pinned (OpenSpec.upto buddyWholeSpec)

/-- 'trunnionlaw04.BuddyPlays', WHERE WHAT IT READS IS OF BULK AT MOST 1048576: true; the input reads as it did. -/
def buddyPlaysUptoRow : OpenClaim := { program := "ytoiiblajgkdabaa", sum := "133166a19ea6fb6537788c9f5684d8f99786138a259fc226df7ad0bd0fc082f6", func := "trunnion/trunnionlaw04.BuddyPlays", spec := "buddyPlays", inPlace := ["slices.overlaps[int]"], unfollowed := true, recurses := true, plainKeys := false, apart := false, narrowed := true }
def BuddyPlaysUptoSaid : Prop := buddyPlaysUptoRow.holds Try.pinned (OpenSpec.upto buddyPlaysSpec)

/-- 'trunnionlaw08.TablesLess', WHERE WHAT IT READS IS OF BULK AT MOST 1048576: true; the input reads as it did. -/
def tablesLessUptoRow : OpenClaim := { program := "ytoiiblajgkdabaa", sum := "133166a19ea6fb6537788c9f5684d8f99786138a259fc226df7ad0bd0fc082f6", func := "trunnion/trunnionlaw08.TablesLess", spec := "tablesLess", inPlace := ["slices.overlaps[int]"], unfollowed := true, recurses := true, plainKeys := false, apart := false, narrowed := true }
def TablesLessUptoSaid : Prop := tablesLessUptoRow.holds Try.pinned (OpenSpec.upto tablesLessSpec)

/-- 'trunnionlaw08.TablesWalks', WHERE WHAT IT READS IS OF BULK AT MOST 1048576: true; the input reads as it did. -/
def tablesWalksUptoRow : OpenClaim := { program := "ytoiiblajgkdabaa", sum := "133166a19ea6fb6537788c9f5684d8f99786138a259fc226df7ad0bd0fc082f6", func := "trunnion/trunnionlaw08.TablesWalks", spec := "tablesWalks", inPlace := ["slices.overlaps[int]"], unfollowed := true, recurses := true, plainKeys := false, apart := false, narrowed := true }
def TablesWalksUptoSaid : Prop := tablesWalksUptoRow.holds Try.pinned (OpenSpec.upto tablesWalksSpec)

/-- 'trunnionlaw08.TablesBack', WHERE WHAT IT READS IS OF BULK AT MOST 1048576: true; the input reads as it did. -/
def tablesBackUptoRow : OpenClaim := { program := "ytoiiblajgkdabaa", sum := "133166a19ea6fb6537788c9f5684d8f99786138a259fc226df7ad0bd0fc082f6", func := "trunnion/trunnionlaw08.TablesBack", spec := "tablesBack", inPlace := ["slices.overlaps[int]"], unfollowed := true, recurses := true, plainKeys := false, apart := false, narrowed := true }
def TablesBackUptoSaid : Prop := tablesBackUptoRow.holds Try.pinned (OpenSpec.upto tablesBackSpec)

end Rows
end Go.Proofs.Ytoiiblajgkdabaa
