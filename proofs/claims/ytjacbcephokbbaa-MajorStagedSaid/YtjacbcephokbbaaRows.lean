/-
  No cell of these rows narrows 'for every input' (looked for: loops, veiled, ifaces, maps, wideKeys, modest, calm, conditions, laid).
  DERIVED. THE GIVEN ROWS OF THIS SEAT. 3 by the template 'for every input the law returns true; each argument reads behind the call as it read before'; 0 by the template 'total and deterministic' (their statements: YtjacbcephokbbaaTotals.lean).
  GIVEN WITH THE SEED: the statements are not yours to turn. If you find one false, say at which input.
  Laid BY PROGRAM, IN A SANDBOX (cutbox-rows.mjs): the forced cells as the released guide's own fill.sh prints them over the translation 646394e358b2f73d… (all of the seat's roots in one cut). By AI agents, Wed Nov 11 2026. No macro, syntax, notation, axiom, sorry.
-/
import Derived.Test.YtjacbcephokbbaaChecked
import GoSem.Claim
import GoSem.ClaimJoined
import GoSem.ClaimMapViews
import Derived.JoinedTies
import Derived.KernelRfl
namespace Go.Proofs.Ytjacbcephokbbaa
/- THE CELL 'sum', in the pinned program and in every row, IS THE sha256 OF THE DUMP (.gsa) THAT YtjacbcephokbbaaProg.lean LOADS. Nothing in Lean hashes anything: it is a label: what it is worth is what the hold of that sum in a sandbox is worth. -/
noncomputable def Try.pinned : Pinned := { name := "ytjacbcephokbbaa", sum := "646394e358b2f73de8afdf6320091dca51bb2bdd783cf55e5e6b32e167df8488", checked := Try.checked }
namespace Rows
def none {H : Type} : Left H := { results := [], args := [] }

/-- 'trunnionlaw16.MajorWindows': WHATEVER THE INPUT: true; the input reads as it did. -/
def majorWindowsSpec : ChangeSpec := { name := "majorWindows", fn := fun _ => fun
  | [d1, d2, d3] => { results := [.lit (.bool true)], args := [d1, d2, d3] }
  | _ => none }
def majorWindowsRow : OpenClaim := { program := "ytjacbcephokbbaa", sum := "646394e358b2f73de8afdf6320091dca51bb2bdd783cf55e5e6b32e167df8488", func := "trunnion/trunnionlaw16.MajorWindows", spec := "majorWindows", unfollowed := true, recurses := true, apart := false }
def MajorWindowsSaid : Prop := majorWindowsRow.holds Try.pinned (OpenSpec.ofChange majorWindowsSpec)

/-- ITS FALSE NEIGHBOUR: 'it returns false'. Refute it at one input. -/
def majorWindowsWrong : ChangeSpec := { name := "majorWindows", fn := fun _ => fun
  | [d1, d2, d3] => { results := [.lit (.bool false)], args := [d1, d2, d3] }
  | _ => none }
def MajorWindowsWrongFalsely : Prop := majorWindowsRow.holds Try.pinned (OpenSpec.ofChange majorWindowsWrong)

/-- 'trunnionlaw16.MajorStaged': WHATEVER THE INPUT: true; the input reads as it did. -/
def majorStagedSpec : ChangeSpec := { name := "majorStaged", fn := fun _ => fun
  | [d1, d2, d3] => { results := [.lit (.bool true)], args := [d1, d2, d3] }
  | _ => none }
def majorStagedRow : OpenClaim := { program := "ytjacbcephokbbaa", sum := "646394e358b2f73de8afdf6320091dca51bb2bdd783cf55e5e6b32e167df8488", func := "trunnion/trunnionlaw16.MajorStaged", spec := "majorStaged", unfollowed := true, recurses := true, apart := false }
def MajorStagedSaid : Prop := majorStagedRow.holds Try.pinned (OpenSpec.ofChange majorStagedSpec)

/-- ITS FALSE NEIGHBOUR: 'it returns false'. Refute it at one input. -/
def majorStagedWrong : ChangeSpec := { name := "majorStaged", fn := fun _ => fun
  | [d1, d2, d3] => { results := [.lit (.bool false)], args := [d1, d2, d3] }
  | _ => none }
def MajorStagedWrongFalsely : Prop := majorStagedRow.holds Try.pinned (OpenSpec.ofChange majorStagedWrong)

/-- 'trunnionlaw16.MajorPlays': WHATEVER THE INPUT: true; the input reads as it did. -/
def majorPlaysSpec : ChangeSpec := { name := "majorPlays", fn := fun _ => fun
  | [d1, d2, d3] => { results := [.lit (.bool true)], args := [d1, d2, d3] }
  | _ => none }
def majorPlaysRow : OpenClaim := { program := "ytjacbcephokbbaa", sum := "646394e358b2f73de8afdf6320091dca51bb2bdd783cf55e5e6b32e167df8488", func := "trunnion/trunnionlaw16.MajorPlays", spec := "majorPlays", unfollowed := true, recurses := true, apart := false }
def MajorPlaysSaid : Prop := majorPlaysRow.holds Try.pinned (OpenSpec.ofChange majorPlaysSpec)

/-- ITS FALSE NEIGHBOUR: 'it returns false'. Refute it at one input. -/
def majorPlaysWrong : ChangeSpec := { name := "majorPlays", fn := fun _ => fun
  | [d1, d2, d3] => { results := [.lit (.bool false)], args := [d1, d2, d3] }
  | _ => none }
def MajorPlaysWrongFalsely : Prop := majorPlaysRow.holds Try.pinned (OpenSpec.ofChange majorPlaysWrong)

/- THE SECOND FORM. 'bulk': how many values and letters a reading holds, each counted each time it is reached (what is shared counts as often as it is met; a slice's spare places count too). A statement '..UptoSaid' is the law's where the arguments, and the package variables that the reading takes, are together of bulk at most 1048576: NARROWER than '..Said'. Prove '..Said' where nothing that the law and all that it calls make is longer than what came in: it says more and counts as full. Else prove '..UptoSaid'. A law counts once. -/
mutual
def uptoBulk {H : Type} : DataW H → Nat
  | .lit (.string bytes) => bytes.length + 1
  | .lit _ => 1
  | .nil => 1
  | .ptr d => uptoBulk d + 1
  | .slice elems spare => uptoBulkAll elems + uptoBulkAll spare + 1
  | .agg parts => uptoBulkAll parts + 1
  | .iface _ d => uptoBulk d + 1
  | .map entries => uptoBulkEntries entries + 1
  | .held _ => 1
def uptoBulkAll {H : Type} : List (DataW H) → Nat
  | [] => 0
  | d :: r => uptoBulk d + uptoBulkAll r
def uptoBulkEntries {H : Type} : List (Lit × DataW H) → Nat
  | [] => 0
  | x :: r => uptoBulkEntry x + uptoBulkEntries r
def uptoBulkEntry {H : Type} : Lit × DataW H → Nat
  | (.string bytes, d) => bytes.length + uptoBulk d + 1
  | (_, d) => uptoBulk d + 1
 end
def uptoSmall : (H : Type) → List (DataW H) → Bool := fun _ ds => decide (uptoBulkAll ds ≤ 1048576)
def OpenSpec.upto (s : _root_.Go.ChangeSpec) : _root_.Go.OpenSpec := { _root_.Go.OpenSpec.ofChange s with cond := some uptoSmall }

/-- 'trunnionlaw16.MajorWindows', WHERE WHAT IT READS IS OF BULK AT MOST 1048576: true; the input reads as it did. -/
def majorWindowsUptoRow : OpenClaim := { program := "ytjacbcephokbbaa", sum := "646394e358b2f73de8afdf6320091dca51bb2bdd783cf55e5e6b32e167df8488", func := "trunnion/trunnionlaw16.MajorWindows", spec := "majorWindows", unfollowed := true, recurses := true, apart := false, narrowed := true }
def MajorWindowsUptoSaid : Prop := majorWindowsUptoRow.holds Try.pinned (OpenSpec.upto majorWindowsSpec)

/-- 'trunnionlaw16.MajorStaged', WHERE WHAT IT READS IS OF BULK AT MOST 1048576: true; the input reads as it did. -/
def majorStagedUptoRow : OpenClaim := { program := "ytjacbcephokbbaa", sum := "646394e358b2f73de8afdf6320091dca51bb2bdd783cf55e5e6b32e167df8488", func := "trunnion/trunnionlaw16.MajorStaged", spec := "majorStaged", unfollowed := true, recurses := true, apart := false, narrowed := true }
def MajorStagedUptoSaid : Prop := majorStagedUptoRow.holds Try.pinned (OpenSpec.upto majorStagedSpec)

/-- 'trunnionlaw16.MajorPlays', WHERE WHAT IT READS IS OF BULK AT MOST 1048576: true; the input reads as it did. -/
def majorPlaysUptoRow : OpenClaim := { program := "ytjacbcephokbbaa", sum := "646394e358b2f73de8afdf6320091dca51bb2bdd783cf55e5e6b32e167df8488", func := "trunnion/trunnionlaw16.MajorPlays", spec := "majorPlays", unfollowed := true, recurses := true, apart := false, narrowed := true }
def MajorPlaysUptoSaid : Prop := majorPlaysUptoRow.holds Try.pinned (OpenSpec.upto majorPlaysSpec)

end Rows
end Go.Proofs.Ytjacbcephokbbaa
