/-
  No cell of these rows narrows 'for every input' (looked for: loops, veiled, ifaces, maps, wideKeys, modest, calm, conditions, laid).
  DERIVED. THE GIVEN ROWS OF THIS SEAT. 7 by the template 'for every input the law returns true; each argument reads behind the call as it read before'; 0 by the template 'total and deterministic' (their statements: YtfjfdhojhikgdaaTotals.lean).
  GIVEN WITH THE SEED: the statements are not yours to turn. If you find one false, say at which input.
  Laid BY PROGRAM, IN A SANDBOX (cutbox-rows.mjs): the forced cells as the released guide's own fill.sh prints them over the translation 6510ec714f5a47ff… (all of the seat's roots in one cut). By AI agents, Wed Nov 11 2026. No macro, syntax, notation, axiom, sorry.
-/
import Derived.Test.YtfjfdhojhikgdaaChecked
import GoSem.Claim
import GoSem.ClaimJoined
import GoSem.ClaimMapViews
import Derived.JoinedTies
import Derived.KernelRfl
namespace Go.Proofs.Ytfjfdhojhikgdaa
/- THE CELL 'sum', in the pinned program and in every row, IS THE sha256 OF THE DUMP (.gsa) THAT YtfjfdhojhikgdaaProg.lean LOADS. Nothing in Lean hashes anything: it is a label: what it is worth is what the hold of that sum in a sandbox is worth. -/
noncomputable def Try.pinned : Pinned := { name := "ytfjfdhojhikgdaa", sum := "6510ec714f5a47ffb191def5a07c08c8330ad230aa05048814f9ab543f3200f9", checked := Try.checked }
namespace Rows
def none {H : Type} : Left H := { results := [], args := [] }

/-- 'trunnionlaw13.CpuSteps': WHATEVER THE INPUT: true; the input reads as it did. -/
def cpuStepsSpec : ChangeSpec := { name := "cpuSteps", fn := fun _ => fun
  | [d1, d2, d3] => { results := [.lit (.bool true)], args := [d1, d2, d3] }
  | _ => none }
def cpuStepsRow : OpenClaim := { program := "ytfjfdhojhikgdaa", sum := "6510ec714f5a47ffb191def5a07c08c8330ad230aa05048814f9ab543f3200f9", func := "trunnion/trunnionlaw13.CpuSteps", spec := "cpuSteps", inPlace := ["internal/bytealg.IndexByteString", "internal/bytealg.IndexString"], unfollowed := true, recurses := true, named := ["internal/bytealg.MaxLen"], apart := false }
def CpuStepsSaid : Prop := cpuStepsRow.holds Try.pinned (OpenSpec.ofChange cpuStepsSpec)

/-- ITS FALSE NEIGHBOUR: 'it returns false'. Refute it at one input. -/
def cpuStepsWrong : ChangeSpec := { name := "cpuSteps", fn := fun _ => fun
  | [d1, d2, d3] => { results := [.lit (.bool false)], args := [d1, d2, d3] }
  | _ => none }
def CpuStepsWrongFalsely : Prop := cpuStepsRow.holds Try.pinned (OpenSpec.ofChange cpuStepsWrong)

/-- 'trunnionlaw13.CpuRuns': WHATEVER THE INPUT: true; the input reads as it did. -/
def cpuRunsSpec : ChangeSpec := { name := "cpuRuns", fn := fun _ => fun
  | [d1, d2, d3] => { results := [.lit (.bool true)], args := [d1, d2, d3] }
  | _ => none }
def cpuRunsRow : OpenClaim := { program := "ytfjfdhojhikgdaa", sum := "6510ec714f5a47ffb191def5a07c08c8330ad230aa05048814f9ab543f3200f9", func := "trunnion/trunnionlaw13.CpuRuns", spec := "cpuRuns", inPlace := ["internal/bytealg.IndexByteString", "internal/bytealg.IndexString"], unfollowed := true, recurses := true, named := ["internal/bytealg.MaxLen"], apart := false }
def CpuRunsSaid : Prop := cpuRunsRow.holds Try.pinned (OpenSpec.ofChange cpuRunsSpec)

/-- ITS FALSE NEIGHBOUR: 'it returns false'. Refute it at one input. -/
def cpuRunsWrong : ChangeSpec := { name := "cpuRuns", fn := fun _ => fun
  | [d1, d2, d3] => { results := [.lit (.bool false)], args := [d1, d2, d3] }
  | _ => none }
def CpuRunsWrongFalsely : Prop := cpuRunsRow.holds Try.pinned (OpenSpec.ofChange cpuRunsWrong)

/-- 'trunnionlaw13.CpuParts': WHATEVER THE INPUT: true; the input reads as it did. -/
def cpuPartsSpec : ChangeSpec := { name := "cpuParts", fn := fun _ => fun
  | [d1, d2, d3] => { results := [.lit (.bool true)], args := [d1, d2, d3] }
  | _ => none }
def cpuPartsRow : OpenClaim := { program := "ytfjfdhojhikgdaa", sum := "6510ec714f5a47ffb191def5a07c08c8330ad230aa05048814f9ab543f3200f9", func := "trunnion/trunnionlaw13.CpuParts", spec := "cpuParts", inPlace := ["internal/bytealg.IndexByteString", "internal/bytealg.IndexString"], unfollowed := true, recurses := true, named := ["internal/bytealg.MaxLen"], apart := false }
def CpuPartsSaid : Prop := cpuPartsRow.holds Try.pinned (OpenSpec.ofChange cpuPartsSpec)

/-- ITS FALSE NEIGHBOUR: 'it returns false'. Refute it at one input. -/
def cpuPartsWrong : ChangeSpec := { name := "cpuParts", fn := fun _ => fun
  | [d1, d2, d3] => { results := [.lit (.bool false)], args := [d1, d2, d3] }
  | _ => none }
def CpuPartsWrongFalsely : Prop := cpuPartsRow.holds Try.pinned (OpenSpec.ofChange cpuPartsWrong)

/-- 'trunnionlaw13.CpuHangs': WHATEVER THE INPUT: true; the input reads as it did. -/
def cpuHangsSpec : ChangeSpec := { name := "cpuHangs", fn := fun _ => fun
  | [d1, d2, d3] => { results := [.lit (.bool true)], args := [d1, d2, d3] }
  | _ => none }
def cpuHangsRow : OpenClaim := { program := "ytfjfdhojhikgdaa", sum := "6510ec714f5a47ffb191def5a07c08c8330ad230aa05048814f9ab543f3200f9", func := "trunnion/trunnionlaw13.CpuHangs", spec := "cpuHangs", inPlace := ["internal/bytealg.IndexByteString", "internal/bytealg.IndexString"], unfollowed := true, recurses := true, named := ["internal/bytealg.MaxLen"], apart := false }
def CpuHangsSaid : Prop := cpuHangsRow.holds Try.pinned (OpenSpec.ofChange cpuHangsSpec)

/-- ITS FALSE NEIGHBOUR: 'it returns false'. Refute it at one input. -/
def cpuHangsWrong : ChangeSpec := { name := "cpuHangs", fn := fun _ => fun
  | [d1, d2, d3] => { results := [.lit (.bool false)], args := [d1, d2, d3] }
  | _ => none }
def CpuHangsWrongFalsely : Prop := cpuHangsRow.holds Try.pinned (OpenSpec.ofChange cpuHangsWrong)

/-- 'trunnionlaw13.CpuSums': WHATEVER THE INPUT: true; the input reads as it did. -/
def cpuSumsSpec : ChangeSpec := { name := "cpuSums", fn := fun _ => fun
  | [d] => { results := [.lit (.bool true)], args := [d] }
  | _ => none }
def cpuSumsRow : OpenClaim := { program := "ytfjfdhojhikgdaa", sum := "6510ec714f5a47ffb191def5a07c08c8330ad230aa05048814f9ab543f3200f9", func := "trunnion/trunnionlaw13.CpuSums", spec := "cpuSums", inPlace := ["internal/bytealg.IndexByteString", "internal/bytealg.IndexString"], unfollowed := true, recurses := true, named := ["internal/bytealg.MaxLen"], apart := false }
def CpuSumsSaid : Prop := cpuSumsRow.holds Try.pinned (OpenSpec.ofChange cpuSumsSpec)

/-- ITS FALSE NEIGHBOUR: 'it returns false'. Refute it at one input. -/
def cpuSumsWrong : ChangeSpec := { name := "cpuSums", fn := fun _ => fun
  | [d] => { results := [.lit (.bool false)], args := [d] }
  | _ => none }
def CpuSumsWrongFalsely : Prop := cpuSumsRow.holds Try.pinned (OpenSpec.ofChange cpuSumsWrong)

/-- 'trunnionlaw13.CpuFails': WHATEVER THE INPUT: true; the input reads as it did. -/
def cpuFailsSpec : ChangeSpec := { name := "cpuFails", fn := fun _ => fun
  | [d1, d2, d3] => { results := [.lit (.bool true)], args := [d1, d2, d3] }
  | _ => none }
def cpuFailsRow : OpenClaim := { program := "ytfjfdhojhikgdaa", sum := "6510ec714f5a47ffb191def5a07c08c8330ad230aa05048814f9ab543f3200f9", func := "trunnion/trunnionlaw13.CpuFails", spec := "cpuFails", inPlace := ["internal/bytealg.IndexByteString", "internal/bytealg.IndexString"], unfollowed := true, recurses := true, named := ["internal/bytealg.MaxLen"], apart := false }
def CpuFailsSaid : Prop := cpuFailsRow.holds Try.pinned (OpenSpec.ofChange cpuFailsSpec)

/-- ITS FALSE NEIGHBOUR: 'it returns false'. Refute it at one input. -/
def cpuFailsWrong : ChangeSpec := { name := "cpuFails", fn := fun _ => fun
  | [d1, d2, d3] => { results := [.lit (.bool false)], args := [d1, d2, d3] }
  | _ => none }
def CpuFailsWrongFalsely : Prop := cpuFailsRow.holds Try.pinned (OpenSpec.ofChange cpuFailsWrong)

/-- 'trunnionlaw13.CpuCopies': WHATEVER THE INPUT: true; the input reads as it did. -/
def cpuCopiesSpec : ChangeSpec := { name := "cpuCopies", fn := fun _ => fun
  | [d] => { results := [.lit (.bool true)], args := [d] }
  | _ => none }
def cpuCopiesRow : OpenClaim := { program := "ytfjfdhojhikgdaa", sum := "6510ec714f5a47ffb191def5a07c08c8330ad230aa05048814f9ab543f3200f9", func := "trunnion/trunnionlaw13.CpuCopies", spec := "cpuCopies", inPlace := ["internal/bytealg.IndexByteString", "internal/bytealg.IndexString"], unfollowed := true, recurses := true, named := ["internal/bytealg.MaxLen"], apart := false }
def CpuCopiesSaid : Prop := cpuCopiesRow.holds Try.pinned (OpenSpec.ofChange cpuCopiesSpec)

/-- ITS FALSE NEIGHBOUR: 'it returns false'. Refute it at one input. -/
def cpuCopiesWrong : ChangeSpec := { name := "cpuCopies", fn := fun _ => fun
  | [d] => { results := [.lit (.bool false)], args := [d] }
  | _ => none }
def CpuCopiesWrongFalsely : Prop := cpuCopiesRow.holds Try.pinned (OpenSpec.ofChange cpuCopiesWrong)

/- THE SECOND FORM. 'bulk': how many values and letters a reading holds, each counted each time it is reached (what is shared counts as often as it is met; a slice's spare places count too). A statement '..UptoSaid' is the law's where the arguments, and the package variables that the reading takes, are together of bulk at most 1048576: NARROWER than '..Said'. Prove '..Said' where nothing that the law and all that it calls make is longer than what came in: it says more and counts as full. Else prove '..UptoSaid'. A law counts once. -/
mutual
def uptoBulk {H : Type} : DataW H → Nat
  | .lit (.string bytes) => bytes.length + 1
  | .lit _ => 1
  | .nil => 1
  | .ptr d => uptoBulk d + 1
  | .slice elems spare => uptoBulkAll elems + uptoBulkAll spare + 1
  | .agg parts => uptoBulkAll parts + 1
  | .iface _ d => uptoBulk d + 1
  | .map entries => uptoBulkEntries entries + 1
  | .held _ => 1
def uptoBulkAll {H : Type} : List (DataW H) → Nat
  | [] => 0
  | d :: r => uptoBulk d + uptoBulkAll r
def uptoBulkEntries {H : Type} : List (Lit × DataW H) → Nat
  | [] => 0
  | x :: r => uptoBulkEntry x + uptoBulkEntries r
def uptoBulkEntry {H : Type} : Lit × DataW H → Nat
  | (.string bytes, d) => bytes.length + uptoBulk d + 1
  | (_, d) => uptoBulk d + 1
 end
def uptoSmall : (H : Type) → List (DataW H) → Bool := fun _ ds => decide (uptoBulkAll ds ≤ 1048576)
def OpenSpec.upto (s : _root_.Go.ChangeSpec) : _root_.Go.OpenSpec := { _root_.Go.OpenSpec.ofChange s with cond := some uptoSmall }

/-- 'trunnionlaw13.CpuSteps', WHERE WHAT IT READS IS OF BULK AT MOST 1048576: true; the input reads as it did. -/
def cpuStepsUptoRow : OpenClaim := { program := "ytfjfdhojhikgdaa", sum := "6510ec714f5a47ffb191def5a07c08c8330ad230aa05048814f9ab543f3200f9", func := "trunnion/trunnionlaw13.CpuSteps", spec := "cpuSteps", inPlace := ["internal/bytealg.IndexByteString", "internal/bytealg.IndexString"], unfollowed := true, recurses := true, named := ["internal/bytealg.MaxLen"], apart := false, narrowed := true }
def CpuStepsUptoSaid : Prop := cpuStepsUptoRow.holds Try.pinned (OpenSpec.upto cpuStepsSpec)

/-- 'trunnionlaw13.CpuRuns', WHERE WHAT IT READS IS OF BULK AT MOST 1048576: true; the input reads as it did. -/
def cpuRunsUptoRow : OpenClaim := { program := "ytfjfdhojhikgdaa", sum := "6510ec714f5a47ffb191def5a07c08c8330ad230aa05048814f9ab543f3200f9", func := "trunnion/trunnionlaw13.CpuRuns", spec := "cpuRuns", inPlace := ["internal/bytealg.IndexByteString", "internal/bytealg.IndexString"], unfollowed := true, recurses := true, named := ["internal/bytealg.MaxLen"], apart := false, narrowed := true }
def CpuRunsUptoSaid : Prop := cpuRunsUptoRow.holds Try.pinned (OpenSpec.upto cpuRunsSpec)

/-- 'trunnionlaw13.CpuParts', WHERE WHAT IT READS IS OF BULK AT MOST 1048576: true; the input reads as it did. -/
def cpuPartsUptoRow : OpenClaim := { program := "ytfjfdhojhikgdaa", sum := "6510ec714f5a47ffb191def5a07c08c8330ad230aa05048814f9ab543f3200f9", func := "trunnion/trunnionlaw13.CpuParts", spec := "cpuParts", inPlace := ["internal/bytealg.IndexByteString", "internal/bytealg.IndexString"], unfollowed := true, recurses := true, named := ["internal/bytealg.MaxLen"], apart := false, narrowed := true }
def CpuPartsUptoSaid : Prop := cpuPartsUptoRow.holds Try.pinned (OpenSpec.upto cpuPartsSpec)

/-- 'trunnionlaw13.CpuHangs', WHERE WHAT IT READS IS OF BULK AT MOST 1048576: true; the input reads as it did. -/
def cpuHangsUptoRow : OpenClaim := { program := "ytfjfdhojhikgdaa", sum := "6510ec714f5a47ffb191def5a07c08c8330ad230aa05048814f9ab543f3200f9", func := "trunnion/trunnionlaw13.CpuHangs", spec := "cpuHangs", inPlace := ["internal/bytealg.IndexByteString", "internal/bytealg.IndexString"], unfollowed := true, recurses := true, named := ["internal/bytealg.MaxLen"], apart := false, narrowed := true }
def CpuHangsUptoSaid : Prop := cpuHangsUptoRow.holds Try.pinned (OpenSpec.upto cpuHangsSpec)

/-- 'trunnionlaw13.CpuSums', WHERE WHAT IT READS IS OF BULK AT MOST 1048576: true; the input reads as it did. -/
def cpuSumsUptoRow : OpenClaim := { program := "ytfjfdhojhikgdaa", sum := "6510ec714f5a47ffb191def5a07c08c8330ad230aa05048814f9ab543f3200f9", func := "trunnion/trunnionlaw13.CpuSums", spec := "cpuSums", inPlace := ["internal/bytealg.IndexByteString", "internal/bytealg.IndexString"], unfollowed := true, recurses := true, named := ["internal/bytealg.MaxLen"], apart := false, narrowed := true }
def CpuSumsUptoSaid : Prop := cpuSumsUptoRow.holds Try.pinned (OpenSpec.upto cpuSumsSpec)

/-- 'trunnionlaw13.CpuFails', WHERE WHAT IT READS IS OF BULK AT MOST 1048576: true; the input reads as it did. -/
def cpuFailsUptoRow : OpenClaim := { program := "ytfjfdhojhikgdaa", sum := "6510ec714f5a47ffb191def5a07c08c8330ad230aa05048814f9ab543f3200f9", func := "trunnion/trunnionlaw13.CpuFails", spec := "cpuFails", inPlace := ["internal/bytealg.IndexByteString", "internal/bytealg.IndexString"], unfollowed := true, recurses := true, named := ["internal/bytealg.MaxLen"], apart := false, narrowed := true }
def CpuFailsUptoSaid : Prop := cpuFailsUptoRow.holds Try.pinned (OpenSpec.upto cpuFailsSpec)

/-- 'trunnionlaw13.CpuCopies', WHERE WHAT IT READS IS OF BULK AT MOST 1048576: true; the input reads as it did. -/
def cpuCopiesUptoRow : OpenClaim := { program := "ytfjfdhojhikgdaa", sum := "6510ec714f5a47ffb191def5a07c08c8330ad230aa05048814f9ab543f3200f9", func := "trunnion/trunnionlaw13.CpuCopies", spec := "cpuCopies", inPlace := ["internal/bytealg.IndexByteString", "internal/bytealg.IndexString"], unfollowed := true, recurses := true, named := ["internal/bytealg.MaxLen"], apart := false, narrowed := true }
def CpuCopiesUptoSaid : Prop := cpuCopiesUptoRow.holds Try.pinned (OpenSpec.upto cpuCopiesSpec)

end Rows
end Go.Proofs.Ytfjfdhojhikgdaa
