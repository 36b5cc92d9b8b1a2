/-
  No cell of these rows narrows 'for every input' (looked for: loops, veiled, ifaces, maps, wideKeys, modest, calm, conditions, laid).
  DERIVED. THE GIVEN ROWS OF THIS SEAT. 4 by the template 'for every input the law returns true; each argument reads behind the call as it read before'; 0 by the template 'total and deterministic' (their statements: YtffacjbnjcolgaaTotals.lean).
  GIVEN WITH THE SEED: the statements are not yours to turn. If you find one false, say at which input.
  Laid BY PROGRAM, IN A SANDBOX (cutbox-rows.mjs): the forced cells as the released guide's own fill.sh prints them over the translation a6db21ff0ef57d82… (all of the seat's roots in one cut). By AI agents, Wed Nov 11 2026. No macro, syntax, notation, axiom, sorry.
-/
import Derived.Test.YtffacjbnjcolgaaChecked
import GoSem.Claim
import GoSem.ClaimJoined
import GoSem.ClaimMapViews
import Derived.JoinedTies
import Derived.KernelRfl
namespace Go.Proofs.Ytffacjbnjcolgaa
/- THE CELL 'sum', in the pinned program and in every row, IS THE sha256 OF THE DUMP (.gsa) THAT YtffacjbnjcolgaaProg.lean LOADS. Nothing in Lean hashes anything: it is a label: what it is worth is what the hold of that sum in a sandbox is worth. -/
noncomputable def Try.pinned : Pinned := { name := "ytffacjbnjcolgaa", sum := "a6db21ff0ef57d826f9544ae8a2c2cb19ae7b0bc0c4c72d2dbf64d59fca47cb9", checked := Try.checked }
namespace Rows
def none {H : Type} : Left H := { results := [], args := [] }

/-- 'trunnionlaw19.WiresLead': WHATEVER THE INPUT: true; the input reads as it did. -/
def wiresLeadSpec : ChangeSpec := { name := "wiresLead", fn := fun _ => fun
  | [d1, d2, d3] => { results := [.lit (.bool true)], args := [d1, d2, d3] }
  | _ => none }
def wiresLeadRow : OpenClaim := { program := "ytffacjbnjcolgaa", sum := "a6db21ff0ef57d826f9544ae8a2c2cb19ae7b0bc0c4c72d2dbf64d59fca47cb9", func := "trunnion/trunnionlaw19.WiresLead", spec := "wiresLead", unfollowed := true, recurses := true, apart := false }
def WiresLeadSaid : Prop := wiresLeadRow.holds Try.pinned (OpenSpec.ofChange wiresLeadSpec)

/-- ITS FALSE NEIGHBOUR: 'it returns false'. Refute it at one input. -/
def wiresLeadWrong : ChangeSpec := { name := "wiresLead", fn := fun _ => fun
  | [d1, d2, d3] => { results := [.lit (.bool false)], args := [d1, d2, d3] }
  | _ => none }
def WiresLeadWrongFalsely : Prop := wiresLeadRow.holds Try.pinned (OpenSpec.ofChange wiresLeadWrong)

/-- 'trunnionlaw19.WiresAnew': WHATEVER THE INPUT: true; the input reads as it did. -/
def wiresAnewSpec : ChangeSpec := { name := "wiresAnew", fn := fun _ => fun
  | [d1, d2] => { results := [.lit (.bool true)], args := [d1, d2] }
  | _ => none }
def wiresAnewRow : OpenClaim := { program := "ytffacjbnjcolgaa", sum := "a6db21ff0ef57d826f9544ae8a2c2cb19ae7b0bc0c4c72d2dbf64d59fca47cb9", func := "trunnion/trunnionlaw19.WiresAnew", spec := "wiresAnew", unfollowed := true, recurses := true, apart := false }
def WiresAnewSaid : Prop := wiresAnewRow.holds Try.pinned (OpenSpec.ofChange wiresAnewSpec)

/-- ITS FALSE NEIGHBOUR: 'it returns false'. Refute it at one input. -/
def wiresAnewWrong : ChangeSpec := { name := "wiresAnew", fn := fun _ => fun
  | [d1, d2] => { results := [.lit (.bool false)], args := [d1, d2] }
  | _ => none }
def WiresAnewWrongFalsely : Prop := wiresAnewRow.holds Try.pinned (OpenSpec.ofChange wiresAnewWrong)

/-- 'trunnionlaw19.WiresApart': WHATEVER THE INPUT: true; the input reads as it did. -/
def wiresApartSpec : ChangeSpec := { name := "wiresApart", fn := fun _ => fun
  | [d1, d2, d3] => { results := [.lit (.bool true)], args := [d1, d2, d3] }
  | _ => none }
def wiresApartRow : OpenClaim := { program := "ytffacjbnjcolgaa", sum := "a6db21ff0ef57d826f9544ae8a2c2cb19ae7b0bc0c4c72d2dbf64d59fca47cb9", func := "trunnion/trunnionlaw19.WiresApart", spec := "wiresApart", unfollowed := true, recurses := true, apart := false }
def WiresApartSaid : Prop := wiresApartRow.holds Try.pinned (OpenSpec.ofChange wiresApartSpec)

/-- ITS FALSE NEIGHBOUR: 'it returns false'. Refute it at one input. -/
def wiresApartWrong : ChangeSpec := { name := "wiresApart", fn := fun _ => fun
  | [d1, d2, d3] => { results := [.lit (.bool false)], args := [d1, d2, d3] }
  | _ => none }
def WiresApartWrongFalsely : Prop := wiresApartRow.holds Try.pinned (OpenSpec.ofChange wiresApartWrong)

/-- 'trunnionlaw19.WiresPlays': WHATEVER THE INPUT: true; the input reads as it did. -/
def wiresPlaysSpec : ChangeSpec := { name := "wiresPlays", fn := fun _ => fun
  | [d] => { results := [.lit (.bool true)], args := [d] }
  | _ => none }
def wiresPlaysRow : OpenClaim := { program := "ytffacjbnjcolgaa", sum := "a6db21ff0ef57d826f9544ae8a2c2cb19ae7b0bc0c4c72d2dbf64d59fca47cb9", func := "trunnion/trunnionlaw19.WiresPlays", spec := "wiresPlays", unfollowed := true, recurses := true, apart := false }
def WiresPlaysSaid : Prop := wiresPlaysRow.holds Try.pinned (OpenSpec.ofChange wiresPlaysSpec)

/-- ITS FALSE NEIGHBOUR: 'it returns false'. Refute it at one input. -/
def wiresPlaysWrong : ChangeSpec := { name := "wiresPlays", fn := fun _ => fun
  | [d] => { results := [.lit (.bool false)], args := [d] }
  | _ => none }
def WiresPlaysWrongFalsely : Prop := wiresPlaysRow.holds Try.pinned (OpenSpec.ofChange wiresPlaysWrong)

/- THE SECOND FORM. 'bulk': how many values and letters a reading holds, each counted each time it is reached (what is shared counts as often as it is met; a slice's spare places count too). A statement '..UptoSaid' is the law's where the arguments, and the package variables that the reading takes, are together of bulk at most 1048576: NARROWER than '..Said'. Prove '..Said' where nothing that the law and all that it calls make is longer than what came in: it says more and counts as full. Else prove '..UptoSaid'. A law counts once. -/
mutual
def uptoBulk {H : Type} : DataW H → Nat
  | .lit (.string bytes) => bytes.length + 1
  | .lit _ => 1
  | .nil => 1
  | .ptr d => uptoBulk d + 1
  | .slice elems spare => uptoBulkAll elems + uptoBulkAll spare + 1
  | .agg parts => uptoBulkAll parts + 1
  | .iface _ d => uptoBulk d + 1
  | .map entries => uptoBulkEntries entries + 1
  | .held _ => 1
def uptoBulkAll {H : Type} : List (DataW H) → Nat
  | [] => 0
  | d :: r => uptoBulk d + uptoBulkAll r
def uptoBulkEntries {H : Type} : List (Lit × DataW H) → Nat
  | [] => 0
  | x :: r => uptoBulkEntry x + uptoBulkEntries r
def uptoBulkEntry {H : Type} : Lit × DataW H → Nat
  | (.string bytes, d) => bytes.length + uptoBulk d + 1
  | (_, d) => uptoBulk d + 1
 end
def uptoSmall : (H : Type) → List (DataW H) → Bool := fun _ ds => decide (uptoBulkAll ds ≤ 1048576)
def OpenSpec.upto (s : _root_.Go.ChangeSpec) : _root_.Go.OpenSpec := { _root_.Go.OpenSpec.ofChange s with cond := some uptoSmall }

/-- 'trunnionlaw19.WiresLead', WHERE WHAT IT READS IS OF BULK AT MOST 1048576: true; the input reads as it did. -/
def wiresLeadUptoRow : OpenClaim := { program := "ytffacjbnjcolgaa", sum := "a6db21ff0ef57d826f9544ae8a2c2cb19ae7b0bc0c4c72d2dbf64d59fca47cb9", func := "trunnion/trunnionlaw19.WiresLead", spec := "wiresLead", unfollowed := true, recurses := true, apart := false, narrowed := true }
def WiresLeadUptoSaid : Prop := wiresLeadUptoRow.holds Try.pinned (OpenSpec.upto wiresLeadSpec)

/-- 'trunnionlaw19.WiresAnew', WHERE WHAT IT READS IS OF BULK AT MOST 1048576: true; the input reads as it did. -/
def wiresAnewUptoRow : OpenClaim := { program := "ytffacjbnjcolgaa", sum := "a6db21ff0ef57d826f9544ae8a2c2cb19ae7b0bc0c4c72d2dbf64d59fca47cb9", func := "trunnion/trunnionlaw19.WiresAnew", spec := "wiresAnew", unfollowed := true, recurses := true, apart := false, narrowed := true }
def WiresAnewUptoSaid : Prop := wiresAnewUptoRow.holds Try.pinned (OpenSpec.upto wiresAnewSpec)

/-- 'trunnionlaw19.WiresApart', WHERE WHAT IT READS IS OF BULK AT MOST 1048576: true; the input reads as it did. -/
def wiresApartUptoRow : OpenClaim := { program := "ytffacjbnjcolgaa", sum := "a6db21ff0ef57d826f9544ae8a2c2cb19ae7b0bc0c4c72d2dbf64d59fca47cb9", func := "trunnion/trunnionlaw19.WiresApart", spec := "wiresApart", unfollowed := true, recurses := true, apart := false, narrowed := true }
def WiresApartUptoSaid : Prop := wiresApartUptoRow.holds Try.pinned (OpenSpec.upto wiresApartSpec)

/-- 'trunnionlaw19.WiresPlays', WHERE WHAT IT READS IS OF BULK AT MOST 1048576: true; the input reads as it did. -/
def wiresPlaysUptoRow : OpenClaim := { program := "ytffacjbnjcolgaa", sum := "a6db21ff0ef57d826f9544ae8a2c2cb19ae7b0bc0c4c72d2dbf64d59fca47cb9", func := "trunnion/trunnionlaw19.WiresPlays", spec := "wiresPlays", unfollowed := true, recurses := true, apart := false, narrowed := true }
def WiresPlaysUptoSaid : Prop := wiresPlaysUptoRow.holds Try.pinned (OpenSpec.upto wiresPlaysSpec)

end Rows
end Go.Proofs.Ytffacjbnjcolgaa
