/-
  No cell of these rows narrows 'for every input' (looked for: loops, veiled, ifaces, maps, wideKeys, modest, calm, conditions, laid).
  DERIVED. THE GIVEN ROWS OF THIS SEAT. 9 by the template 'for every input the law returns true; each argument reads behind the call as it read before'; 0 by the template 'total and deterministic' (their statements: YtnodcmmifbcbiaaTotals.lean).
  GIVEN WITH THE SEED: the statements are not yours to turn. If you find one false, say at which input.
  Laid BY PROGRAM, IN A SANDBOX (cutbox-rows.mjs): the forced cells as the released guide's own fill.sh prints them over the translation db557e261b3e2e95… (all of the seat's roots in one cut). By AI agents, Wed Nov 11 2026. No macro, syntax, notation, axiom, sorry.
-/
import Derived.Test.YtnodcmmifbcbiaaChecked
import GoSem.Claim
import GoSem.ClaimJoined
import GoSem.ClaimMapViews
import Derived.JoinedTies
import Derived.KernelRfl
namespace Go.Proofs.Ytnodcmmifbcbiaa
/- THE CELL 'sum', in the pinned program and in every row, IS THE sha256 OF THE DUMP (.gsa) THAT YtnodcmmifbcbiaaProg.lean LOADS. Nothing in Lean hashes anything: it is a label: what it is worth is what the hold of that sum in a sandbox is worth. -/
noncomputable def Try.pinned : Pinned := { name := "ytnodcmmifbcbiaa", sum := "db557e261b3e2e95d0bf12555eda0a599e2fc8df80d5c1f1f3397ac40743a40d", checked := Try.checked }
namespace Rows
def none {H : Type} : Left H := { results := [], args := [] }

/-- 'trunnionlaw06.EntrySplits': WHATEVER THE INPUT: true; the input reads as it did. -/
def entrySplitsSpec : ChangeSpec := { name := "entrySplits", fn := fun _ => fun
  | [d] => { results := [.lit (.bool true)], args := [d] }
  | _ => none }
def entrySplitsRow : OpenClaim := { program := "ytnodcmmifbcbiaa", sum := "db557e261b3e2e95d0bf12555eda0a599e2fc8df80d5c1f1f3397ac40743a40d", func := "trunnion/trunnionlaw06.EntrySplits", spec := "entrySplits", apart := false }
def EntrySplitsSaid : Prop := entrySplitsRow.holds Try.pinned (OpenSpec.ofChange entrySplitsSpec)

/-- ITS FALSE NEIGHBOUR: 'it returns false'. Refute it at one input. -/
def entrySplitsWrong : ChangeSpec := { name := "entrySplits", fn := fun _ => fun
  | [d] => { results := [.lit (.bool false)], args := [d] }
  | _ => none }
def EntrySplitsWrongFalsely : Prop := entrySplitsRow.holds Try.pinned (OpenSpec.ofChange entrySplitsWrong)

/-- 'trunnionlaw06.EntryPages': WHATEVER THE INPUT: true; the input reads as it did. -/
def entryPagesSpec : ChangeSpec := { name := "entryPages", fn := fun _ => fun
  | [d1, d2, d3] => { results := [.lit (.bool true)], args := [d1, d2, d3] }
  | _ => none }
def entryPagesRow : OpenClaim := { program := "ytnodcmmifbcbiaa", sum := "db557e261b3e2e95d0bf12555eda0a599e2fc8df80d5c1f1f3397ac40743a40d", func := "trunnion/trunnionlaw06.EntryPages", spec := "entryPages", apart := false }
def EntryPagesSaid : Prop := entryPagesRow.holds Try.pinned (OpenSpec.ofChange entryPagesSpec)

/-- ITS FALSE NEIGHBOUR: 'it returns false'. Refute it at one input. -/
def entryPagesWrong : ChangeSpec := { name := "entryPages", fn := fun _ => fun
  | [d1, d2, d3] => { results := [.lit (.bool false)], args := [d1, d2, d3] }
  | _ => none }
def EntryPagesWrongFalsely : Prop := entryPagesRow.holds Try.pinned (OpenSpec.ofChange entryPagesWrong)

/-- 'trunnionlaw06.EntryPlaces': WHATEVER THE INPUT: true; the input reads as it did. -/
def entryPlacesSpec : ChangeSpec := { name := "entryPlaces", fn := fun _ => fun
  | [d1, d2] => { results := [.lit (.bool true)], args := [d1, d2] }
  | _ => none }
def entryPlacesRow : OpenClaim := { program := "ytnodcmmifbcbiaa", sum := "db557e261b3e2e95d0bf12555eda0a599e2fc8df80d5c1f1f3397ac40743a40d", func := "trunnion/trunnionlaw06.EntryPlaces", spec := "entryPlaces", apart := false }
def EntryPlacesSaid : Prop := entryPlacesRow.holds Try.pinned (OpenSpec.ofChange entryPlacesSpec)

/-- ITS FALSE NEIGHBOUR: 'it returns false'. Refute it at one input. -/
def entryPlacesWrong : ChangeSpec := { name := "entryPlaces", fn := fun _ => fun
  | [d1, d2] => { results := [.lit (.bool false)], args := [d1, d2] }
  | _ => none }
def EntryPlacesWrongFalsely : Prop := entryPlacesRow.holds Try.pinned (OpenSpec.ofChange entryPlacesWrong)

/-- 'trunnionlaw06.EntryWords': WHATEVER THE INPUT: true; the input reads as it did. -/
def entryWordsSpec : ChangeSpec := { name := "entryWords", fn := fun _ => fun
  | [d1, d2] => { results := [.lit (.bool true)], args := [d1, d2] }
  | _ => none }
def entryWordsRow : OpenClaim := { program := "ytnodcmmifbcbiaa", sum := "db557e261b3e2e95d0bf12555eda0a599e2fc8df80d5c1f1f3397ac40743a40d", func := "trunnion/trunnionlaw06.EntryWords", spec := "entryWords", apart := false }
def EntryWordsSaid : Prop := entryWordsRow.holds Try.pinned (OpenSpec.ofChange entryWordsSpec)

/-- ITS FALSE NEIGHBOUR: 'it returns false'. Refute it at one input. -/
def entryWordsWrong : ChangeSpec := { name := "entryWords", fn := fun _ => fun
  | [d1, d2] => { results := [.lit (.bool false)], args := [d1, d2] }
  | _ => none }
def EntryWordsWrongFalsely : Prop := entryWordsRow.holds Try.pinned (OpenSpec.ofChange entryWordsWrong)

/-- 'trunnionlaw06.EntryBack': WHATEVER THE INPUT: true; the input reads as it did. -/
def entryBackSpec : ChangeSpec := { name := "entryBack", fn := fun _ => fun
  | [d1, d2] => { results := [.lit (.bool true)], args := [d1, d2] }
  | _ => none }
def entryBackRow : OpenClaim := { program := "ytnodcmmifbcbiaa", sum := "db557e261b3e2e95d0bf12555eda0a599e2fc8df80d5c1f1f3397ac40743a40d", func := "trunnion/trunnionlaw06.EntryBack", spec := "entryBack", apart := false }
def EntryBackSaid : Prop := entryBackRow.holds Try.pinned (OpenSpec.ofChange entryBackSpec)

/-- ITS FALSE NEIGHBOUR: 'it returns false'. Refute it at one input. -/
def entryBackWrong : ChangeSpec := { name := "entryBack", fn := fun _ => fun
  | [d1, d2] => { results := [.lit (.bool false)], args := [d1, d2] }
  | _ => none }
def EntryBackWrongFalsely : Prop := entryBackRow.holds Try.pinned (OpenSpec.ofChange entryBackWrong)

/-- 'trunnionlaw07.WalkPlays': WHATEVER THE INPUT: true; the input reads as it did. -/
def walkPlaysSpec : ChangeSpec := { name := "walkPlays", fn := fun _ => fun
  | [d1, d2, d3] => { results := [.lit (.bool true)], args := [d1, d2, d3] }
  | _ => none }
def walkPlaysRow : OpenClaim := { program := "ytnodcmmifbcbiaa", sum := "db557e261b3e2e95d0bf12555eda0a599e2fc8df80d5c1f1f3397ac40743a40d", func := "trunnion/trunnionlaw07.WalkPlays", spec := "walkPlays", apart := false }
def WalkPlaysSaid : Prop := walkPlaysRow.holds Try.pinned (OpenSpec.ofChange walkPlaysSpec)

/-- ITS FALSE NEIGHBOUR: 'it returns false'. Refute it at one input. -/
def walkPlaysWrong : ChangeSpec := { name := "walkPlays", fn := fun _ => fun
  | [d1, d2, d3] => { results := [.lit (.bool false)], args := [d1, d2, d3] }
  | _ => none }
def WalkPlaysWrongFalsely : Prop := walkPlaysRow.holds Try.pinned (OpenSpec.ofChange walkPlaysWrong)

/-- 'trunnionlaw07.WalkOwn': WHATEVER THE INPUT: true; the input reads as it did. -/
def walkOwnSpec : ChangeSpec := { name := "walkOwn", fn := fun _ => fun
  | [d1, d2] => { results := [.lit (.bool true)], args := [d1, d2] }
  | _ => none }
def walkOwnRow : OpenClaim := { program := "ytnodcmmifbcbiaa", sum := "db557e261b3e2e95d0bf12555eda0a599e2fc8df80d5c1f1f3397ac40743a40d", func := "trunnion/trunnionlaw07.WalkOwn", spec := "walkOwn", apart := false }
def WalkOwnSaid : Prop := walkOwnRow.holds Try.pinned (OpenSpec.ofChange walkOwnSpec)

/-- ITS FALSE NEIGHBOUR: 'it returns false'. Refute it at one input. -/
def walkOwnWrong : ChangeSpec := { name := "walkOwn", fn := fun _ => fun
  | [d1, d2] => { results := [.lit (.bool false)], args := [d1, d2] }
  | _ => none }
def WalkOwnWrongFalsely : Prop := walkOwnRow.holds Try.pinned (OpenSpec.ofChange walkOwnWrong)

/-- 'trunnionlaw07.WalkPut': WHATEVER THE INPUT: true; the input reads as it did. -/
def walkPutSpec : ChangeSpec := { name := "walkPut", fn := fun _ => fun
  | [d1, d2, d3] => { results := [.lit (.bool true)], args := [d1, d2, d3] }
  | _ => none }
def walkPutRow : OpenClaim := { program := "ytnodcmmifbcbiaa", sum := "db557e261b3e2e95d0bf12555eda0a599e2fc8df80d5c1f1f3397ac40743a40d", func := "trunnion/trunnionlaw07.WalkPut", spec := "walkPut", apart := false }
def WalkPutSaid : Prop := walkPutRow.holds Try.pinned (OpenSpec.ofChange walkPutSpec)

/-- ITS FALSE NEIGHBOUR: 'it returns false'. Refute it at one input. -/
def walkPutWrong : ChangeSpec := { name := "walkPut", fn := fun _ => fun
  | [d1, d2, d3] => { results := [.lit (.bool false)], args := [d1, d2, d3] }
  | _ => none }
def WalkPutWrongFalsely : Prop := walkPutRow.holds Try.pinned (OpenSpec.ofChange walkPutWrong)

/-- 'trunnionlaw07.WalkSteps': WHATEVER THE INPUT: true; the input reads as it did. -/
def walkStepsSpec : ChangeSpec := { name := "walkSteps", fn := fun _ => fun
  | [d1, d2] => { results := [.lit (.bool true)], args := [d1, d2] }
  | _ => none }
def walkStepsRow : OpenClaim := { program := "ytnodcmmifbcbiaa", sum := "db557e261b3e2e95d0bf12555eda0a599e2fc8df80d5c1f1f3397ac40743a40d", func := "trunnion/trunnionlaw07.WalkSteps", spec := "walkSteps", apart := false }
def WalkStepsSaid : Prop := walkStepsRow.holds Try.pinned (OpenSpec.ofChange walkStepsSpec)

/-- ITS FALSE NEIGHBOUR: 'it returns false'. Refute it at one input. -/
def walkStepsWrong : ChangeSpec := { name := "walkSteps", fn := fun _ => fun
  | [d1, d2] => { results := [.lit (.bool false)], args := [d1, d2] }
  | _ => none }
def WalkStepsWrongFalsely : Prop := walkStepsRow.holds Try.pinned (OpenSpec.ofChange walkStepsWrong)

/- THE SECOND FORM. 'bulk': how many values and letters a reading holds, each counted each time it is reached (what is shared counts as often as it is met; a slice's spare places count too). A statement '..UptoSaid' is the law's where the arguments, and the package variables that the reading takes, are together of bulk at most 1048576: NARROWER than '..Said'. Prove '..Said' where nothing that the law and all that it calls make is longer than what came in: it says more and counts as full. Else prove '..UptoSaid'. A law counts once. -/
mutual
def uptoBulk {H : Type} : DataW H → Nat
  | .lit (.string bytes) => bytes.length + 1
  | .lit _ => 1
  | .nil => 1
  | .ptr d => uptoBulk d + 1
  | .slice elems spare => uptoBulkAll elems + uptoBulkAll spare + 1
  | .agg parts => uptoBulkAll parts + 1
  | .iface _ d => uptoBulk d + 1
  | .map entries => uptoBulkEntries entries + 1
  | .held _ => 1
def uptoBulkAll {H : Type} : List (DataW H) → Nat
  | [] => 0
  | d :: r => uptoBulk d + uptoBulkAll r
def uptoBulkEntries {H : Type} : List (Lit × DataW H) → Nat
  | [] => 0
  | x :: r => uptoBulkEntry x + uptoBulkEntries r
def uptoBulkEntry {H : Type} : Lit × DataW H → Nat
  | (.string bytes, d) => bytes.length + uptoBulk d + 1
  | (_, d) => uptoBulk d + 1
 end
def uptoSmall : (H : Type) → List (DataW H) → Bool := fun _ ds => decide (uptoBulkAll ds ≤ 1048576)
def OpenSpec.upto (s : _root_.Go.ChangeSpec) : _root_.Go.OpenSpec := { _root_.Go.OpenSpec.ofChange s with cond := some uptoSmall }

/-- 'trunnionlaw06.EntrySplits', WHERE WHAT IT READS IS OF BULK AT MOST 1048576: true; the input reads as it did. -/
def entrySplitsUptoRow : OpenClaim := { program := "ytnodcmmifbcbiaa", sum := "db557e261b3e2e95d0bf12555eda0a599e2fc8df80d5c1f1f3397ac40743a40d", func := "trunnion/trunnionlaw06.EntrySplits", spec := "entrySplits", apart := false, narrowed := true }
def EntrySplitsUptoSaid : Prop := entrySplitsUptoRow.holds Try.pinned (OpenSpec.upto entrySplitsSpec)

/-- 'trunnionlaw06.EntryPages', WHERE WHAT IT READS IS OF BULK AT MOST 1048576: true; the input reads as it did. -/
def entryPagesUptoRow : OpenClaim := { program := "ytnodcmmifbcbiaa", sum := "db557e261b3e2e95d0bf12555eda0a599e2fc8df80d5c1f1f3397ac40743a40d", func := "trunnion/trunnionlaw06.EntryPages", spec := "entryPages", apart := false, narrowed := true }
def EntryPagesUptoSaid : Prop := entryPagesUptoRow.holds Try.pinned (OpenSpec.upto entryPagesSpec)

/-- 'trunnionlaw06.EntryPlaces', WHERE WHAT IT READS IS OF BULK AT MOST 1048576: true; the input reads as it did. -/
def entryPlacesUptoRow : OpenClaim := { program := "ytnodcmmifbcbiaa", sum := "db557e261b3e2e95d0bf12555eda0a599e2fc8df80d5c1f1f3397ac40743a40d", func := "trunnion/trunnionlaw06.EntryPlaces", spec := "entryPlaces", apart := false, narrowed := true }
def EntryPlacesUptoSaid : Prop := entryPlacesUptoRow.holds Try.pinned (OpenSpec.upto entryPlacesSpec)

/-- 'trunnionlaw06.EntryWords', WHERE WHAT IT READS IS OF BULK AT MOST 1048576: true; the input reads as it did. -/
def entryWordsUptoRow : OpenClaim := { program := "ytnodcmmifbcbiaa", sum := "db557e261b3e2e95d0bf12555eda0a599e2fc8df80d5c1f1f3397ac40743a40d", func := "trunnion/trunnionlaw06.EntryWords", spec := "entryWords", apart := false, narrowed := true }
def EntryWordsUptoSaid : Prop := entryWordsUptoRow.holds Try.pinned (OpenSpec.upto entryWordsSpec)

/-- 'trunnionlaw06.EntryBack', WHERE WHAT IT READS IS OF BULK AT MOST 1048576: true; the input reads as it did. -/
def entryBackUptoRow : OpenClaim := { program := "ytnodcmmifbcbiaa", sum := "db557e261b3e2e95d0bf12555eda0a599e2fc8df80d5c1f1f3397ac40743a40d", func := "trunnion/trunnionlaw06.EntryBack", spec := "entryBack", apart := false, narrowed := true }
def EntryBackUptoSaid : Prop := entryBackUptoRow.holds Try.pinned (OpenSpec.upto entryBackSpec)

/-- 'trunnionlaw07.WalkPlays', WHERE WHAT IT READS IS OF BULK AT MOST 1048576: true; the input reads as it did. -/
def walkPlaysUptoRow : OpenClaim := { program := "ytnodcmmifbcbiaa", sum := "db557e261b3e2e95d0bf12555eda0a599e2fc8df80d5c1f1f3397ac40743a40d", func := "trunnion/trunnionlaw07.WalkPlays", spec := "walkPlays", apart := false, narrowed := true }
def WalkPlaysUptoSaid : Prop := walkPlaysUptoRow.holds Try.pinned (OpenSpec.upto walkPlaysSpec)

/-- 'trunnionlaw07.WalkOwn', WHERE WHAT IT READS IS OF BULK AT MOST 1048576: true; the input reads as it did. -/
def walkOwnUptoRow : OpenClaim := { program := "ytnodcmmifbcbiaa", sum := "db557e261b3e2e95d0bf12555eda0a599e2fc8df80d5c1f1f3397ac40743a40d", func := "trunnion/trunnionlaw07.WalkOwn", spec := "walkOwn", apart := false, narrowed := true }
def WalkOwnUptoSaid : Prop := walkOwnUptoRow.holds Try.pinned (OpenSpec.upto walkOwnSpec)

/-- 'trunnionlaw07.WalkPut', WHERE WHAT IT READS IS OF BULK AT MOST 1048576: true; the input reads as it did. -/
def walkPutUptoRow : OpenClaim := { program := "ytnodcmmifbcbiaa", sum := "db557e261b3e2e95d0bf12555eda0a599e2fc8df80d5c1f1f3397ac40743a40d", func := "trunnion/trunnionlaw07.WalkPut", spec := "walkPut", apart := false, narrowed := true }
def WalkPutUptoSaid : Prop := walkPutUptoRow.holds Try.pinned (OpenSpec.upto walkPutSpec)

/-- 'trunnionlaw07.WalkSteps', WHERE WHAT IT READS IS OF BULK AT MOST 1048576: true; the input reads as it did. -/
def walkStepsUptoRow : OpenClaim := { program := "ytnodcmmifbcbiaa", sum := "db557e261b3e2e95d0bf12555eda0a599e2fc8df80d5c1f1f3397ac40743a40d", func := "trunnion/trunnionlaw07.WalkSteps", spec := "walkSteps", apart := false, narrowed := true }
def WalkStepsUptoSaid : Prop := walkStepsUptoRow.holds Try.pinned (OpenSpec.upto walkStepsSpec)

end Rows
end Go.Proofs.Ytnodcmmifbcbiaa
