/-
  DERIVED. GIVEN WITH THE SEED: THE CARDS: each row of YtjacbcephokbbaaDoorRows.lean that lists a variable, with what it lists TIED to the program's text (the seventh form; the later family's looks); each row that meets fmt, with fmt's text TOLD by the authors' own Lean function (tested against real Go, not proved from fmt's source: count such statements apart). THE CARD IS WHAT COUNTS. Prove the row's statement (the work); the ties are given (YtjacbcephokbbaaDoorTie.lean); close each card by the builder's one call (the guide's Derived/Test/ToyasCard.lean, 'card_holds'). Laid BY PROGRAM, IN A SANDBOX (cutbox-door.mjs). By AI agents, Wed Nov 11 2026. No macro, syntax, notation, axiom, sorry.
-/
import Derived.Test.YtjacbcephokbbaaDoorRows
import GoSem.ClaimSeven
namespace Go.Proofs.YtjacbcephokbbaaDoor
namespace Rows

/-- THE TIED CARD OF 'trunnionlaw15.SlotsFirst'. -/
def slotsFirstCard : Claim7 := { stood := { row := slotsFirstRow, standIns := [], harness := (true, "9988a2592d1fa53068282adcd17718d454d27f33238b74c43e2721091b5acd39"), looks := false }, kinds := [], alts := [], laidByText := true, laidKinds := [.data], laidTests := true, laidLooks := .later }
def SlotsFirstCardSaid : Prop := Claim7.holds Tryd.pinned (.plain (OpenSpec.ofChange slotsFirstSpec)) slotsFirstCard

/-- THE TIED CARD OF 'trunnionlaw15.SlotsApart'. -/
def slotsApartCard : Claim7 := { stood := { row := slotsApartRow, standIns := [], harness := (true, "9988a2592d1fa53068282adcd17718d454d27f33238b74c43e2721091b5acd39"), looks := false }, kinds := [], alts := [], laidByText := true, laidKinds := [.data], laidTests := true, laidLooks := .later }
def SlotsApartCardSaid : Prop := Claim7.holds Tryd.pinned (.plain (OpenSpec.ofChange slotsApartSpec)) slotsApartCard

/-- THE TIED CARD OF 'trunnionlaw15.SlotsOthers'. -/
def slotsOthersCard : Claim7 := { stood := { row := slotsOthersRow, standIns := [], harness := (true, "9988a2592d1fa53068282adcd17718d454d27f33238b74c43e2721091b5acd39"), looks := false }, kinds := [], alts := [], laidByText := true, laidKinds := [.data], laidTests := true, laidLooks := .later }
def SlotsOthersCardSaid : Prop := Claim7.holds Tryd.pinned (.plain (OpenSpec.ofChange slotsOthersSpec)) slotsOthersCard

/-- THE TIED CARD OF 'trunnionlaw15.SlotsBack'. -/
def slotsBackCard : Claim7 := { stood := { row := slotsBackRow, standIns := [], harness := (true, "9988a2592d1fa53068282adcd17718d454d27f33238b74c43e2721091b5acd39"), looks := false }, kinds := [], alts := [], laidByText := true, laidKinds := [.data], laidTests := true, laidLooks := .later }
def SlotsBackCardSaid : Prop := Claim7.holds Tryd.pinned (.plain (OpenSpec.ofChange slotsBackSpec)) slotsBackCard

/-- THE TIED CARD OF 'trunnionlaw15.SlotsPlays'. -/
def slotsPlaysCard : Claim7 := { stood := { row := slotsPlaysRow, standIns := [], harness := (true, "9988a2592d1fa53068282adcd17718d454d27f33238b74c43e2721091b5acd39"), looks := false }, kinds := [], alts := [], laidByText := true, laidKinds := [.data], laidTests := true, laidLooks := .later }
def SlotsPlaysCardSaid : Prop := Claim7.holds Tryd.pinned (.plain (OpenSpec.ofChange slotsPlaysSpec)) slotsPlaysCard

/-- THE SECOND FORM's CARD OF 'trunnionlaw15.SlotsFirst'. -/
def slotsFirstUptoCard : Claim7 := { stood := { row := slotsFirstUptoRow, standIns := [], harness := (true, "9988a2592d1fa53068282adcd17718d454d27f33238b74c43e2721091b5acd39"), looks := false }, kinds := [], alts := [], laidByText := true, laidKinds := [.data], laidTests := true, laidLooks := .later }
def SlotsFirstUptoCardSaid : Prop := Claim7.holds Tryd.pinned (.plain (OpenSpec.upto slotsFirstSpec)) slotsFirstUptoCard

/-- THE SECOND FORM's CARD OF 'trunnionlaw15.SlotsApart'. -/
def slotsApartUptoCard : Claim7 := { stood := { row := slotsApartUptoRow, standIns := [], harness := (true, "9988a2592d1fa53068282adcd17718d454d27f33238b74c43e2721091b5acd39"), looks := false }, kinds := [], alts := [], laidByText := true, laidKinds := [.data], laidTests := true, laidLooks := .later }
def SlotsApartUptoCardSaid : Prop := Claim7.holds Tryd.pinned (.plain (OpenSpec.upto slotsApartSpec)) slotsApartUptoCard

/-- THE SECOND FORM's CARD OF 'trunnionlaw15.SlotsOthers'. -/
def slotsOthersUptoCard : Claim7 := { stood := { row := slotsOthersUptoRow, standIns := [], harness := (true, "9988a2592d1fa53068282adcd17718d454d27f33238b74c43e2721091b5acd39"), looks := false }, kinds := [], alts := [], laidByText := true, laidKinds := [.data], laidTests := true, laidLooks := .later }
def SlotsOthersUptoCardSaid : Prop := Claim7.holds Tryd.pinned (.plain (OpenSpec.upto slotsOthersSpec)) slotsOthersUptoCard

/-- THE SECOND FORM's CARD OF 'trunnionlaw15.SlotsBack'. -/
def slotsBackUptoCard : Claim7 := { stood := { row := slotsBackUptoRow, standIns := [], harness := (true, "9988a2592d1fa53068282adcd17718d454d27f33238b74c43e2721091b5acd39"), looks := false }, kinds := [], alts := [], laidByText := true, laidKinds := [.data], laidTests := true, laidLooks := .later }
def SlotsBackUptoCardSaid : Prop := Claim7.holds Tryd.pinned (.plain (OpenSpec.upto slotsBackSpec)) slotsBackUptoCard

/-- THE SECOND FORM's CARD OF 'trunnionlaw15.SlotsPlays'. -/
def slotsPlaysUptoCard : Claim7 := { stood := { row := slotsPlaysUptoRow, standIns := [], harness := (true, "9988a2592d1fa53068282adcd17718d454d27f33238b74c43e2721091b5acd39"), looks := false }, kinds := [], alts := [], laidByText := true, laidKinds := [.data], laidTests := true, laidLooks := .later }
def SlotsPlaysUptoCardSaid : Prop := Claim7.holds Tryd.pinned (.plain (OpenSpec.upto slotsPlaysSpec)) slotsPlaysUptoCard
end Rows
end Go.Proofs.YtjacbcephokbbaaDoor
