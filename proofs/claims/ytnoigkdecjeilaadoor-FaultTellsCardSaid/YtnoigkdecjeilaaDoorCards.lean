/-
  DERIVED. GIVEN WITH THE SEED: THE CARDS: each row of YtnoigkdecjeilaaDoorRows.lean that lists a variable, with what it lists TIED to the program's text (the seventh form; the later family's looks); each row that meets fmt, with fmt's text TOLD by the authors' own Lean function (tested against real Go, not proved from fmt's source: count such statements apart). THE CARD IS WHAT COUNTS. Prove the row's statement (the work); the ties are given (YtnoigkdecjeilaaDoorTie.lean); close each card by the builder's one call (the guide's Derived/Test/ToyasCard.lean, 'card_holds'). Laid BY PROGRAM, IN A SANDBOX (cutbox-door.mjs). By AI agents, Wed Nov 11 2026. No macro, syntax, notation, axiom, sorry.
-/
import Derived.Test.YtnoigkdecjeilaaDoorRows
import GoSem.ClaimSeven
namespace Go.Proofs.YtnoigkdecjeilaaDoor
namespace Rows

/-- THE TIED CARD OF 'hoistwaylaw02.FaultTells'. -/
def faultTellsCard : Claim7 := { stood := { row := faultTellsRow, standIns := [], harness := (true, "3354f2619690459de4dcaebbcd0d7f3852cb30c9f9fa3e2c58cc738b57e683b6"), looks := true }, kinds := [], alts := [], laidByText := true, laidKinds := [.data, .data, .data, .handle], laidTests := true, laidLooks := .later }
def FaultTellsCardSaid : Prop := Claim7.holds Tryd.pinned (.plain (OpenSpec.ofChange faultTellsSpec)) faultTellsCard

/-- THE TIED CARD OF 'hoistwaylaw02.FaultWraps'. -/
def faultWrapsCard : Claim7 := { stood := { row := faultWrapsRow, standIns := [], harness := (true, "3354f2619690459de4dcaebbcd0d7f3852cb30c9f9fa3e2c58cc738b57e683b6"), looks := true }, kinds := [], alts := [], laidByText := true, laidKinds := [.handle], laidTests := true, laidLooks := .later }
def FaultWrapsCardSaid : Prop := Claim7.holds Tryd.pinned (.plain (OpenSpec.ofChange faultWrapsSpec)) faultWrapsCard

/-- THE TIED CARD OF 'hoistwaylaw02.FaultOrder'. -/
def faultOrderCard : Claim7 := { stood := { row := faultOrderRow, standIns := [], harness := (true, "3354f2619690459de4dcaebbcd0d7f3852cb30c9f9fa3e2c58cc738b57e683b6"), looks := true }, kinds := [], alts := [], laidByText := true, laidKinds := [.handle], laidTests := true, laidLooks := .later }
def FaultOrderCardSaid : Prop := Claim7.holds Tryd.pinned (.plain (OpenSpec.ofChange faultOrderSpec)) faultOrderCard

/-- THE TIED CARD OF 'hoistwaylaw02.FaultLatch'. -/
def faultLatchCard : Claim7 := { stood := { row := faultLatchRow, standIns := [], harness := (true, "3354f2619690459de4dcaebbcd0d7f3852cb30c9f9fa3e2c58cc738b57e683b6"), looks := true }, kinds := [], alts := [], laidByText := true, laidKinds := [.handle], laidTests := true, laidLooks := .later }
def FaultLatchCardSaid : Prop := Claim7.holds Tryd.pinned (.plain (OpenSpec.ofChange faultLatchSpec)) faultLatchCard

/-- THE TIED CARD OF 'hoistwaylaw02.FaultFirst'. -/
def faultFirstCard : Claim7 := { stood := { row := faultFirstRow, standIns := [], harness := (true, "3354f2619690459de4dcaebbcd0d7f3852cb30c9f9fa3e2c58cc738b57e683b6"), looks := true }, kinds := [], alts := [], laidByText := true, laidKinds := [.handle], laidTests := true, laidLooks := .later }
def FaultFirstCardSaid : Prop := Claim7.holds Tryd.pinned (.plain (OpenSpec.ofChange faultFirstSpec)) faultFirstCard

/-- THE TIED CARD OF 'hoistwaylaw02.FaultClears'. -/
def faultClearsCard : Claim7 := { stood := { row := faultClearsRow, standIns := [], harness := (true, "3354f2619690459de4dcaebbcd0d7f3852cb30c9f9fa3e2c58cc738b57e683b6"), looks := true }, kinds := [], alts := [], laidByText := true, laidKinds := [.handle], laidTests := true, laidLooks := .later }
def FaultClearsCardSaid : Prop := Claim7.holds Tryd.pinned (.plain (OpenSpec.ofChange faultClearsSpec)) faultClearsCard

/-- THE SECOND FORM's CARD OF 'hoistwaylaw02.FaultTells'. -/
def faultTellsUptoCard : Claim7 := { stood := { row := faultTellsUptoRow, standIns := [], harness := (true, "3354f2619690459de4dcaebbcd0d7f3852cb30c9f9fa3e2c58cc738b57e683b6"), looks := true }, kinds := [], alts := [], laidByText := true, laidKinds := [.data, .data, .data, .handle], laidTests := true, laidLooks := .later }
def FaultTellsUptoCardSaid : Prop := Claim7.holds Tryd.pinned (.plain (OpenSpec.upto faultTellsSpec)) faultTellsUptoCard

/-- THE SECOND FORM's CARD OF 'hoistwaylaw02.FaultWraps'. -/
def faultWrapsUptoCard : Claim7 := { stood := { row := faultWrapsUptoRow, standIns := [], harness := (true, "3354f2619690459de4dcaebbcd0d7f3852cb30c9f9fa3e2c58cc738b57e683b6"), looks := true }, kinds := [], alts := [], laidByText := true, laidKinds := [.handle], laidTests := true, laidLooks := .later }
def FaultWrapsUptoCardSaid : Prop := Claim7.holds Tryd.pinned (.plain (OpenSpec.upto faultWrapsSpec)) faultWrapsUptoCard

/-- THE SECOND FORM's CARD OF 'hoistwaylaw02.FaultOrder'. -/
def faultOrderUptoCard : Claim7 := { stood := { row := faultOrderUptoRow, standIns := [], harness := (true, "3354f2619690459de4dcaebbcd0d7f3852cb30c9f9fa3e2c58cc738b57e683b6"), looks := true }, kinds := [], alts := [], laidByText := true, laidKinds := [.handle], laidTests := true, laidLooks := .later }
def FaultOrderUptoCardSaid : Prop := Claim7.holds Tryd.pinned (.plain (OpenSpec.upto faultOrderSpec)) faultOrderUptoCard

/-- THE SECOND FORM's CARD OF 'hoistwaylaw02.FaultLatch'. -/
def faultLatchUptoCard : Claim7 := { stood := { row := faultLatchUptoRow, standIns := [], harness := (true, "3354f2619690459de4dcaebbcd0d7f3852cb30c9f9fa3e2c58cc738b57e683b6"), looks := true }, kinds := [], alts := [], laidByText := true, laidKinds := [.handle], laidTests := true, laidLooks := .later }
def FaultLatchUptoCardSaid : Prop := Claim7.holds Tryd.pinned (.plain (OpenSpec.upto faultLatchSpec)) faultLatchUptoCard

/-- THE SECOND FORM's CARD OF 'hoistwaylaw02.FaultFirst'. -/
def faultFirstUptoCard : Claim7 := { stood := { row := faultFirstUptoRow, standIns := [], harness := (true, "3354f2619690459de4dcaebbcd0d7f3852cb30c9f9fa3e2c58cc738b57e683b6"), looks := true }, kinds := [], alts := [], laidByText := true, laidKinds := [.handle], laidTests := true, laidLooks := .later }
def FaultFirstUptoCardSaid : Prop := Claim7.holds Tryd.pinned (.plain (OpenSpec.upto faultFirstSpec)) faultFirstUptoCard

/-- THE SECOND FORM's CARD OF 'hoistwaylaw02.FaultClears'. -/
def faultClearsUptoCard : Claim7 := { stood := { row := faultClearsUptoRow, standIns := [], harness := (true, "3354f2619690459de4dcaebbcd0d7f3852cb30c9f9fa3e2c58cc738b57e683b6"), looks := true }, kinds := [], alts := [], laidByText := true, laidKinds := [.handle], laidTests := true, laidLooks := .later }
def FaultClearsUptoCardSaid : Prop := Claim7.holds Tryd.pinned (.plain (OpenSpec.upto faultClearsSpec)) faultClearsUptoCard
end Rows
end Go.Proofs.YtnoigkdecjeilaaDoor
