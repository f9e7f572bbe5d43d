/-
  DERIVED. GIVEN WITH THE SEED: THE CARDS: each row of YtdnigflmcmammaaDoorRows.lean that lists a variable, with what it lists TIED to the program's text (the seventh form; the later family's looks); each row that meets fmt, with fmt's text TOLD by the authors' own Lean function (tested against real Go, not proved from fmt's source: count such statements apart). THE CARD IS WHAT COUNTS. Prove the row's statement (the work); the ties are given (YtdnigflmcmammaaDoorTie.lean); close each card by the builder's one call (the guide's Derived/Test/ToyasCard.lean, 'card_holds'). Laid BY PROGRAM, IN A SANDBOX (cutbox-door.mjs). By AI agents, Wed Nov 11 2026. No macro, syntax, notation, axiom, sorry.
-/
import Derived.Test.YtdnigflmcmammaaDoorRows
import GoSem.ClaimSeven
namespace Go.Proofs.YtdnigflmcmammaaDoor
namespace Rows

/-- THE TIED CARD OF 'hoistwaylaw05.ConfigSmall'. -/
def configSmallCard : Claim7 := { stood := { row := configSmallRow, standIns := [], harness := (true, "2bc3f9642374f700b32d5cea77f63b523f3771e8458786741c0fc539ea81e27c"), looks := true }, kinds := [], alts := [], laidByText := true, laidKinds := [.handle], laidTests := true, laidLooks := .later }
def ConfigSmallCardSaid : Prop := Claim7.holds Tryd.pinned (.plain (OpenSpec.ofChange configSmallSpec)) configSmallCard

/-- THE SECOND FORM's CARD OF 'hoistwaylaw05.ConfigSmall'. -/
def configSmallUptoCard : Claim7 := { stood := { row := configSmallUptoRow, standIns := [], harness := (true, "2bc3f9642374f700b32d5cea77f63b523f3771e8458786741c0fc539ea81e27c"), looks := true }, kinds := [], alts := [], laidByText := true, laidKinds := [.handle], laidTests := true, laidLooks := .later }
def ConfigSmallUptoCardSaid : Prop := Claim7.holds Tryd.pinned (.plain (OpenSpec.upto configSmallSpec)) configSmallUptoCard
end Rows
end Go.Proofs.YtdnigflmcmammaaDoor
