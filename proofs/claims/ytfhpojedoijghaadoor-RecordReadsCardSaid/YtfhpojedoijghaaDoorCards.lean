/-
  DERIVED. GIVEN WITH THE SEED: THE CARDS: each row of YtfhpojedoijghaaDoorRows.lean that lists a variable, with what it lists TIED to the program's text (the seventh form; the later family's looks); each row that meets fmt, with fmt's text TOLD by the authors' own Lean function (tested against real Go, not proved from fmt's source: count such statements apart). THE CARD IS WHAT COUNTS. Prove the row's statement (the work); the ties are given (YtfhpojedoijghaaDoorTie.lean); close each card by the builder's one call (the guide's Derived/Test/ToyasCard.lean, 'card_holds'). Laid BY PROGRAM, IN A SANDBOX (cutbox-door.mjs). By AI agents, Wed Nov 11 2026. No macro, syntax, notation, axiom, sorry.
-/
import Derived.Test.YtfhpojedoijghaaDoorRows
import GoSem.ClaimSeven
namespace Go.Proofs.YtfhpojedoijghaaDoor
namespace Rows

/-- THE TIED CARD OF 'hoistwaylaw03.RecordReads'. -/
def recordReadsCard : Claim7 := { stood := { row := recordReadsRow, standIns := [], harness := (true, "e0de678a388c60e6ca0fae5f2262c8a7964e56c795c57ca00b0360edf1649afa"), looks := true }, kinds := [], alts := [], laidByText := true, laidKinds := [.handle], laidTests := true, laidLooks := .later }
def RecordReadsCardSaid : Prop := Claim7.holds Tryd.pinned (.plain (OpenSpec.ofChange recordReadsSpec)) recordReadsCard

/-- THE TIED CARD OF 'hoistwaylaw03.RecordWrites'. -/
def recordWritesCard : Claim7 := { stood := { row := recordWritesRow, standIns := [], harness := (true, "e0de678a388c60e6ca0fae5f2262c8a7964e56c795c57ca00b0360edf1649afa"), looks := true }, kinds := [], alts := [], laidByText := true, laidKinds := [.handle], laidTests := true, laidLooks := .later }
def RecordWritesCardSaid : Prop := Claim7.holds Tryd.pinned (.plain (OpenSpec.ofChange recordWritesSpec)) recordWritesCard

/-- THE SECOND FORM's CARD OF 'hoistwaylaw03.RecordReads'. -/
def recordReadsUptoCard : Claim7 := { stood := { row := recordReadsUptoRow, standIns := [], harness := (true, "e0de678a388c60e6ca0fae5f2262c8a7964e56c795c57ca00b0360edf1649afa"), looks := true }, kinds := [], alts := [], laidByText := true, laidKinds := [.handle], laidTests := true, laidLooks := .later }
def RecordReadsUptoCardSaid : Prop := Claim7.holds Tryd.pinned (.plain (OpenSpec.upto recordReadsSpec)) recordReadsUptoCard

/-- THE SECOND FORM's CARD OF 'hoistwaylaw03.RecordWrites'. -/
def recordWritesUptoCard : Claim7 := { stood := { row := recordWritesUptoRow, standIns := [], harness := (true, "e0de678a388c60e6ca0fae5f2262c8a7964e56c795c57ca00b0360edf1649afa"), looks := true }, kinds := [], alts := [], laidByText := true, laidKinds := [.handle], laidTests := true, laidLooks := .later }
def RecordWritesUptoCardSaid : Prop := Claim7.holds Tryd.pinned (.plain (OpenSpec.upto recordWritesSpec)) recordWritesUptoCard
end Rows
end Go.Proofs.YtfhpojedoijghaaDoor
